/- T3: a text of a symbolic executor that is proved sound, and contracts that are proved with it. -/
import Derived.Test.YtaplihoeephbeaaT2
import Derived.Test.YtaplihoeephbeaaS9
set_option linter.unusedVariables false
set_option linter.unusedSimpArgs false
namespace Go.Proofs.Ytaplihoeephbeaa.V
open Go Go.Proofs
set_option maxRecDepth 100000
set_option maxHeartbeats 40000000
theorem bne_fs {a b : Bool} (h : a = b) : (!(a == b)) = false := by subst h; cases a <;> rfl
def popCs (c : List ByteArray) : ByteArray × Int := match c with
  | [] => (bE, 7)
  | v :: _ => (v, 0)
theorem pop44x {room a n : Int} {L c : List ByteArray} (h : Rgs room a n L c) : Spec Try.prog 44 [.ptr 0 0 4 0 0] [rgCs room a n L.length 1, rowS L] (fun d os' => ∃ a' n' L', (d = .tup [.str (popCs c).1, .int .i64 (popCs c).2] ∧ Rgs room a' n' L' c.tail) ∧ os' = [rgCs room a' n' L'.length 1, rowS L']) := by
  cases c with
  | nil =>
    refine (popE44 h).mono ?_
    rintro d os' ⟨rfl, rfl⟩
    exact ⟨a, n, L, ⟨rfl, h⟩, rfl⟩
  | cons v c =>
    refine (pop44 h).mono ?_
    rintro d os' ⟨rfl, rfl⟩
    exact ⟨_, _, _, ⟨rfl, h.pop⟩, by rw [List.length_set]⟩
theorem law5 (l : List Int) (hl : lok l) (room : Int) (hroom : I64 room) : Spec Try.prog 5 [ints l, .int .i64 room] [] (fun d _ => d = .bool true) := by
  have hlm : (l.map (D.int .i64)).length = l.length := List.length_map ..
  obtain ⟨dec, hdec⟩ := decF
  refine Spec.by Try.func5 rfl (by decide) (by decide +kernel) rfl ?_
  (refine goA ?_)
  refine Call.mk ((around33 room 21 hroom (by decide)).only _ rfl (by rintro d rfl; rfl)) ?_; rintro d os' ⟨rfl, rfl⟩
  have h10 := around_lt room 21 (by omega)
  obtain ⟨rm, hrm⟩ : ∃ rm, around room 21 = rm := ⟨_, rfl⟩
  rw [hrm] at h10 ⊢
  (refine goA ?_)
  refine Call.mk (new41n rm) ?_
  rintro d os' ⟨⟨hg0, rfl⟩, rfl⟩
  rw [roomI_id (by omega) (by omega)] at hg0 ⊢
  have minS : ∀ i : Nat, i < l.length → (i : Int) < rm → (l.take (min i rm.toNat)).map dec ++ [dec (l.getD i 0)] = (l.take (min (i + 1) rm.toNat)).map dec := by
    intro i h1 h2
    have e1 : min i rm.toNat = i := by omega
    have e2 : min (i + 1) rm.toNat = i + 1 := by omega
    rw [e1, e2, List.take_add_one, List.getElem?_eq_getElem h1, List.map_append, List.getD_eq_getElem?_getD, List.getElem?_eq_getElem h1]
    rfl
  (refine goA ?_)
  refine Loop.inv (A := Nat × Int × Int × List ByteArray) (List.range 82) (fun x => [(0, ints l), (1, .int .i64 rm), (4, .bool false), (5, .ptr 0 0 4 0 0), (6, .int .i64 (x.1 : Int))]) (fun x => [rgCs rm x.2.1 x.2.2.1 x.2.2.2.length 1, rowS x.2.2.2]) (fun x => (x.1 ≤ l.length ∧ x.1 ≤ 20) ∧ Rgs rm x.2.1 x.2.2.1 x.2.2.2 ((l.take (min x.1 rm.toNat)).map dec)) (fun x => l.length - x.1) (0, 0, 0, []) ⟨⟨Nat.zero_le _, Nat.zero_le _⟩, hg0⟩ ?_ ?_
  · exact Weak.start' rfl rfl tld
  rintro ⟨i, a, n, L⟩ ⟨⟨hi, hi2⟩, hg⟩
  dsimp only at hi hi2 hg ⊢
  have hcl : ((l.take (min i rm.toNat)).map dec).length = min i rm.toNat := by rw [List.length_map, List.length_take]; omega
  (refine goA ?_)
  apply cutG (A := Unit) (n0 := 0) (fun _ => [(0, ints l), (1, .int .i64 rm), (4, .bool false), (5, .ptr 0 0 4 0 0), (6, .int .i64 (i : Int))]) (fun x => [rgCs rm a n L.length 1, rowS L]) (fun _ => l.length ≤ i ∨ i = 20)
  · intro key
    refine Br.dec (fun h0 => ?_) (fun h0 => ?_)
    · (refine goA ?_)
      refine Br.dec (fun h1 => ?_) (fun h1 => ?_)
      · have hil : i < l.length := by omega
        have hget : l[i]? = some l[i] := List.getElem?_eq_getElem hil
        have hI : I64 l[i] := hl.2 _ (List.getElem_mem _)
        (refine goA ?_)
        refine Opt.of (get_map hget) ?_
        (refine goA ?_)
        refine Call.mk ((hdec l[i] hI).only _ rfl (by rintro d rfl; rfl)) ?_; rintro d os' ⟨rfl, rfl⟩
        (refine goA ?_)
        by_cases hf : (i : Int) < rm
        · have hpu : pushCs rm ((l.take (min i rm.toNat)).map dec) (dec l[i]) = (0, (l.take (min (i + 1) rm.toNat)).map dec) := by
            unfold pushCs
            rw [if_neg (by omega), ← minS i hil hf, List.getD_eq_getElem?_getD, hget]
            rfl
          have hb : (!(true == decide ((i : Int) < rm))) = false := bne_fs (by rw [decide_eq_true hf])
          refine Call.mk (push42 hg (dec l[i])) ?_
          rintro d os' ⟨a3, n3, L3, g, ⟨rfl, hg3⟩, rfl⟩
          rw [hpu] at hg3 ⊢
          cases g with
          | true =>
            (refine goA ?_)
            refine ⟨_, _, _, ?_, ⟨(i + 1, a3, n3, L3), ?_, rfl, rfl, rfl⟩, ?_⟩
            · show l.length - (i + 1) < l.length - i; omega
            · exact ⟨⟨hil, by omega⟩, hg3⟩
            · refine Weak.trans (Weak.shift 2 1 (by decide) (by simp) (Nat.le_of_ble_eq_true rfl) (Nat.le_of_ble_eq_true rfl) (fun j => by cases j <;> rfl) rfl) ?_
              refine Weak.backT 2 (by simp) (by first | rfl | kernel_rfl) (by kernel_rfl) (Nat.le_of_ble_eq_true rfl) tld (by kernel_rfl) (by kernel_rfl)
          | false =>
            (refine goA ?_)
            refine ⟨_, _, _, ?_, ⟨(i + 1, a3, n3, L3), ?_, rfl, rfl, rfl⟩, ?_⟩
            · show l.length - (i + 1) < l.length - i; omega
            · exact ⟨⟨hil, by omega⟩, hg3⟩
            · refine Weak.backT 2 (by simp) (by first | rfl | kernel_rfl) (by kernel_rfl) (Nat.le_of_ble_eq_true rfl) tld (by kernel_rfl) (by kernel_rfl)
        · have hpu : pushCs rm ((l.take (min i rm.toNat)).map dec) (dec l[i]) = (6, (l.take (min (i + 1) rm.toNat)).map dec) := by
            unfold pushCs
            rw [if_pos (by omega), show min (i + 1) rm.toNat = min i rm.toNat by omega]
          have hb : (!(false == decide ((i : Int) < rm))) = false := bne_fs (by rw [decide_eq_false hf])
          refine Call.mk (push42 hg (dec l[i])) ?_
          rintro d os' ⟨a3, n3, L3, g, ⟨rfl, hg3⟩, rfl⟩
          rw [hpu] at hg3 ⊢
          cases g with
          | true =>
            (refine goA ?_)
            refine ⟨_, _, _, ?_, ⟨(i + 1, a3, n3, L3), ?_, rfl, rfl, rfl⟩, ?_⟩
            · show l.length - (i + 1) < l.length - i; omega
            · exact ⟨⟨hil, by omega⟩, hg3⟩
            · refine Weak.trans (Weak.shift 2 1 (by decide) (by simp) (Nat.le_of_ble_eq_true rfl) (Nat.le_of_ble_eq_true rfl) (fun j => by cases j <;> rfl) rfl) ?_
              refine Weak.backT 2 (by simp) (by first | rfl | kernel_rfl) (by kernel_rfl) (Nat.le_of_ble_eq_true rfl) tld (by kernel_rfl) (by kernel_rfl)
          | false =>
            (refine goA ?_)
            refine ⟨_, _, _, ?_, ⟨(i + 1, a3, n3, L3), ?_, rfl, rfl, rfl⟩, ?_⟩
            · show l.length - (i + 1) < l.length - i; omega
            · exact ⟨⟨hil, by omega⟩, hg3⟩
            · refine Weak.backT 2 (by simp) (by first | rfl | kernel_rfl) (by kernel_rfl) (Nat.le_of_ble_eq_true rfl) tld (by kernel_rfl) (by kernel_rfl)
      · (refine goR ?_)
        refine Pt.weak (Weak.only [(0, ints l), (1, .int .i64 rm), (4, .bool false), (5, .ptr 0 0 4 0 0), (6, .int .i64 (i : Int))] [rgCs rm a n L.length 1, rowS L] (by kernel_rfl) tld) ?_
        exact key () (.inr (by omega))
    · (refine goR ?_)
      refine Pt.weak (Weak.only [(0, ints l), (1, .int .i64 rm), (4, .bool false), (5, .ptr 0 0 4 0 0), (6, .int .i64 (i : Int))] [rgCs rm a n L.length 1, rowS L] (by kernel_rfl) tld) ?_
      exact key () (.inl (by omega))
  rintro _ hend
  have hc : (l.take (min i rm.toNat)).map dec = (l.take (min (min l.length rm.toNat) 20)).map dec := by rw [show min i rm.toNat = min (min l.length rm.toNat) 20 by omega]
  rw [hc] at hg
  obtain ⟨m, hm⟩ : ∃ m : Nat, min (min l.length rm.toNat) 20 = m := ⟨_, rfl⟩
  rw [hm] at hg
  have hcm : ((l.take m).map dec).length = m := by rw [List.length_map, List.length_take]; omega
  have hmin : (if 20 < (if rm < ((l.map (D.int .i64)).length : Int) then rm else ((l.map (D.int .i64)).length : Int)) then 20 else (if rm < ((l.map (D.int .i64)).length : Int) then rm else ((l.map (D.int .i64)).length : Int))) = (m : Int) := by
    rw [hlm]
    by_cases h1 : rm < (l.length : Int)
    · rw [if_pos h1]
      by_cases h2 : (20 : Int) < rm
      · rw [if_pos h2]; omega
      · rw [if_neg h2]; omega
    · rw [if_neg h1]
      by_cases h2 : (20 : Int) < l.length
      · rw [if_pos h2]; omega
      · rw [if_neg h2]; omega
  (refine goA ?_)
  rw [hmin]
  refine Loop.inv (A := Nat × Int × Int × List ByteArray) (List.range 82) (fun x => [(0, ints l), (4, .bool false), (5, .ptr 0 0 4 0 0), (8, .int .i64 (m : Int)), (9, .int .i64 (x.1 : Int))]) (fun x => [rgCs rm x.2.1 x.2.2.1 x.2.2.2.length 1, rowS x.2.2.2]) (fun x => x.1 ≤ m ∧ Rgs rm x.2.1 x.2.2.1 x.2.2.2 (((l.take m).map dec).drop x.1)) (fun x => m - x.1) (0, a, n, L) ⟨Nat.zero_le _, hg⟩ ?_ ?_
  · exact Weak.start' rfl rfl tld
  rintro ⟨j, a, n, L⟩ ⟨hj, hg⟩
  dsimp only at hj hg ⊢
  (refine goA ?_)
  refine Br.dec (fun h0 => ?_) (fun h0 => ?_)
  · have hjl : j < l.length := by omega
    have hget : l[j]? = some l[j] := List.getElem?_eq_getElem hjl
    have hI : I64 l[j] := hl.2 _ (List.getElem_mem _)
    have hd : ((l.take m).map dec).drop j = dec l[j] :: ((l.take m).map dec).drop (j + 1) := by
      rw [List.drop_eq_getElem_cons (by omega)]
      simp
    rw [hd] at hg
    have hb : (!decide (dec l[j] = dec l[j])) = false := by rw [decide_eq_true rfl]; rfl
    (refine goA ?_)
    refine Call.mk (pop44x hg) ?_
    rintro d os' ⟨a3, n3, L3, ⟨rfl, hg3⟩, rfl⟩
    (refine goA ?_)
    refine Opt.of (get_map hget) ?_
    (refine goA ?_)
    refine Call.mk ((hdec l[j] hI).only _ rfl (by rintro d rfl; rfl)) ?_; rintro d os' ⟨rfl, rfl⟩
    (refine goA ?_)
    refine ⟨_, _, _, ?_, ⟨(j + 1, a3, n3, L3), ?_, rfl, rfl, rfl⟩, ?_⟩
    · show m - (j + 1) < m - j; omega
    · exact ⟨by show j + 1 ≤ m; omega, hg3⟩
    · refine Weak.backT 2 (by simp) (by first | rfl | kernel_rfl) (by kernel_rfl) (Nat.le_of_ble_eq_true rfl) tld (by kernel_rfl) (by kernel_rfl)
  · obtain rfl : j = m := by omega
    have hd : ((l.take j).map dec).drop j = [] := List.drop_eq_nil_iff.2 (by omega)
    rw [hd] at hg
    (refine goA ?_)
    refine Call.mk (pop44x hg) ?_
    rintro d os' ⟨a3, n3, L3, ⟨rfl, hg3⟩, rfl⟩
    (refine goA ?_)
    refine Call.mk ((lives45).only _ rfl (by rintro d rfl; rfl)) ?_; rintro d os' ⟨rfl, rfl⟩
    (refine goA ?_)
    exact Ret.mk [.tmp _] rfl rfl
end Go.Proofs.Ytaplihoeephbeaa.V
