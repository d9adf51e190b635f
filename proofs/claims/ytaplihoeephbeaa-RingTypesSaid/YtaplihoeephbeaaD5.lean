/- D5: a text of a symbolic executor that is proved sound, and contracts that are proved with it. -/
import Derived.Test.YtaplihoeephbeaaD4
import Derived.Test.YtaplihoeephbeaaR5
set_option linter.unusedVariables false
set_option linter.unusedSimpArgs false
namespace Go.Proofs.Ytaplihoeephbeaa.V
open Go Go.Proofs
set_option maxRecDepth 100000
set_option maxHeartbeats 40000000
@[reducible] def dq2 (own : Bool) (m : Int) (c : List Int) (x : Fam) : Objs := bif own then [dqA m c.length 1, rowI c, x] else [dqB m c, one .gone, x]
theorem law15 (room : Int) (hroom : I64 room) (l : List Int) (hl : lok l) (n : Int) (hn : I64 n) : Spec Try.prog 15 [.int .i64 room, ints l, .int .i64 n] [] (fun d _ => d = .bool true) := by
  have hlm : (l.map (D.int .i64)).length = l.length := List.length_map ..
  have hm := dqI_r room
  refine Spec.by Try.func15 rfl (by decide) (by decide +kernel) rfl ?_
  (refine goA ?_)
  refine Call.mk (new73 room) ?_
  rintro d os' ⟨rfl, rfl⟩
  obtain ⟨m, hme⟩ : ∃ m, dqI room = m := ⟨_, rfl⟩
  have hmi : (if 8 < (if room < 1 then 1 else room) then 8 else (if room < 1 then 1 else room)) = m := hme
  rw [hme] at hm ⊢
  (refine goR ?_)
  ((with_reducible refine Pt.go ?_); conv => whnf)
  (refine goR ?_)
  ((with_reducible refine Pt.go ?_); conv => whnf)
  (refine goR ?_)
  rw [hmi]
  ((with_reducible refine Pt.go ?_); conv => whnf)
  (refine goR ?_)
  refine Pt.weak (Weak.trans (Weak.only [(9, .nils), (1, ints l), (2, .int .i64 n), (6, .bool false), (7, .ptr 0 0 2 0 0), (8, .int .i64 m)] [one (.row 201 2 false [.agg [.int .i64 m, .nils]])] (by kernel_rfl) tld) (Weak.trans (Weak.frzO (fun _ => false) [] 0 (ty := 201) (sz := 2) (es := [.agg [.int .i64 m, .nils]]) rfl rfl [.agg [.int .i64 m, .lst 1 true []]] rfl (.cons (View.agg (.cons (.same _) (.cons (View.nils 1 true) .nil))) .nil) trivial) (Weak.trans Weak.gone (Weak.nilrow 9 rfl 3 1 true)))) ?_
  (refine goA ?_)
  refine Loop.inv (A := Nat × Bool × List Int) (List.range 116) (fun x => [(1, ints l), (2, .int .i64 n), (6, .bool false), (7, .ptr 0 0 2 0 0), (8, .int .i64 m), (9, .sl 2 0 1 0 x.2.2.length none), (10, .int .i64 (x.1 : Int))]) (fun x => dq2 x.2.1 m x.2.2 (rowI x.2.2)) (fun x => x.1 ≤ l.length ∧ x.1 ≤ 8 ∧ x.2.2 = newL m [] (l.take x.1) ∧ (x.2.2.length : Int) ≤ m) (fun x => l.length - x.1) (0, false, []) ⟨Nat.zero_le _, Nat.zero_le _, rfl, by show ((0 : Nat) : Int) ≤ m; omega⟩ ?_ ?_
  · exact Weak.start' rfl rfl tld
  rintro ⟨i, own, c⟩ ⟨hi, hi8, hce, hcm⟩
  dsimp only at hi hi8 hce hcm ⊢
  have hcM : (c.map (D.int .i64)).length = c.length := List.length_map ..
  have hci : c.length ≤ i := by
    rw [hce, newL_take m (by omega) _ [] (by simp; omega)]
    simp; omega
  by_cases hlim : i < l.length ∧ i < 8
  · obtain ⟨hil, hi7⟩ := hlim
    have hget : l[i]? = some l[i] := List.getElem?_eq_getElem hil
    have hcs : newL m [] (l.take (i + 1)) = (pushC m c l[i]).2 := by
      rw [List.take_add_one, hget, hce]
      exact newL_snoc m (l.take i) [] l[i]
    have hcs := hcs.symm
    (refine goA ?_)
    refine Opt.of (get_map hget) ?_
    (refine goA ?_)
    cases own with
    | true =>
      refine Call.mk (push74at true m c l[i] (by omega) hcm 0 1 _ rfl rfl (by decide)) ?_
      rintro d os' ⟨rfl, rfl⟩
      by_cases hf : (c.length : Int) = m
      · have hpu : pushC m c l[i] = (6, c) := by unfold pushC; rw [if_pos hf]
        rw [if_pos hf, hpu]
        rw [hpu] at hcs
        (refine goA ?_)
        refine ⟨_, _, _, ?_, ⟨(i + 1, true, c), ?_, rfl, rfl, rfl⟩, ?_⟩
        · show l.length - (i + 1) < l.length - i; omega
        · exact ⟨by show i + 1 ≤ _; omega, by show i + 1 ≤ _; omega, hcs, hcm⟩
        · refine Weak.backT 3 (by simp) (by first | rfl | kernel_rfl) (by kernel_rfl) (Nat.le_of_ble_eq_true rfl) tld (by kernel_rfl) (by kernel_rfl)
      · have hpu : pushC m c l[i] = (0, c ++ [l[i]]) := by unfold pushC; rw [if_neg hf]
        rw [if_neg hf, hpu]
        rw [hpu] at hcs
        (refine goA ?_)
        refine Opt.of (get_map hget) ?_
        (refine goA ?_)
        refine App.only false rfl rfl ?_
        (refine goA ?_)
        refine ⟨_, _, _, ?_, ⟨(i + 1, true, c ++ [l[i]]), ?_, rfl, rfl, rfl⟩, ?_⟩
        · show l.length - (i + 1) < l.length - i; omega
        · exact ⟨by show i + 1 ≤ _; omega, by show i + 1 ≤ _; omega, hcs, by show ((c ++ [l[i]]).length : Int) ≤ m; rw [List.length_append, List.length_singleton]; omega⟩
        · refine Weak.trans (Weak.only [(1, ints l), (2, .int .i64 n), (6, .bool false), (7, .ptr 0 0 2 0 0), (8, .int .i64 m), (9, .sl 4 0 1 0 (c.length + 1) none), (10, .int .i64 ((i : Int) + 1))] [dqA m (c.length + 1) 3, one .gone, one .gone, rowI (c ++ [l[i]]), one (.row 3 1 true (c.map (D.int .i64) ++ [D.int .i64 l[i]]))] (by kernel_rfl) tld) ?_
          rw [map_snoc, show c.length + 1 = (c ++ [l[i]]).length by rw [List.length_append, List.length_singleton]]
          refine Weak.trans (Weak.shift 3 1 (by decide) (by simp) (Nat.le_of_ble_eq_true rfl) (Nat.le_of_ble_eq_true rfl) (fun j => by cases j <;> rfl) rfl) ?_
          refine Weak.trans (Weak.shift 4 2 (by decide) (by simp) (Nat.le_of_ble_eq_true rfl) (Nat.le_of_ble_eq_true rfl) (fun j => by cases j <;> rfl) rfl) ?_
          refine Weak.backT 3 (by simp) (by first | rfl | kernel_rfl) (by kernel_rfl) (Nat.le_of_ble_eq_true rfl) tld (by kernel_rfl) (by kernel_rfl)
    | false =>
      refine Call.mk (push74at false m c l[i] (by omega) hcm 0 1 _ rfl rfl (by decide)) ?_
      rintro d os' ⟨rfl, rfl⟩
      by_cases hf : (c.length : Int) = m
      · have hpu : pushC m c l[i] = (6, c) := by unfold pushC; rw [if_pos hf]
        rw [if_pos hf, hpu]
        rw [hpu] at hcs
        (refine goA ?_)
        refine ⟨_, _, _, ?_, ⟨(i + 1, false, c), ?_, rfl, rfl, rfl⟩, ?_⟩
        · show l.length - (i + 1) < l.length - i; omega
        · exact ⟨by show i + 1 ≤ _; omega, by show i + 1 ≤ _; omega, hcs, hcm⟩
        · refine Weak.backT 3 (by simp) (by first | rfl | kernel_rfl) (by kernel_rfl) (Nat.le_of_ble_eq_true rfl) tld (by kernel_rfl) (by kernel_rfl)
      · have hpu : pushC m c l[i] = (0, c ++ [l[i]]) := by unfold pushC; rw [if_neg hf]
        rw [if_neg hf, hpu]
        rw [hpu] at hcs
        (refine goA ?_)
        refine Opt.of (get_map hget) ?_
        (refine goA ?_)
        refine App.only false rfl rfl ?_
        (refine goA ?_)
        refine ⟨_, _, _, ?_, ⟨(i + 1, true, c ++ [l[i]]), ?_, rfl, rfl, rfl⟩, ?_⟩
        · show l.length - (i + 1) < l.length - i; omega
        · exact ⟨by show i + 1 ≤ _; omega, by show i + 1 ≤ _; omega, hcs, by show ((c ++ [l[i]]).length : Int) ≤ m; rw [List.length_append, List.length_singleton]; omega⟩
        · refine Weak.trans (Weak.only [(1, ints l), (2, .int .i64 n), (6, .bool false), (7, .ptr 0 0 2 0 0), (8, .int .i64 m), (9, .sl 4 0 1 0 (c.length + 1) none), (10, .int .i64 ((i : Int) + 1))] [dqA m (c.length + 1) 3, one .gone, one .gone, rowI (c ++ [l[i]]), one (.row 3 1 true (c.map (D.int .i64) ++ [D.int .i64 l[i]]))] (by kernel_rfl) tld) ?_
          rw [map_snoc, show c.length + 1 = (c ++ [l[i]]).length by rw [List.length_append, List.length_singleton]]
          refine Weak.trans (Weak.shift 3 1 (by decide) (by simp) (Nat.le_of_ble_eq_true rfl) (Nat.le_of_ble_eq_true rfl) (fun j => by cases j <;> rfl) rfl) ?_
          refine Weak.trans (Weak.shift 4 2 (by decide) (by simp) (Nat.le_of_ble_eq_true rfl) (Nat.le_of_ble_eq_true rfl) (fun j => by cases j <;> rfl) rfl) ?_
          refine Weak.backT 3 (by simp) (by first | rfl | kernel_rfl) (by kernel_rfl) (Nat.le_of_ble_eq_true rfl) tld (by kernel_rfl) (by kernel_rfl)
  · have hlen : (if 8 < (if m < (l.length : Int) then m else (l.length : Int)) then 8 else (if m < (l.length : Int) then m else (l.length : Int))) = (c.length : Int) := by
      rw [hce, newL_take m (by omega) _ [] (by simp; omega)]
      simp only [List.nil_append, List.length_nil, Nat.sub_zero, List.length_take]
      split <;> split <;> omega
    apply cutG (A := Unit) (n0 := 0) (fun _ => [(2, .int .i64 n), (1, ints l), (6, .bool false), (7, .ptr 0 0 2 0 0), (8, .int .i64 m), (9, .sl 2 0 1 0 c.length none)]) (fun _ => dq2 own m c (rowI c)) (fun _ => True)
    · intro key
      by_cases hA : i < l.length
      · cases own <;> (
          (refine goR ?_)
          ((with_reducible refine Pt.go ?_); conv => whnf)
          (refine goR ?_)
          exact Pt.weak (Weak.only [(2, .int .i64 n), (1, ints l), (6, .bool false), (7, .ptr 0 0 2 0 0), (8, .int .i64 m), (9, .sl 2 0 1 0 c.length none)] _ rfl tld) (key () trivial))
      · cases own <;> (
          (refine goR ?_)
          ((with_reducible refine Pt.go ?_); conv => whnf)
          (refine goR ?_)
          exact Pt.weak (Weak.only [(2, .int .i64 n), (1, ints l), (6, .bool false), (7, .ptr 0 0 2 0 0), (8, .int .i64 m), (9, .sl 2 0 1 0 c.length none)] _ rfl tld) (key () trivial))
    · rintro _ _
      refine Pt.weak (t := { m := [(9, ints c), (2, .int .i64 n), (1, ints l), (6, .bool false), (7, .ptr 0 0 2 0 0), (8, .int .i64 m), (9, .sl 2 0 1 0 c.length none)], objs := dq2 own m c (one .gone) }) (by cases own <;> exact Weak.frzK (fun i => Nat.beq i 2) [(9, ints c)] ⟨View.slAll rfl rfl hcM (by simp) (ViewL.same _) (pureL_map (fun _ => rfl) _), trivial⟩) ?_
      have hlen2 : (if 8 < (if m < ((l.map (D.int .i64)).length : Int) then m else ((l.map (D.int .i64)).length : Int)) then 8 else (if m < ((l.map (D.int .i64)).length : Int) then m else ((l.map (D.int .i64)).length : Int))) = ((c.map (D.int .i64)).length : Int) := by rw [hlm, hcM]; exact hlen
      ((with_reducible refine Pt.go ?_); conv => whnf)
      rw [hlen2]
      (refine goA ?_)
      refine Call.mk ((around33 n (((c.map (D.int .i64)).length : Int) + 1) hn (by omega)).only _ rfl (by rintro d rfl; rfl)) ?_; rintro d os' ⟨rfl, rfl⟩
      have hk := around_lt n (((c.map (D.int .i64)).length : Int) + 1) (by omega)
      obtain ⟨k, hke⟩ : ∃ k, around n (((c.map (D.int .i64)).length : Int) + 1) = k := ⟨_, rfl⟩
      rw [hke] at hk ⊢
      rw [hcM] at hk
      (refine goA ?_)
      refine Loop.inv (A := Nat × Bool) (List.range 116) (fun x => [(6, .bool false), (7, .ptr 0 0 2 0 0), (8, .int .i64 m), (9, ints c), (11, .int .i64 k), (12, .int .i64 (x.1 : Int))]) (fun x => dq2 x.2 m (c.drop x.1) (one .gone)) (fun x => (x.1 : Int) ≤ k) (fun x => k.toNat - x.1) (0, own) (by show ((0 : Nat) : Int) ≤ k; omega) ?_ ?_
      · exact Weak.start' rfl rfl tld
      rintro ⟨j, own2⟩ hjk
      dsimp only at hjk ⊢
      (refine goA ?_)
      refine Br.dec (fun h1 => ?_) (fun h1 => ?_)
      · have hjl : j < c.length := by omega
        have hgj : c[j]? = some c[j] := List.getElem?_eq_getElem hjl
        have hcd : c.drop j = c[j] :: c.drop (j + 1) := List.drop_eq_getElem_cons hjl
        (refine goA ?_)
        cases own2 with
        | true =>
          refine Call.mk (steal75at true m (c.drop j) (by rw [List.length_drop]; omega) 0 1 _ rfl rfl (by decide)) ?_
          rintro d os' (⟨h, _⟩ | ⟨v, h, rfl, rfl⟩)
          · rw [hcd] at h; cases h
          · rw [hcd] at h
            obtain rfl : c[j] = v := Option.some.inj h
            have htl : (c.drop j).tail = c.drop (j + 1) := by rw [hcd]; rfl
            rw [htl]
            (refine goA ?_)
            refine Opt.of (get_map hgj) ?_
            (refine goA ?_)
            refine ⟨_, _, _, ?_, ⟨(j + 1, false), ?_, rfl, rfl, rfl⟩, ?_⟩
            · show k.toNat - (j + 1) < k.toNat - j; omega
            · show ((j + 1 : Nat) : Int) ≤ k; omega
            · refine Weak.backT 3 (by simp) (by first | rfl | kernel_rfl) (by kernel_rfl) (Nat.le_of_ble_eq_true rfl) tld (by kernel_rfl) (by kernel_rfl)
        | false =>
          refine Call.mk (steal75at false m (c.drop j) (by rw [List.length_drop]; omega) 0 1 _ rfl rfl (by decide)) ?_
          rintro d os' (⟨h, _⟩ | ⟨v, h, rfl, rfl⟩)
          · rw [hcd] at h; cases h
          · rw [hcd] at h
            obtain rfl : c[j] = v := Option.some.inj h
            have htl : (c.drop j).tail = c.drop (j + 1) := by rw [hcd]; rfl
            rw [htl]
            (refine goA ?_)
            refine Opt.of (get_map hgj) ?_
            (refine goA ?_)
            refine ⟨_, _, _, ?_, ⟨(j + 1, false), ?_, rfl, rfl, rfl⟩, ?_⟩
            · show k.toNat - (j + 1) < k.toNat - j; omega
            · show ((j + 1 : Nat) : Int) ≤ k; omega
            · refine Weak.backT 3 (by simp) (by first | rfl | kernel_rfl) (by kernel_rfl) (Nat.le_of_ble_eq_true rfl) tld (by kernel_rfl) (by kernel_rfl)
      · have hjke : (j : Int) = k := by omega
        have hkt : k.toNat = j := by omega
        have hdj : c.drop j = (c.drop k.toNat).take (c.length - j) := by rw [hkt, List.take_of_length_le (by rw [List.length_drop]; exact Nat.le_refl _)]
        rw [hdj]
        (refine goA ?_)
        refine Loop.inv (A := Nat × Bool) (List.range 116) (fun x => [(6, .bool false), (7, .ptr 0 0 2 0 0), (8, .int .i64 m), (9, ints c), (11, .int .i64 k), (15, .int .i64 (k + (x.1 : Int) - 1))]) (fun x => dq2 x.2 m ((c.drop k.toNat).take x.1) (one .gone)) (fun x => k + (x.1 : Int) ≤ (c.length : Int)) (fun x => x.1) (c.length - j, own2) (by show k + ((c.length - j : Nat) : Int) ≤ _; omega) ?_ ?_
        · exact Weak.start' rfl rfl tld
        rintro ⟨t, own3⟩ hkt2
        dsimp only at hkt2 ⊢
        have hc8 : c.length ≤ 8 := by omega
        cases t with
        | zero =>
          rw [List.take_zero]
          have hz : k + ((0 : Nat) : Int) - 1 < k := by omega
          (refine goA ?_)
          cases own3 with
          | true =>
            refine Call.mk (Spec.dqL (len77 true m []) 0 1 _ rfl rfl (by decide) rfl (by rintro d rfl; rfl)) ?_
            rintro d os' ⟨rfl, rfl⟩
            (refine goA ?_)
            refine Call.mk (Spec.dqL (room78 true m [] (by omega) (by decide)) 0 1 _ rfl rfl (by decide) rfl (by rintro d rfl; rfl)) ?_
            rintro d os' ⟨rfl, rfl⟩
            have hr0 : m - ((([] : List Int).length : Nat) : Int) = m := by simp
            rw [hr0]
            (refine goA ?_)
            refine Call.mk ((lives79).only _ rfl (by rintro d rfl; rfl)) ?_; rintro d os' ⟨rfl, rfl⟩
            (refine goA ?_)
            exact Ret.mk [.tmp _] rfl rfl
          | false =>
            refine Call.mk (Spec.dqL (len77 false m []) 0 1 _ rfl rfl (by decide) rfl (by rintro d rfl; rfl)) ?_
            rintro d os' ⟨rfl, rfl⟩
            (refine goA ?_)
            refine Call.mk (Spec.dqL (room78 false m [] (by omega) (by decide)) 0 1 _ rfl rfl (by decide) rfl (by rintro d rfl; rfl)) ?_
            rintro d os' ⟨rfl, rfl⟩
            have hr0 : m - ((([] : List Int).length : Nat) : Int) = m := by simp
            rw [hr0]
            (refine goA ?_)
            refine Call.mk ((lives79).only _ rfl (by rintro d rfl; rfl)) ?_; rintro d os' ⟨rfl, rfl⟩
            (refine goA ?_)
            exact Ret.mk [.tmp _] rfl rfl
        | succ t =>
          have hlt : k.toNat + t < c.length := by omega
          have hsn : (c.drop k.toNat).take (t + 1) = (c.drop k.toNat).take t ++ [c[k.toNat + t]] := by rw [List.take_add_one, List.getElem?_drop, List.getElem?_eq_getElem hlt]; rfl
          have hdl : ((c.drop k.toNat).take (t + 1)).dropLast = (c.drop k.toNat).take t := by rw [hsn]; simp
          have hgt : c[(k + ((t + 1 : Nat) : Int) - 1).toNat]? = some c[k.toNat + t] := by rw [show (k + ((t + 1 : Nat) : Int) - 1).toNat = k.toNat + t by omega]; exact List.getElem?_eq_getElem hlt
          have hge : k ≤ k + ((t + 1 : Nat) : Int) - 1 := by omega
          (refine goA ?_)
          cases own3 with
          | true =>
            refine Call.mk (pop76at true m ((c.drop k.toNat).take (t + 1)) (by rw [List.length_take, List.length_drop]; omega) 0 1 _ rfl rfl (by decide)) ?_
            rintro d os' (⟨h, _⟩ | ⟨v, h, rfl, rfl⟩)
            · rw [hsn] at h; simp at h
            · rw [hsn] at h
              obtain rfl : c[k.toNat + t] = v := by simpa using h
              rw [hdl]
              (refine goA ?_)
              refine Opt.of (get_map hgt) ?_
              (refine goA ?_)
              refine ⟨_, _, _, ?_, ⟨(t, false), ?_, rfl, rfl, rfl⟩, ?_⟩
              · show t < t + 1; omega
              · show k + (t : Int) ≤ (c.length : Int); omega
              · refine Weak.backT 3 (by simp) (by first | rfl | kernel_rfl) (by kernel_rfl) (Nat.le_of_ble_eq_true rfl) tld (by kernel_rfl) (by kernel_rfl)
          | false =>
            refine Call.mk (pop76at false m ((c.drop k.toNat).take (t + 1)) (by rw [List.length_take, List.length_drop]; omega) 0 1 _ rfl rfl (by decide)) ?_
            rintro d os' (⟨h, _⟩ | ⟨v, h, rfl, rfl⟩)
            · rw [hsn] at h; simp at h
            · rw [hsn] at h
              obtain rfl : c[k.toNat + t] = v := by simpa using h
              rw [hdl]
              (refine goA ?_)
              refine Opt.of (get_map hgt) ?_
              (refine goA ?_)
              refine ⟨_, _, _, ?_, ⟨(t, false), ?_, rfl, rfl, rfl⟩, ?_⟩
              · show t < t + 1; omega
              · show k + (t : Int) ≤ (c.length : Int); omega
              · refine Weak.backT 3 (by simp) (by first | rfl | kernel_rfl) (by kernel_rfl) (Nat.le_of_ble_eq_true rfl) tld (by kernel_rfl) (by kernel_rfl)
end Go.Proofs.Ytaplihoeephbeaa.V
