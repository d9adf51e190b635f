/- D7: a text of a symbolic executor that is proved sound, and contracts that are proved with it. -/
import Derived.Test.YtaplihoeephbeaaF1
set_option linter.unusedVariables false
set_option linter.unusedSimpArgs false
namespace Go.Proofs.Ytaplihoeephbeaa.V
open Go Go.Proofs
set_option maxRecDepth 100000
set_option maxHeartbeats 40000000
@[reducible] def P17 (l : List Int) (m : Int) (i : Int) : List (Nat × D) := [(1, ints l), (5, .ptr 0 0 2 0 0), (6, .int .i64 m), (8, .int .i64 i)]
@[reducible] def P18 (l : List Int) (m : Int) (lo n : Nat) (i : Int) : List (Nat × D) := (7, .sl 2 0 1 lo n none) :: P17 l m i
structure Q18 (m : Int) (own : Bool) (c : List Int) (lo : Nat) (es : List Int) : Prop where
  room : (c.length : Int) ≤ m
  ne : own = true → c ≠ []
  le : lo + c.length ≤ es.length
  eq : (es.drop lo).take c.length = c
theorem splice_ints (es c : List Int) (lo : Nat) (v : Int) (h : lo + c.length ≤ es.length) : splice (es.map (D.int .i64)) (lo + c.length) [D.int .i64 v] = (es.take (lo + c.length) ++ (v :: es.drop (lo + c.length + 1))).map (D.int .i64) := by
  simp [splice, List.map_take, List.map_drop]
theorem splice_eq (es c : List Int) (lo : Nat) (v : Int) (h : lo + c.length ≤ es.length) (he : (es.drop lo).take c.length = c) : lo + (c ++ [v]).length ≤ (es.take (lo + c.length) ++ (v :: es.drop (lo + c.length + 1))).length ∧ ((es.take (lo + c.length) ++ (v :: es.drop (lo + c.length + 1))).drop lo).take (c ++ [v]).length = c ++ [v] := by
  have e1 : (es.take (lo + c.length)).drop lo = c := by rw [List.drop_take, show lo + c.length - lo = c.length by omega]; exact he
  have e2 : (es.take (lo + c.length)).length = lo + c.length := by rw [List.length_take]; omega
  constructor
  · simp only [List.length_append, e2, List.length_cons, List.length_nil]; omega
  · rw [List.drop_append_of_le_length (by omega), e1]
    have e3 : (c ++ [v]).length = c.length + 1 := by simp
    rw [e3, List.take_append, List.take_of_length_le (by omega), show c.length + 1 - c.length = 1 by omega]
    rfl
theorem own_get {es c : List Int} {lo : Nat} (heq : (es.drop lo).take c.length = c) {i : Nat} (hi : i < c.length) : es[lo + i]? = c[i]? := by
  have h : ((es.drop lo).take c.length)[i]? = c[i]? := by rw [heq]
  rw [List.getElem?_take_of_lt hi, List.getElem?_drop] at h
  exact h
theorem law18 (room : Int) (hroom : I64 room) (l : List Int) (hl : lok l) : Spec Try.prog 18 [.int .i64 room, ints l] [] (fun d _ => d = .bool true) := by
  have hlm : (l.map (D.int .i64)).length = l.length := List.length_map ..
  have hm := dqI_r room
  refine Spec.by Try.func18 rfl (by decide) (by decide +kernel) rfl ?_
  (refine goA ?_)
  refine Call.mk (new73 room) ?_
  rintro d os' ⟨rfl, rfl⟩
  obtain ⟨m, hme⟩ : ∃ m, dqI room = m := ⟨_, rfl⟩
  have hmi : (if 8 < (if room < 1 then 1 else room) then 8 else (if room < 1 then 1 else room)) = m := hme
  rw [hme] at hm ⊢
  (refine goR ?_)
  ((with_reducible refine Pt.go ?_); conv => whnf)
  (refine goR ?_)
  ((with_reducible refine Pt.go ?_); conv => whnf)
  (refine goR ?_)
  rw [hmi]
  ((with_reducible refine Pt.go ?_); conv => whnf)
  (refine goR ?_)
  refine Pt.weak (Weak.trans (Weak.only [(7, .nils), (1, ints l), (5, .ptr 0 0 2 0 0), (6, .int .i64 m)] [one (.row 201 2 false [.agg [.int .i64 m, .nils]])] (by kernel_rfl) tld) (Weak.trans (Weak.frzO (fun _ => false) [] 0 (ty := 201) (sz := 2) (es := [.agg [.int .i64 m, .nils]]) rfl rfl [.agg [.int .i64 m, .lst 1 true []]] rfl (.cons (View.agg (.cons (.same _) (.cons (View.nils 1 true) .nil))) .nil) trivial) (Weak.trans Weak.gone (Weak.nilrow 7 rfl 3 1 true)))) ?_
  (refine goA ?_)
  refine Loop.inv (A := Nat × Bool × List Int × Nat × List Int) (List.range 156) (fun x => P18 l m x.2.2.2.1 x.2.2.1.length (x.1 : Int)) (fun x => dq2 x.2.1 m x.2.2.1 (rowI x.2.2.2.2)) (fun x => x.1 ≤ l.length ∧ x.1 ≤ 60 ∧ Q18 m x.2.1 x.2.2.1 x.2.2.2.1 x.2.2.2.2) (fun x => l.length - x.1) (0, false, [], 0, []) ⟨Nat.zero_le _, Nat.zero_le _, ⟨by show ((0 : Nat) : Int) ≤ m; omega, fun h => Bool.noConfusion h, Nat.le_refl _, rfl⟩⟩ ?_ ?_
  · exact Weak.start' rfl rfl tld
  rintro ⟨i, own, c, lo, es⟩ ⟨hi, hi60, hrm, hne, hle, heq⟩
  dsimp only at hi hi60 hrm hne hle heq ⊢
  have hcM : (c.map (D.int .i64)).length = c.length := List.length_map ..
  have hc8 : c.length ≤ 8 := by omega
  by_cases hlim : i < l.length ∧ i < 60
  · obtain ⟨hil, hi6⟩ := hlim
    have hget : l[i]? = some l[i] := List.getElem?_eq_getElem hil
    have hli : I64 l[i] := hl.2 _ (List.getElem_mem _)
    apply cutG (A := Bool × List Int × Nat × List Int) (n0 := 0) (fun x => P18 l m x.2.2.1 x.2.1.length (i : Int)) (fun x => dq2 x.1 m x.2.1 (rowI x.2.2.2)) (fun x => Q18 m x.1 x.2.1 x.2.2.1 x.2.2.2)
    · intro key
      cases own with
      | true =>
        (refine goA ?_)
        refine Opt.of (get_map hget) ?_
        (refine goA ?_)
        refine Call.mk ((around33 l[i] 3 hli (by omega)).only _ rfl (by rintro d rfl; rfl)) ?_; rintro d os' ⟨rfl, rfl⟩
        have hk := around_lt l[i] 3 (by omega)
        obtain ⟨k, hke⟩ : ∃ k, around l[i] 3 = k := ⟨_, rfl⟩
        rw [hke] at hk ⊢
        (refine goA ?_)
        refine Br.dec (fun hk2 => ?_) (fun hk2 => ?_)
        · (refine goA ?_)
          refine Opt.of (get_map hget) ?_
          (refine goA ?_)
          refine Call.mk (push74at true m c l[i] (by omega) hrm 0 1 _ rfl rfl (by decide)) ?_
          rintro d os' ⟨rfl, rfl⟩
          by_cases hf : (c.length : Int) = m
          · have hpu : pushC m c l[i] = (6, c) := by unfold pushC; rw [if_pos hf]
            rw [if_pos hf, hpu]
            (refine goR ?_)
            refine Pt.on ((10, .int .i64 6) :: P18 l m lo c.length (i : Int)) (dq2 true m c (rowI es)) ?_
            ((with_reducible refine Pt.go ?_); conv => whnf)
            (refine goR ?_)
            ((with_reducible refine Pt.go ?_); conv => whnf)
            (refine goR ?_)
            exact Pt.on (P18 l m lo c.length (i : Int)) (dq2 true m c (rowI es)) (key (true, c, lo, es) ⟨hrm, hne, hle, heq⟩)
          · have hpu : pushC m c l[i] = (0, c ++ [l[i]]) := by unfold pushC; rw [if_neg hf]
            rw [if_neg hf, hpu]
            have hn2 : (((c ++ [l[i]]).length : Nat) : Int) ≤ m := by rw [List.length_append, List.length_singleton]; omega
            have hsn : (c ++ [l[i]]).length = c.length + 1 := by rw [List.length_append, List.length_singleton]
            (refine goR ?_)
            refine Pt.on ((10, .int .i64 0) :: P18 l m lo c.length (i : Int)) [dqA m (c.length + 1) 3, one .gone, rowI es, rowI (c ++ [l[i]])] ?_
            ((with_reducible refine Pt.go ?_); conv => whnf)
            (refine goR ?_)
            ((with_reducible refine Pt.go ?_); conv => whnf)
            (refine goR ?_)
            refine Opt.of (get_map hget) ?_
            (refine goR ?_)
            refine App.only false rfl rfl ?_
            (refine goR ?_)
            by_cases hlo : lo = 0
            · refine itP hlo ?_
              have heq0 : es.take c.length = c := by rw [hlo, List.drop_zero] at heq; exact heq
              by_cases hel : es.length = c.length
              · have hec : es = c := by rw [← heq0, List.take_of_length_le (by omega)]
                (refine goR ?_)
                refine Pt.on ((10, .int .i64 0) :: (7, .sl 4 0 1 0 (c.length + 1) none) :: P17 l m (i : Int)) [dqA m (c.length + 1) 3, one .gone, one .gone, rowI (c ++ [l[i]]), one (.row 3 1 true (es.map (D.int .i64) ++ [D.int .i64 l[i]]))] ?_
                ((with_reducible refine Pt.go ?_); conv => whnf)
                (refine goR ?_)
                refine Pt.weak ?_ (key (true, c ++ [l[i]], 0, es ++ [l[i]]) ⟨hn2, fun _ => by simp, by show 0 + _ ≤ _; rw [hsn, List.length_append, hel]; simp, by show ((es ++ [l[i]]).drop 0).take _ = c ++ [l[i]]; rw [List.drop_zero, List.take_of_length_le (by rw [List.length_append, List.length_append, hel]; exact Nat.le_refl _), hec]⟩)
                dsimp only
                rw [hsn]
                refine Weak.trans (Weak.on ((7, .sl 4 0 1 0 (c.length + 1) none) :: P17 l m (i : Int)) [dqA m (c.length + 1) 3, one .gone, one .gone, rowI (c ++ [l[i]]), one (.row 3 1 true (es.map (D.int .i64) ++ [D.int .i64 l[i]]))]) ?_
                rw [map_snoc]
                refine Weak.shf 3 1 (Weak.shf 4 2 (Weak.fin 3 ?_))
                show _ = bif true then _ else _
                rw [hsn]
                kernel_rfl
              · refine Ap.within ?_
                have hsp := splice_ints es c 0 l[i] (by omega)
                rw [Nat.zero_add] at hsp
                have hse := splice_eq es c 0 l[i] (by omega) (by rw [List.drop_zero]; exact heq0)
                simp only [Nat.zero_add] at hse
                (refine goR ?_)
                refine Pt.on ((10, .int .i64 0) :: (7, .sl 2 0 1 0 (c.length + 1) none) :: P17 l m (i : Int)) [dqA m (c.length + 1) 3, one .gone, one (.row 3 1 true (splice (es.map (D.int .i64)) c.length [D.int .i64 l[i]])), rowI (c ++ [l[i]])] ?_
                ((with_reducible refine Pt.go ?_); conv => whnf)
                (refine goR ?_)
                refine Pt.weak ?_ (key (true, c ++ [l[i]], 0, es.take c.length ++ (l[i] :: es.drop (c.length + 1))) ⟨hn2, fun _ => by simp, by show 0 + _ ≤ _; rw [Nat.zero_add]; exact hse.1, hse.2⟩)
                dsimp only
                rw [hsn]
                refine Weak.trans (Weak.on ((7, .sl 2 0 1 0 (c.length + 1) none) :: P17 l m (i : Int)) [dqA m (c.length + 1) 3, one .gone, one (.row 3 1 true (splice (es.map (D.int .i64)) c.length [D.int .i64 l[i]])), rowI (c ++ [l[i]])]) ?_
                rw [hsp]
                refine Weak.shf 3 1 (Weak.fin 3 ?_)
                show _ = bif true then _ else _
                rw [hsn]
                kernel_rfl
            · refine itN hlo ?_
              have hsp := splice_ints es c lo l[i] hle
              have hse := splice_eq es c lo l[i] hle heq
              refine ⟨⟨by rw [List.length_map]; exact hle, fun _ => rfl⟩, fun h => absurd (congrArg List.length h) (Nat.succ_ne_zero _), fun _ => ⟨by show (c.length + 1) * 8 ≤ _; omega, by show c.length + 1 ≤ _; omega, ?_, ?_⟩⟩
              · (refine goR ?_)
                refine Pt.on ((10, .int .i64 0) :: (7, .sl 2 0 1 lo (c.length + 1) none) :: P17 l m (i : Int)) [dqA m (c.length + 1) 3, one .gone, one (.row 3 1 true (splice (es.map (D.int .i64)) (lo + c.length) [D.int .i64 l[i]])), rowI (c ++ [l[i]])] ?_
                ((with_reducible refine Pt.go ?_); conv => whnf)
                (refine goR ?_)
                refine Pt.weak ?_ (key (true, c ++ [l[i]], lo, es.take (lo + c.length) ++ (l[i] :: es.drop (lo + c.length + 1))) ⟨hn2, fun _ => by simp, hse.1, hse.2⟩)
                dsimp only
                rw [hsn]
                refine Weak.trans (Weak.on ((7, .sl 2 0 1 lo (c.length + 1) none) :: P17 l m (i : Int)) [dqA m (c.length + 1) 3, one .gone, one (.row 3 1 true (splice (es.map (D.int .i64)) (lo + c.length) [D.int .i64 l[i]])), rowI (c ++ [l[i]])]) ?_
                rw [hsp]
                refine Weak.shf 3 1 (Weak.fin 3 ?_)
                show _ = bif true then _ else _
                rw [hsn]
                kernel_rfl
              · refine App.own ?_
                have hcut : ((es.map (D.int .i64)).drop lo).take c.length = c.map (D.int .i64) := by rw [← List.map_drop, ← List.map_take, heq]
                (refine goR ?_)
                refine Pt.on ((10, .int .i64 0) :: (7, .sl 4 0 1 0 (c.length + 1) none) :: P17 l m (i : Int)) [dqA m (c.length + 1) 3, one .gone, rowI es, rowI (c ++ [l[i]]), one (.row 3 1 true (((es.map (D.int .i64)).drop lo).take c.length ++ [D.int .i64 l[i]]))] ?_
                ((with_reducible refine Pt.go ?_); conv => whnf)
                (refine goR ?_)
                refine Pt.weak ?_ (key (true, c ++ [l[i]], 0, c ++ [l[i]]) ⟨hn2, fun _ => by simp, Nat.le_of_eq (Nat.zero_add _), List.take_of_length_le (Nat.le_refl _)⟩)
                dsimp only
                rw [hsn]
                refine Weak.trans (Weak.on ((7, .sl 4 0 1 0 (c.length + 1) none) :: P17 l m (i : Int)) [dqA m (c.length + 1) 3, one .gone, rowI es, rowI (c ++ [l[i]]), one (.row 3 1 true (((es.map (D.int .i64)).drop lo).take c.length ++ [D.int .i64 l[i]]))]) ?_
                rw [hcut, map_snoc]
                refine Weak.trans (Weak.frzK (fun i => Nat.beq i 2) [] trivial) (Weak.shf 3 1 (Weak.shf 4 2 (Weak.fin 3 ?_)))
                show _ = bif true then _ else _
                rw [hsn]
                kernel_rfl
        · (refine goR ?_)
          ((with_reducible refine Pt.go ?_); conv => whnf)
          (refine goR ?_)
          refine Br.dec (fun hz => ?_) (fun hz => ?_)
          · have hc0 : c = [] := List.eq_nil_of_length_eq_zero (by omega)
            exact absurd hc0 (hne rfl)
          · have hcn : 0 < c.length := by omega
            (refine goR ?_)
            ((with_reducible refine Pt.go ?_); conv => whnf)
            (refine goR ?_)
            refine Br.dec (fun hk0 => ?_) (fun hk0 => ?_)
            · (refine goR ?_)
              ((with_reducible refine Pt.go ?_); conv => whnf)
              (refine goR ?_)
              refine Call.mk (pop76at true m c (by omega) 0 1 _ rfl rfl (by decide)) ?_
              rintro d os' (⟨h, _⟩ | ⟨v, hv, rfl, rfl⟩)
              · rw [h] at hcn; exact absurd hcn (by decide)
              have hg : es[lo + ((c.length : Int) - 1).toNat]? = some v := by
                rw [own_get heq (by omega), show ((c.length : Int) - 1).toNat = c.length - 1 by omega, ← List.getLast?_eq_getElem?]; exact hv
              have hdl : ((c.length : Int) - 1).toNat = c.dropLast.length := by rw [List.length_dropLast]; omega
              (refine goR ?_)
              refine Pt.on ((15, .int .i64 v) :: (16, .int .i64 0) :: P18 l m lo c.length (i : Int)) (dq2 false m c.dropLast (rowI es)) ?_
              ((with_reducible refine Pt.go ?_); conv => whnf)
              (refine goR ?_)
              refine Opt.of (get_map hg) ?_
              (refine goR ?_)
              ((with_reducible refine Pt.go ?_); conv => whnf)
              (refine goR ?_)
              refine Pt.weak ?_ (key (false, c.dropLast, lo, es) ⟨by show ((c.dropLast.length : Nat) : Int) ≤ m; rw [← hdl]; omega, fun h => Bool.noConfusion h, by show lo + c.dropLast.length ≤ es.length; rw [← hdl]; omega, by
                show (es.drop lo).take c.dropLast.length = c.dropLast
                rw [List.length_dropLast, List.dropLast_eq_take, ← heq, List.take_take, heq]
                congr 1; omega⟩)
              dsimp only
              refine Weak.trans (Weak.on ((7, .sl 2 0 1 lo ((c.length : Int) - 1).toNat none) :: P17 l m (i : Int)) (dq2 false m c.dropLast (rowI es))) ?_
              rw [hdl]
              exact Weak.refl _ _
            · (refine goR ?_)
              ((with_reducible refine Pt.go ?_); conv => whnf)
              (refine goR ?_)
              refine Call.mk (steal75at true m c (by omega) 0 1 _ rfl rfl (by decide)) ?_
              rintro d os' (⟨h, _⟩ | ⟨v, hv, rfl, rfl⟩)
              · rw [h] at hcn; exact absurd hcn (by decide)
              have hg : es[lo + (0 : Int).toNat]? = some v := by
                have := own_get heq hcn
                rw [show lo + (0 : Int).toNat = lo + 0 from rfl, this, ← List.head?_eq_getElem?]; exact hv
              have hdl : (c.length : Int).toNat - 1 = c.tail.length := by rw [List.length_tail]; omega
              (refine goR ?_)
              refine Pt.on ((17, .int .i64 v) :: (18, .int .i64 0) :: P18 l m lo c.length (i : Int)) (dq2 false m c.tail (rowI es)) ?_
              ((with_reducible refine Pt.go ?_); conv => whnf)
              (refine goR ?_)
              refine Opt.of (get_map hg) ?_
              (refine goR ?_)
              ((with_reducible refine Pt.go ?_); conv => whnf)
              (refine goR ?_)
              refine Pt.weak ?_ (key (false, c.tail, lo + 1, es) ⟨by show ((c.tail.length : Nat) : Int) ≤ m; rw [← hdl]; omega, fun h => Bool.noConfusion h, by show lo + 1 + c.tail.length ≤ es.length; rw [← hdl]; omega, by
                show (es.drop (lo + 1)).take c.tail.length = c.tail
                rw [List.length_tail, ← List.drop_drop, ← List.drop_one, ← List.drop_take, heq]⟩)
              dsimp only
              refine Weak.trans (Weak.on ((7, .sl 2 0 1 (lo + 1) ((c.length : Int).toNat - 1) none) :: P17 l m (i : Int)) (dq2 false m c.tail (rowI es))) ?_
              rw [hdl]
              exact Weak.refl _ _
      | false =>
        (refine goA ?_)
        refine Opt.of (get_map hget) ?_
        (refine goA ?_)
        refine Call.mk ((around33 l[i] 3 hli (by omega)).only _ rfl (by rintro d rfl; rfl)) ?_; rintro d os' ⟨rfl, rfl⟩
        have hk := around_lt l[i] 3 (by omega)
        obtain ⟨k, hke⟩ : ∃ k, around l[i] 3 = k := ⟨_, rfl⟩
        rw [hke] at hk ⊢
        (refine goA ?_)
        refine Br.dec (fun hk2 => ?_) (fun hk2 => ?_)
        · (refine goA ?_)
          refine Opt.of (get_map hget) ?_
          (refine goA ?_)
          refine Call.mk (push74at false m c l[i] (by omega) hrm 0 1 _ rfl rfl (by decide)) ?_
          rintro d os' ⟨rfl, rfl⟩
          by_cases hf : (c.length : Int) = m
          · have hpu : pushC m c l[i] = (6, c) := by unfold pushC; rw [if_pos hf]
            rw [if_pos hf, hpu]
            (refine goR ?_)
            refine Pt.on ((10, .int .i64 6) :: P18 l m lo c.length (i : Int)) (dq2 false m c (rowI es)) ?_
            ((with_reducible refine Pt.go ?_); conv => whnf)
            (refine goR ?_)
            ((with_reducible refine Pt.go ?_); conv => whnf)
            (refine goR ?_)
            exact Pt.on (P18 l m lo c.length (i : Int)) (dq2 false m c (rowI es)) (key (false, c, lo, es) ⟨hrm, hne, hle, heq⟩)
          · have hpu : pushC m c l[i] = (0, c ++ [l[i]]) := by unfold pushC; rw [if_neg hf]
            rw [if_neg hf, hpu]
            have hn2 : (((c ++ [l[i]]).length : Nat) : Int) ≤ m := by rw [List.length_append, List.length_singleton]; omega
            have hsn : (c ++ [l[i]]).length = c.length + 1 := by rw [List.length_append, List.length_singleton]
            (refine goR ?_)
            refine Pt.on ((10, .int .i64 0) :: P18 l m lo c.length (i : Int)) [dqA m (c.length + 1) 3, one .gone, rowI es, rowI (c ++ [l[i]])] ?_
            ((with_reducible refine Pt.go ?_); conv => whnf)
            (refine goR ?_)
            ((with_reducible refine Pt.go ?_); conv => whnf)
            (refine goR ?_)
            refine Opt.of (get_map hget) ?_
            (refine goR ?_)
            refine App.only false rfl rfl ?_
            (refine goR ?_)
            by_cases hlo : lo = 0
            · refine itP hlo ?_
              have heq0 : es.take c.length = c := by rw [hlo, List.drop_zero] at heq; exact heq
              by_cases hel : es.length = c.length
              · have hec : es = c := by rw [← heq0, List.take_of_length_le (by omega)]
                (refine goR ?_)
                refine Pt.on ((10, .int .i64 0) :: (7, .sl 4 0 1 0 (c.length + 1) none) :: P17 l m (i : Int)) [dqA m (c.length + 1) 3, one .gone, one .gone, rowI (c ++ [l[i]]), one (.row 3 1 true (es.map (D.int .i64) ++ [D.int .i64 l[i]]))] ?_
                ((with_reducible refine Pt.go ?_); conv => whnf)
                (refine goR ?_)
                refine Pt.weak ?_ (key (true, c ++ [l[i]], 0, es ++ [l[i]]) ⟨hn2, fun _ => by simp, by show 0 + _ ≤ _; rw [hsn, List.length_append, hel]; simp, by show ((es ++ [l[i]]).drop 0).take _ = c ++ [l[i]]; rw [List.drop_zero, List.take_of_length_le (by rw [List.length_append, List.length_append, hel]; exact Nat.le_refl _), hec]⟩)
                dsimp only
                rw [hsn]
                refine Weak.trans (Weak.on ((7, .sl 4 0 1 0 (c.length + 1) none) :: P17 l m (i : Int)) [dqA m (c.length + 1) 3, one .gone, one .gone, rowI (c ++ [l[i]]), one (.row 3 1 true (es.map (D.int .i64) ++ [D.int .i64 l[i]]))]) ?_
                rw [map_snoc]
                refine Weak.shf 3 1 (Weak.shf 4 2 (Weak.fin 3 ?_))
                show _ = bif true then _ else _
                rw [hsn]
                kernel_rfl
              · refine Ap.within ?_
                have hsp := splice_ints es c 0 l[i] (by omega)
                rw [Nat.zero_add] at hsp
                have hse := splice_eq es c 0 l[i] (by omega) (by rw [List.drop_zero]; exact heq0)
                simp only [Nat.zero_add] at hse
                (refine goR ?_)
                refine Pt.on ((10, .int .i64 0) :: (7, .sl 2 0 1 0 (c.length + 1) none) :: P17 l m (i : Int)) [dqA m (c.length + 1) 3, one .gone, one (.row 3 1 true (splice (es.map (D.int .i64)) c.length [D.int .i64 l[i]])), rowI (c ++ [l[i]])] ?_
                ((with_reducible refine Pt.go ?_); conv => whnf)
                (refine goR ?_)
                refine Pt.weak ?_ (key (true, c ++ [l[i]], 0, es.take c.length ++ (l[i] :: es.drop (c.length + 1))) ⟨hn2, fun _ => by simp, by show 0 + _ ≤ _; rw [Nat.zero_add]; exact hse.1, hse.2⟩)
                dsimp only
                rw [hsn]
                refine Weak.trans (Weak.on ((7, .sl 2 0 1 0 (c.length + 1) none) :: P17 l m (i : Int)) [dqA m (c.length + 1) 3, one .gone, one (.row 3 1 true (splice (es.map (D.int .i64)) c.length [D.int .i64 l[i]])), rowI (c ++ [l[i]])]) ?_
                rw [hsp]
                refine Weak.shf 3 1 (Weak.fin 3 ?_)
                show _ = bif true then _ else _
                rw [hsn]
                kernel_rfl
            · refine itN hlo ?_
              have hsp := splice_ints es c lo l[i] hle
              have hse := splice_eq es c lo l[i] hle heq
              refine ⟨⟨by rw [List.length_map]; exact hle, fun _ => rfl⟩, fun h => absurd (congrArg List.length h) (Nat.succ_ne_zero _), fun _ => ⟨by show (c.length + 1) * 8 ≤ _; omega, by show c.length + 1 ≤ _; omega, ?_, ?_⟩⟩
              · (refine goR ?_)
                refine Pt.on ((10, .int .i64 0) :: (7, .sl 2 0 1 lo (c.length + 1) none) :: P17 l m (i : Int)) [dqA m (c.length + 1) 3, one .gone, one (.row 3 1 true (splice (es.map (D.int .i64)) (lo + c.length) [D.int .i64 l[i]])), rowI (c ++ [l[i]])] ?_
                ((with_reducible refine Pt.go ?_); conv => whnf)
                (refine goR ?_)
                refine Pt.weak ?_ (key (true, c ++ [l[i]], lo, es.take (lo + c.length) ++ (l[i] :: es.drop (lo + c.length + 1))) ⟨hn2, fun _ => by simp, hse.1, hse.2⟩)
                dsimp only
                rw [hsn]
                refine Weak.trans (Weak.on ((7, .sl 2 0 1 lo (c.length + 1) none) :: P17 l m (i : Int)) [dqA m (c.length + 1) 3, one .gone, one (.row 3 1 true (splice (es.map (D.int .i64)) (lo + c.length) [D.int .i64 l[i]])), rowI (c ++ [l[i]])]) ?_
                rw [hsp]
                refine Weak.shf 3 1 (Weak.fin 3 ?_)
                show _ = bif true then _ else _
                rw [hsn]
                kernel_rfl
              · refine App.own ?_
                have hcut : ((es.map (D.int .i64)).drop lo).take c.length = c.map (D.int .i64) := by rw [← List.map_drop, ← List.map_take, heq]
                (refine goR ?_)
                refine Pt.on ((10, .int .i64 0) :: (7, .sl 4 0 1 0 (c.length + 1) none) :: P17 l m (i : Int)) [dqA m (c.length + 1) 3, one .gone, rowI es, rowI (c ++ [l[i]]), one (.row 3 1 true (((es.map (D.int .i64)).drop lo).take c.length ++ [D.int .i64 l[i]]))] ?_
                ((with_reducible refine Pt.go ?_); conv => whnf)
                (refine goR ?_)
                refine Pt.weak ?_ (key (true, c ++ [l[i]], 0, c ++ [l[i]]) ⟨hn2, fun _ => by simp, Nat.le_of_eq (Nat.zero_add _), List.take_of_length_le (Nat.le_refl _)⟩)
                dsimp only
                rw [hsn]
                refine Weak.trans (Weak.on ((7, .sl 4 0 1 0 (c.length + 1) none) :: P17 l m (i : Int)) [dqA m (c.length + 1) 3, one .gone, rowI es, rowI (c ++ [l[i]]), one (.row 3 1 true (((es.map (D.int .i64)).drop lo).take c.length ++ [D.int .i64 l[i]]))]) ?_
                rw [hcut, map_snoc]
                refine Weak.trans (Weak.frzK (fun i => Nat.beq i 2) [] trivial) (Weak.shf 3 1 (Weak.shf 4 2 (Weak.fin 3 ?_)))
                show _ = bif true then _ else _
                rw [hsn]
                kernel_rfl
        · (refine goR ?_)
          ((with_reducible refine Pt.go ?_); conv => whnf)
          (refine goR ?_)
          refine Br.dec (fun hz => ?_) (fun hz => ?_)
          · have hc0 : c = [] := List.eq_nil_of_length_eq_zero (by omega)
            (refine goR ?_)
            ((with_reducible refine Pt.go ?_); conv => whnf)
            (refine goR ?_)
            refine Call.mk (pop76at false m c (by omega) 0 1 _ rfl rfl (by decide)) ?_
            rintro d os' (⟨_, rfl, rfl⟩ | ⟨v, hv, rfl, rfl⟩)
            rotate_left
            · rw [hc0] at hv; cases hv
            (refine goR ?_)
            ((with_reducible refine Pt.go ?_); conv => whnf)
            (refine goR ?_)
            refine Call.mk (steal75at false m c (by omega) 0 1 _ rfl rfl (by decide)) ?_
            rintro d os' (⟨_, rfl, rfl⟩ | ⟨v, hv, rfl, rfl⟩)
            rotate_left
            · rw [hc0] at hv; cases hv
            (refine goR ?_)
            ((with_reducible refine Pt.go ?_); conv => whnf)
            (refine goR ?_)
            exact Pt.on (P18 l m lo c.length (i : Int)) (dq2 false m c (rowI es)) (key (false, c, lo, es) ⟨hrm, hne, hle, heq⟩)
          · have hcn : 0 < c.length := by omega
            (refine goR ?_)
            ((with_reducible refine Pt.go ?_); conv => whnf)
            (refine goR ?_)
            refine Br.dec (fun hk0 => ?_) (fun hk0 => ?_)
            · (refine goR ?_)
              ((with_reducible refine Pt.go ?_); conv => whnf)
              (refine goR ?_)
              refine Call.mk (pop76at false m c (by omega) 0 1 _ rfl rfl (by decide)) ?_
              rintro d os' (⟨h, _⟩ | ⟨v, hv, rfl, rfl⟩)
              · rw [h] at hcn; exact absurd hcn (by decide)
              have hg : es[lo + ((c.length : Int) - 1).toNat]? = some v := by
                rw [own_get heq (by omega), show ((c.length : Int) - 1).toNat = c.length - 1 by omega, ← List.getLast?_eq_getElem?]; exact hv
              have hdl : ((c.length : Int) - 1).toNat = c.dropLast.length := by rw [List.length_dropLast]; omega
              (refine goR ?_)
              refine Pt.on ((15, .int .i64 v) :: (16, .int .i64 0) :: P18 l m lo c.length (i : Int)) (dq2 false m c.dropLast (rowI es)) ?_
              ((with_reducible refine Pt.go ?_); conv => whnf)
              (refine goR ?_)
              refine Opt.of (get_map hg) ?_
              (refine goR ?_)
              ((with_reducible refine Pt.go ?_); conv => whnf)
              (refine goR ?_)
              refine Pt.weak ?_ (key (false, c.dropLast, lo, es) ⟨by show ((c.dropLast.length : Nat) : Int) ≤ m; rw [← hdl]; omega, fun h => Bool.noConfusion h, by show lo + c.dropLast.length ≤ es.length; rw [← hdl]; omega, by
                show (es.drop lo).take c.dropLast.length = c.dropLast
                rw [List.length_dropLast, List.dropLast_eq_take, ← heq, List.take_take, heq]
                congr 1; omega⟩)
              dsimp only
              refine Weak.trans (Weak.on ((7, .sl 2 0 1 lo ((c.length : Int) - 1).toNat none) :: P17 l m (i : Int)) (dq2 false m c.dropLast (rowI es))) ?_
              rw [hdl]
              exact Weak.refl _ _
            · (refine goR ?_)
              ((with_reducible refine Pt.go ?_); conv => whnf)
              (refine goR ?_)
              refine Call.mk (steal75at false m c (by omega) 0 1 _ rfl rfl (by decide)) ?_
              rintro d os' (⟨h, _⟩ | ⟨v, hv, rfl, rfl⟩)
              · rw [h] at hcn; exact absurd hcn (by decide)
              have hg : es[lo + (0 : Int).toNat]? = some v := by
                have := own_get heq hcn
                rw [show lo + (0 : Int).toNat = lo + 0 from rfl, this, ← List.head?_eq_getElem?]; exact hv
              have hdl : (c.length : Int).toNat - 1 = c.tail.length := by rw [List.length_tail]; omega
              (refine goR ?_)
              refine Pt.on ((17, .int .i64 v) :: (18, .int .i64 0) :: P18 l m lo c.length (i : Int)) (dq2 false m c.tail (rowI es)) ?_
              ((with_reducible refine Pt.go ?_); conv => whnf)
              (refine goR ?_)
              refine Opt.of (get_map hg) ?_
              (refine goR ?_)
              ((with_reducible refine Pt.go ?_); conv => whnf)
              (refine goR ?_)
              refine Pt.weak ?_ (key (false, c.tail, lo + 1, es) ⟨by show ((c.tail.length : Nat) : Int) ≤ m; rw [← hdl]; omega, fun h => Bool.noConfusion h, by show lo + 1 + c.tail.length ≤ es.length; rw [← hdl]; omega, by
                show (es.drop (lo + 1)).take c.tail.length = c.tail
                rw [List.length_tail, ← List.drop_drop, ← List.drop_one, ← List.drop_take, heq]⟩)
              dsimp only
              refine Weak.trans (Weak.on ((7, .sl 2 0 1 (lo + 1) ((c.length : Int).toNat - 1) none) :: P17 l m (i : Int)) (dq2 false m c.tail (rowI es))) ?_
              rw [hdl]
              exact Weak.refl _ _
    · rintro ⟨own', c', lo', es'⟩ ⟨h1, h2, h3, h4⟩
      dsimp only at h1 h2 h3 h4 ⊢
      have hV : ∀ os : Objs, os.at 2 0 = .row 3 1 true (es'.map (D.int .i64)) → View allF os (.sl 2 0 1 lo' c'.length none) (ints c') := fun os ho => View.sl (t := 3) (pr := true) (es := es'.map (D.int .i64)) rfl ho (by rw [List.length_map]; exact h3) (fun h => Bool.noConfusion h) (by rw [← List.map_drop, ← List.map_take, h4]; exact ViewL.same _) (pureL_map (fun _ => rfl) _)
      cases own' with
      | true =>
        ((with_reducible refine Pt.go ?_); conv => whnf)
        (refine goR ?_)
        refine Call.mk (Spec.dqL (list88 true m c' (by omega) h2) 0 1 _ rfl rfl (by decide) rfl (by rintro d rfl; rfl)) ?_
        rintro d os' ⟨rfl, rfl⟩
        (refine goR ?_)
        refine Call.mk ((same50 c' c' (by omega)).read (.cons (View.same _) (.cons (hV _ rfl) .nil)) rfl (by rintro d rfl; exact ⟨rfl, rfl⟩)) ?_
        rintro d os' ⟨rfl, rfl⟩
        (refine goR ?_)
        refine Call.mk (Spec.dqL (len77 true m c') 0 1 _ rfl rfl (by decide) rfl (by rintro d rfl; rfl)) ?_
        rintro d os' ⟨rfl, rfl⟩
        (refine goR ?_)
        refine Call.mk (Spec.dqL (room78 true m c' (by omega) (by omega)) 0 1 _ rfl rfl (by decide) rfl (by rintro d rfl; rfl)) ?_
        rintro d os' ⟨rfl, rfl⟩
        (refine goA ?_)
        refine ⟨_, _, _, ?_, ⟨(i + 1, true, c', lo', es'), ?_, rfl, rfl, rfl⟩, ?_⟩
        · show l.length - (i + 1) < l.length - i; omega
        · exact ⟨by show i + 1 ≤ _; omega, by show i + 1 ≤ _; omega, ⟨h1, h2, h3, h4⟩⟩
        · refine Weak.backT 3 (by simp) (by first | rfl | kernel_rfl) (by kernel_rfl) (Nat.le_of_ble_eq_true rfl) tld (by kernel_rfl) (by kernel_rfl)
      | false =>
        ((with_reducible refine Pt.go ?_); conv => whnf)
        (refine goR ?_)
        refine Call.mk (Spec.dqL (list88 false m c' (by omega) h2) 0 1 _ rfl rfl (by decide) rfl (by rintro d rfl; rfl)) ?_
        rintro d os' ⟨rfl, rfl⟩
        (refine goR ?_)
        refine Call.mk ((same50 c' c' (by omega)).read (.cons (View.same _) (.cons (hV _ rfl) .nil)) rfl (by rintro d rfl; exact ⟨rfl, rfl⟩)) ?_
        rintro d os' ⟨rfl, rfl⟩
        (refine goR ?_)
        refine Call.mk (Spec.dqL (len77 false m c') 0 1 _ rfl rfl (by decide) rfl (by rintro d rfl; rfl)) ?_
        rintro d os' ⟨rfl, rfl⟩
        (refine goR ?_)
        refine Call.mk (Spec.dqL (room78 false m c' (by omega) (by omega)) 0 1 _ rfl rfl (by decide) rfl (by rintro d rfl; rfl)) ?_
        rintro d os' ⟨rfl, rfl⟩
        (refine goA ?_)
        refine ⟨_, _, _, ?_, ⟨(i + 1, false, c', lo', es'), ?_, rfl, rfl, rfl⟩, ?_⟩
        · show l.length - (i + 1) < l.length - i; omega
        · exact ⟨by show i + 1 ≤ _; omega, by show i + 1 ≤ _; omega, ⟨h1, h2, h3, h4⟩⟩
        · refine Weak.backT 3 (by simp) (by first | rfl | kernel_rfl) (by kernel_rfl) (Nat.le_of_ble_eq_true rfl) tld (by kernel_rfl) (by kernel_rfl)
  · have hx : ¬ ((i : Int) < (l.length : Int)) ∨ ¬ ((i : Int) < 60) := by omega
    by_cases h1 : (i : Int) < (l.length : Int)
    · have h2 : ¬ ((i : Int) < 60) := by omega
      cases own <;> (
        (refine goA ?_)
        refine Call.mk ((lives79).only _ rfl (by rintro d rfl; rfl)) ?_; rintro d os' ⟨rfl, rfl⟩
        (refine goA ?_)
        exact Ret.mk [.tmp _] rfl rfl)
    · cases own <;> (
        (refine goA ?_)
        refine Call.mk ((lives79).only _ rfl (by rintro d rfl; rfl)) ?_; rintro d os' ⟨rfl, rfl⟩
        (refine goA ?_)
        exact Ret.mk [.tmp _] rfl rfl)
end Go.Proofs.Ytaplihoeephbeaa.V
