/- D1: a text of a symbolic executor that is proved sound, and contracts that are proved with it. -/
import Derived.Test.YtaplihoeephbeaaR3
set_option linter.unusedVariables false
set_option linter.unusedSimpArgs false
namespace Go.Proofs.Ytaplihoeephbeaa.V
open Go Go.Proofs
set_option maxRecDepth 100000
set_option maxHeartbeats 40000000
/-- A deque: its things lie in a row of its own (family r), or are only read. -/
@[reducible] def dqA (room : Int) (n r : Nat) : Fam := one (.row 201 2 false [.agg [.int .i64 room, .sl r 0 1 0 n none]])
@[reducible] def dqB (room : Int) (l : List Int) : Fam := one (.row 201 2 false [.agg [.int .i64 room, .lst 1 true (l.map (D.int .i64))]])
@[reducible] def dqO (own : Bool) (room : Int) (l : List Int) (r : Nat) : Objs := bif own then [dqA room l.length r, rowI l] else [dqB room l, one .gone]
theorem len77 (own : Bool) (room : Int) (l : List Int) : Spec Try.prog 77 [.ptr 0 0 2 0 0] (dqO own room l 1) (fun d os' => d = .int .i64 l.length ∧ os' = dqO own room l 1) := by
  have hlm : (l.map (D.int .i64)).length = l.length := List.length_map ..
  cases own with
  | true =>
    refine Spec.by Try.func77 rfl (by decide) (by decide +kernel) rfl ?_
    (refine goA ?_)
    exact Ret.mk [.tmp 2] rfl ⟨rfl, rfl⟩
  | false =>
    refine Spec.by Try.func77 rfl (by decide) (by decide +kernel) rfl ?_
    (refine goA ?_)
    refine Ret.mk [.tmp 2] rfl ⟨?_, rfl⟩
    show D.int .i64 ((l.map (D.int .i64)).length : Int) = _
    rw [hlm]
theorem room78 (own : Bool) (room : Int) (l : List Int) (hr : 0 ≤ room ∧ room ≤ 8) (hl : l.length ≤ 8) : Spec Try.prog 78 [.ptr 0 0 2 0 0] (dqO own room l 1) (fun d os' => d = .int .i64 (room - l.length) ∧ os' = dqO own room l 1) := by
  have hlm : (l.map (D.int .i64)).length = l.length := List.length_map ..
  cases own with
  | true =>
    refine Spec.by Try.func78 rfl (by decide) (by decide +kernel) rfl ?_
    (refine goA ?_)
    exact Ret.mk [.tmp 2] rfl ⟨rfl, rfl⟩
  | false =>
    refine Spec.by Try.func78 rfl (by decide) (by decide +kernel) rfl ?_
    (refine goA ?_)
    refine Ret.mk [.tmp 2] rfl ⟨?_, rfl⟩
    show D.int .i64 (room - ((l.map (D.int .i64)).length : Int)) = _
    rw [hlm]
theorem push74 (own : Bool) (room : Int) (l : List Int) (v : Int) (hr : 0 ≤ room ∧ room ≤ 8) (hl : (l.length : Int) ≤ room) : Spec Try.prog 74 [.ptr 0 0 2 0 0, .int .i64 v] (dqO own room l 1)
    (fun d os' => d = .int .i64 (pushC room l v).1 ∧ os' = if (l.length : Int) = room then dqO own room l 1 else [dqA room (l.length + 1) 2, one .gone, rowI (l ++ [v])]) := by
  have hlm : (l.map (D.int .i64)).length = l.length := List.length_map ..
  cases own with
  | true =>
    refine Spec.by Try.func74 rfl (by decide) (by decide +kernel) rfl ?_
    (refine goA ?_)
    refine Call.mk (room78 true room l hr (by omega)) ?_
    rintro d os' ⟨rfl, rfl⟩
    (refine goA ?_)
    refine Br.dec (fun h => ?_) (fun h => ?_)
    · rw [if_pos (by omega)]
      have e : pushC room l v = (6, l) := by unfold pushC; rw [if_pos (by omega)]
      rw [e]
      (refine goA ?_)
      exact Ret.mk [.tmp 4] rfl ⟨rfl, rfl⟩
    · rw [if_neg (by omega)]
      have e : pushC room l v = (0, l ++ [v]) := by unfold pushC; rw [if_neg (by omega)]
      rw [e]
      (refine goA ?_)
      refine App.only false rfl rfl ?_
      (refine goA ?_)
      refine Ret.mk [.tmp 4] rfl ⟨rfl, ?_⟩
      exact congrArg (fun r => ([dqA room (l.length + 1) 2, one .gone, one (.row 3 1 true r)] : Objs)) (map_snoc _ _)
  | false =>
    refine Spec.by Try.func74 rfl (by decide) (by decide +kernel) rfl ?_
    (refine goA ?_)
    refine Call.mk (room78 false room l hr (by omega)) ?_
    rintro d os' ⟨rfl, rfl⟩
    (refine goA ?_)
    refine Br.dec (fun h => ?_) (fun h => ?_)
    · rw [if_pos (by omega)]
      have e : pushC room l v = (6, l) := by unfold pushC; rw [if_pos (by omega)]
      rw [e]
      (refine goA ?_)
      exact Ret.mk [.tmp 4] rfl ⟨rfl, rfl⟩
    · rw [if_neg (by omega)]
      have e : pushC room l v = (0, l ++ [v]) := by unfold pushC; rw [if_neg (by omega)]
      rw [e]
      (refine goA ?_)
      refine App.only false rfl rfl ?_
      (refine goA ?_)
      refine App.own ?_
      (refine goA ?_)
      refine Ret.mk [.tmp 4] rfl ⟨rfl, ?_⟩
      rw [show l.length + 1 = (l.map (D.int .i64)).length + 1 by rw [hlm]]
      exact congrArg (fun r => ([dqA room ((l.map (D.int .i64)).length + 1) 2, one .gone, one (.row 3 1 true r)] : Objs)) (map_snoc _ _)
/-- The bottom one. -/
theorem pop76 (own : Bool) (room : Int) (l : List Int) (hl : l.length ≤ 8) : Spec Try.prog 76 [.ptr 0 0 2 0 0] (dqO own room l 1)
    (fun d os' => (l = [] ∧ d = .tup [.int .i64 0, .int .i64 7] ∧ os' = dqO own room l 1) ∨ (∃ v, l.getLast? = some v ∧ d = .tup [.int .i64 v, .int .i64 0] ∧ os' = [dqB room l.dropLast, one .gone])) := by
  have hlm : (l.map (D.int .i64)).length = l.length := List.length_map ..
  by_cases hn : l = []
  · subst hn
    cases own with
    | true =>
      refine Spec.by Try.func76 rfl (by decide) (by decide +kernel) rfl ?_
      (refine goA ?_)
      exact Ret.mk [.tmp 2, .tmp 3] rfl (.inl ⟨rfl, rfl, rfl⟩)
    | false =>
      refine Spec.by Try.func76 rfl (by decide) (by decide +kernel) rfl ?_
      (refine goA ?_)
      exact Ret.mk [.tmp 2, .tmp 3] rfl (.inl ⟨rfl, rfl, rfl⟩)
  · obtain ⟨s, v, rfl⟩ : ∃ s v, l = s ++ [v] := ⟨l.dropLast, l.getLast hn, (List.dropLast_concat_getLast hn).symm⟩
    have hls : (s ++ [v]).length = s.length + 1 := by rw [List.length_append, List.length_singleton]
    have hgl : (s ++ [v]).getLast? = some v := by simp
    have hdl : (s ++ [v]).dropLast = s := by simp
    rw [hls] at hl
    rw [hgl, hdl]
    have hF : ∀ os : Objs, View (fun i => Nat.beq i 1) os (.lst 1 true (s.map (D.int .i64))) (.lst 1 true (s.map (D.int .i64))) := fun os => View.same _
    cases own with
    | true =>
      have hget : (s ++ [v])[0 + (s.length : Int).toNat]? = some v := by rw [Int.toNat_natCast, Nat.zero_add]; simp
      refine Spec.by Try.func76 rfl (by decide) (by decide +kernel) rfl ?_
      (refine goR ?_)
      ((with_reducible refine Pt.go ?_); conv => whnf)
      (refine goR ?_)
      ((with_reducible refine Pt.go ?_); conv => whnf)
      (refine goR ?_)
      refine Pt.weak (Weak.only [(0, .ptr 0 0 2 0 0), (2, .int .i64 0), (3, .int .i64 0), (4, .int .i64 (s.length : Int))] [dqA room (s ++ [v]).length 1, rowI (s ++ [v])] (by kernel_rfl) tld) ?_
      (refine goA ?_)
      refine Opt.of (get_map hget) ?_
      (refine goR ?_)
      ((with_reducible refine Pt.go ?_); conv => whnf)
      (refine goR ?_)
      refine ⟨fun hz => ?_, fun hz => ?_⟩
      · obtain rfl : s = [] := List.eq_nil_of_length_eq_zero (by omega)
        (refine goR ?_)
        refine Pt.weak (Weak.only [(2, .int .i64 0), (3, .int .i64 0), (5, .int .i64 v)] [dqB room [], rowI [v]] (by kernel_rfl) tld) ?_
        refine Pt.frz (fun i => Nat.beq i 1) [] trivial ?_
        (refine goA ?_)
        exact Ret.mk [.tmp 2, .tmp 3] rfl (.inr ⟨v, rfl, rfl, rfl⟩)
      · (refine goR ?_)
        refine Pt.weak (Weak.only [(2, .int .i64 0), (3, .int .i64 0), (5, .int .i64 v)] [one (.row 201 2 false [.agg [.int .i64 room, .sl 1 0 1 0 s.length (some s.length)]]), rowI (s ++ [v])] (by kernel_rfl) tld) ?_
        refine Pt.weak (Weak.frzO (fun i => Nat.beq i 1) [] 0 (ty := 201) (sz := 2) (es := [.agg [.int .i64 room, .sl 1 0 1 0 s.length (some s.length)]]) rfl rfl [.agg [.int .i64 room, .lst 1 true (s.map (D.int .i64))]] rfl (.cons (View.agg (.cons (.same _) (.cons (View.sl (t := 3) (pr := true) (es := (s ++ [v]).map (D.int .i64)) rfl rfl (by rw [hlm, hls]; omega) (fun _ => rfl) (by rw [List.drop_zero, List.map_append, List.take_left' (List.length_map ..)]; exact ViewL.same _) (pureL_map (fun _ => rfl) _)) .nil))) .nil) trivial) ?_
        (refine goA ?_)
        exact Ret.mk [.tmp 2, .tmp 3] rfl (.inr ⟨v, rfl, rfl, rfl⟩)
    | false =>
      have hget : (s ++ [v])[(s.length : Int).toNat]? = some v := by rw [Int.toNat_natCast]; simp
      refine Spec.by Try.func76 rfl (by decide) (by decide +kernel) rfl ?_
      (refine goR ?_)
      ((with_reducible refine Pt.go ?_); conv => whnf)
      (refine goR ?_)
      ((with_reducible refine Pt.go ?_); conv => whnf)
      (refine goR ?_)
      refine Pt.weak (Weak.only [(0, .ptr 0 0 2 0 0), (2, .int .i64 0), (3, .int .i64 0), (4, .int .i64 (s.length : Int))] [dqB room (s ++ [v]), one .gone] (by kernel_rfl) tld) ?_
      (refine goA ?_)
      refine Opt.of (get_map hget) ?_
      (refine goA ?_)
      refine Nm.mk (s.map (D.int .i64)) (by show s.map (D.int .i64) = (((s ++ [v]).map (D.int .i64)).take (s.length : Int).toNat).drop 0; rw [Int.toNat_natCast, List.drop_zero, List.map_append, List.take_left' (List.length_map ..)]) ?_
      (refine goA ?_)
      exact Ret.mk [.tmp 2, .tmp 3] rfl (.inr ⟨v, rfl, rfl, rfl⟩)
/-- The top one. -/
theorem steal75 (own : Bool) (room : Int) (l : List Int) (hl : l.length ≤ 8) : Spec Try.prog 75 [.ptr 0 0 2 0 0] (dqO own room l 1)
    (fun d os' => (l = [] ∧ d = .tup [.int .i64 0, .int .i64 7] ∧ os' = dqO own room l 1) ∨ (∃ v, l.head? = some v ∧ d = .tup [.int .i64 v, .int .i64 0] ∧ os' = [dqB room l.tail, one .gone])) := by
  have hlm : (l.map (D.int .i64)).length = l.length := List.length_map ..
  by_cases hn : l = []
  · subst hn
    cases own with
    | true =>
      refine Spec.by Try.func75 rfl (by decide) (by decide +kernel) rfl ?_
      (refine goA ?_)
      exact Ret.mk [.tmp 2, .tmp 3] rfl (.inl ⟨rfl, rfl, rfl⟩)
    | false =>
      refine Spec.by Try.func75 rfl (by decide) (by decide +kernel) rfl ?_
      (refine goA ?_)
      exact Ret.mk [.tmp 2, .tmp 3] rfl (.inl ⟨rfl, rfl, rfl⟩)
  · obtain ⟨v, s, rfl⟩ : ∃ v s, l = v :: s := List.exists_cons_of_ne_nil hn
    have hls : (v :: s).length = s.length + 1 := List.length_cons
    rw [hls] at hl
    rw [show (v :: s).head? = some v from rfl, show (v :: s).tail = s from rfl]
    cases own with
    | true =>
      refine Spec.by Try.func75 rfl (by decide) (by decide +kernel) rfl ?_
      (refine goA ?_)
      refine ⟨fun hz => ?_, fun hz => ?_⟩
      · obtain rfl : s = [] := List.eq_nil_of_length_eq_zero (by omega)
        (refine goR ?_)
        refine Pt.weak (Weak.only [(2, .int .i64 0), (3, .int .i64 0), (4, .int .i64 v)] [dqB room [], rowI [v]] (by kernel_rfl) tld) ?_
        refine Pt.frz (fun i => Nat.beq i 1) [] trivial ?_
        (refine goA ?_)
        exact Ret.mk [.tmp 2, .tmp 3] rfl (.inr ⟨v, rfl, rfl, rfl⟩)
      · (refine goR ?_)
        refine Pt.weak (Weak.only [(2, .int .i64 0), (3, .int .i64 0), (4, .int .i64 v)] [one (.row 201 2 false [.agg [.int .i64 room, .sl 1 0 1 1 s.length (some s.length)]]), rowI (v :: s)] (by kernel_rfl) tld) ?_
        refine Pt.weak (Weak.frzO (fun i => Nat.beq i 1) [] 0 (ty := 201) (sz := 2) (es := [.agg [.int .i64 room, .sl 1 0 1 1 s.length (some s.length)]]) rfl rfl [.agg [.int .i64 room, .lst 1 true (s.map (D.int .i64))]] rfl (.cons (View.agg (.cons (.same _) (.cons (View.sl (t := 3) (pr := true) (es := (v :: s).map (D.int .i64)) rfl rfl (by rw [hlm, hls]; omega) (fun _ => rfl) (by rw [List.map_cons, List.drop_one, List.tail_cons, List.take_of_length_le (by rw [List.length_map]; exact Nat.le_refl _)]; exact ViewL.same _) (pureL_map (fun _ => rfl) _)) .nil))) .nil) trivial) ?_
        (refine goA ?_)
        exact Ret.mk [.tmp 2, .tmp 3] rfl (.inr ⟨v, rfl, rfl, rfl⟩)
    | false =>
      refine Spec.by Try.func75 rfl (by decide) (by decide +kernel) rfl ?_
      (refine goA ?_)
      refine Nm.mk (s.map (D.int .i64)) (by rw [Int.toNat_natCast, List.take_of_length_le (Nat.le_refl _)]; rfl) ?_
      (refine goA ?_)
      exact Ret.mk [.tmp 2, .tmp 3] rfl (.inr ⟨v, rfl, rfl, rfl⟩)
end Go.Proofs.Ytaplihoeephbeaa.V
