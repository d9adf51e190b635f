/- D6: a text of a symbolic executor that is proved sound, and contracts that are proved with it. -/
import Derived.Test.YtaplihoeephbeaaD5
set_option linter.unusedVariables false
set_option linter.unusedSimpArgs false
namespace Go.Proofs.Ytaplihoeephbeaa.V
open Go Go.Proofs
set_option maxRecDepth 100000
set_option maxHeartbeats 40000000
theorem clone130t (xs : List Int) (hl : xs.length * 8 ≤ 140737488351232) : Spec Try.prog 130 [.lst 1 true (xs.map (D.int .i64))] [] (fun d os' => d = ints xs ∧ os' = []) := by
  refine Spec.by Try.func130 rfl (by decide) (by decide +kernel) rfl ?_
  (refine goA ?_)
  refine And.intro (fun hn => ?_) (fun hn => And.intro ?_ ?_)
  · (refine goA ?_)
    refine App.own ?_
    (refine goA ?_)
    refine Ret.frz allF [(2, ints xs)] ⟨View.slAll rfl rfl (by simp [setAll]) (by simp) (ViewL.same _) (pureL_map (fun _ => rfl) _), trivial⟩ ?_
    refine Ret.trim 0 (by simp) rfl (Nat.le_of_ble_eq_true rfl) ?_
    refine Ret.mk [.tmp _] rfl ?_; refine And.intro ?_ rfl
    rfl
  · (refine goA ?_)
    refine Ret.frz allF [(2, ints xs)] ⟨by rw [ints, hn]; exact View.nils 1 false, trivial⟩ ?_
    refine Ret.trim 0 (by simp) rfl (Nat.le_of_ble_eq_true rfl) ?_
    refine Ret.mk [.tmp _] rfl ?_; refine And.intro ?_ rfl
    rfl
  · (refine goA ?_)
    refine App.own ?_
    (refine goA ?_)
    refine Ret.frz allF [(2, ints xs)] ⟨View.slAll rfl rfl (by simp [setAll]) (by simp) (ViewL.same _) (pureL_map (fun _ => rfl) _), trivial⟩ ?_
    refine Ret.trim 0 (by simp) rfl (Nat.le_of_ble_eq_true rfl) ?_
    refine Ret.mk [.tmp _] rfl ?_; refine And.intro ?_ rfl
    rfl
theorem clone130p (xs : List Int) (hl : xs.length * 8 ≤ 140737488351232) (hx : xs ≠ []) : Spec Try.prog 130 [ints xs] [] (fun d os' => d = .sl 0 0 1 0 xs.length none ∧ os' = [rowI xs]) := by
  have hm : (xs.map (D.int .i64)) ≠ [] := fun e => hx (List.map_eq_nil_iff.1 e)
  refine Spec.by Try.func130 rfl (by decide) (by decide +kernel) rfl ?_
  (refine goA ?_)
  refine And.intro (fun hn => ?_) (fun hn => absurd hn hm)
  (refine goA ?_)
  refine App.own ?_
  (refine goA ?_)
  refine Ret.weak (Weak.shift 1 0 (by decide) (by simp) (Nat.le_of_ble_eq_true rfl) (Nat.le_of_ble_eq_true rfl) (fun j => by cases j <;> rfl) rfl) ?_
  refine Ret.trim 1 (by simp) rfl (Nat.le_of_ble_eq_true rfl) ?_
  refine Ret.mk [.tmp _] rfl (And.intro ?_ rfl)
  show D.sl 0 0 1 0 (0 + (xs.map (D.int .i64)).length) none = _
  simp
theorem ownL_ints : ∀ (l : List Int), D.ownL (l.map (D.int .i64)) = true
  | [] => rfl
  | v :: l => by
    show ((D.int .i64 v).own && D.ownL (l.map (D.int .i64))) = true
    rw [ownL_ints l]; rfl
theorem list88 (own : Bool) (room : Int) (l : List Int) (hl : l.length ≤ 1000000) (hne : own = true → l ≠ []) : Spec Try.prog 88 [.ptr 0 0 2 0 0] (dqO own room l 1) (fun d os' => d = ints l ∧ os' = dqO own room l 1) := by
  have hlm : (l.map (D.int .i64)).length = l.length := List.length_map ..
  cases own with
  | true =>
    refine Spec.weak (post := fun d os' => d = .sl 2 0 1 0 l.length none ∧ os' = [dqA room l.length 1, rowI l, rowI l]) ?_ (by
      rintro d os' ⟨rfl, rfl⟩
      exact ⟨_, _, Weak.trans (Weak.frzK (fun i => Nat.beq i 2) [(0, ints l)] ⟨View.slAll rfl rfl hlm (by simp) (ViewL.same _) (pureL_map (fun _ => rfl) _), trivial⟩) (Weak.trim 2 (Nat.le_refl _) rfl (Nat.le_of_ble_eq_true rfl)), rfl, rfl⟩)
    refine Spec.by Try.func88 rfl (by decide) (by decide +kernel) rfl ?_
    (refine goA ?_)
    refine Call.mk ((clone130p l (by omega) (hne rfl)).fresh (.cons (View.slAll rfl rfl hlm (by simp) (ViewL.same _) (pureL_map (fun _ => rfl) _)) .nil) rfl (by rintro d os' ⟨rfl, rfl⟩; exact ⟨rfl, fun i j => by
        match i, j with
        | 0, 0 => exact ownL_ints l
        | 0, j + 1 => rfl
        | i + 1, j => cases i <;> cases j <;> rfl⟩)) ?_
    rintro d os' ⟨d1, os1, ⟨rfl, rfl⟩, rfl, rfl⟩
    (refine goA ?_)
    exact Ret.mk [.tmp 2] rfl ⟨rfl, rfl⟩
  | false =>
    refine Spec.by Try.func88 rfl (by decide) (by decide +kernel) rfl ?_
    (refine goA ?_)
    refine Call.mk ((clone130t l (by omega)).only _ rfl (by rintro d rfl; rfl)) ?_
    rintro d os' ⟨rfl, rfl⟩
    (refine goA ?_)
    exact Ret.mk [.tmp 2] rfl ⟨rfl, rfl⟩
end Go.Proofs.Ytaplihoeephbeaa.V
