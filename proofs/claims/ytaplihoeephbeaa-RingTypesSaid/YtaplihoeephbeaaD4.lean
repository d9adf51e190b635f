/- D4: a text of a symbolic executor that is proved sound, and contracts that are proved with it. -/
import Derived.Test.YtaplihoeephbeaaD3
set_option linter.unusedVariables false
set_option linter.unusedSimpArgs false
namespace Go.Proofs.Ytaplihoeephbeaa.V
open Go Go.Proofs
set_option maxRecDepth 100000
set_option maxHeartbeats 40000000
theorem global83c {a n : Int} {L : List Int} (hg : Rg 1024 a n L []) : Spec Try.prog 83 [.ptr 0 0 2 0 0] (exY a n L) (fun d os' => d = .nils ∧ os' = exY a n L) := by
  obtain rfl : n = 0 := hg.nl
  refine Spec.weak (post := fun d os' => d = .nils ∧ ∃ x, os' = exY a 0 L ++ [x]) ?_ (by
    rintro d os' ⟨rfl, x, rfl⟩
    exact ⟨_, _, Weak.trim 11 (Nat.le_refl _) rfl (Nat.le_of_ble_eq_true rfl), rfl, rfl⟩)
  refine Spec.by Try.func83 rfl (by decide) (by decide +kernel) rfl ?_
  (refine goA ?_)
  refine Loop.inv (A := Nat) (List.range 27) (fun i => [(2, .nils), (3, .ptr 11 0 1 0 0), (11, .sl 10 0 1 0 1 none), (12, .int .i64 1), (13, .int .i64 (i : Int))]) (fun i => exY a 0 L ++ [one (.row 23 1 false [.nils])]) (fun i => i ≤ 1) (fun i => 1 - i) 0 (Nat.zero_le _) ?_ ?_
  · exact Weak.start' rfl rfl tld
  rintro i hi
  obtain rfl | rfl : i = 0 ∨ i = 1 := by omega
  · (refine goA ?_)
    refine Call.mk (all126 7 _) ?_
    rintro d os' ⟨rfl, rfl⟩
    (refine goA ?_)
    refine Rng.mk (f := 189) (fn := Try.f189) [(2, .nils), (3, .ptr 11 0 1 0 0), (11, .sl 10 0 1 0 1 none), (12, .int .i64 1), (13, .int .i64 0), (18, .fn (.func 189) [] [.ptr 12 0 1 0 0])] (exY a 0 L ++ [one (.row 23 1 false [.nils]), one (.row 56 1 false [.ptr 7 0 4 0 0])]) (Weak.only _ _ (by kernel_rfl) tld) tld rfl Try.func189 rfl rfl (by decide +kernel) rfl rfl (by decide) ?_
    intro gf tm df
    generalize hr : (⟨.ready, none, gf, tm, #[19, 20], _, _, df⟩ : Go.Loop) = r
    (refine goA ?_)
    refine Loop.inv (A := Nat) (List.range 25) (fun i => [(0, .yl 13 0), (1, .ptr 12 0 1 0 0), (9, .int .i64 0), (10, .int .i64 0)]) (fun i => exY a 0 L ++ [one (.row 23 1 false [.nils]), one (.row 56 1 false [.ptr 7 0 4 0 0]), one (.loop r .ready none [(2, .nils), (3, .ptr 11 0 1 0 0), (11, .sl 10 0 1 0 1 none), (12, .int .i64 1), (13, .int .i64 0), (18, .fn (.func 189) [] [.ptr 12 0 1 0 0])])]) (fun _ => True) (fun _ => 0) 0 trivial ?_ ?_
    · exact Weak.start' rfl rfl tld
    rintro _ _
    (refine goA ?_)
    refine After.mk 13 .ready none _ rfl (by decide) ?_
    (refine goA ?_)
    refine ⟨_, _, _, ?_, ⟨0 + 1, ?_, rfl, rfl, rfl⟩, ?_⟩
    · show 1 - (0 + 1) < 1 - 0; omega
    · show 0 + 1 ≤ 1; omega
    · refine Weak.backT 12 (by simp) (by first | rfl | kernel_rfl) (by kernel_rfl) (Nat.le_of_ble_eq_true rfl) tld (by kernel_rfl) (by kernel_rfl)
  · (refine goA ?_)
    exact Ret.mk [.tmp 2] rfl ⟨rfl, _, rfl⟩
theorem all160c {a n : Int} {L : List Int} (hg : Rg 1024 a n L []) : Spec Try.prog 160 [.ptr 0 0 2 0 0] (exY a n L) (fun d os' => d = .nils ∧ os' = exY a n L) := by
  refine Spec.by Try.func160 rfl (by decide) (by decide +kernel) rfl ?_
  (refine goA ?_)
  refine Loop.inv (A := Nat) (List.range 28) (fun i => [(0, .ptr 0 0 2 0 0), (2, .nils), (3, .nils), (9, .sl 1 0 1 0 2 none), (10, .int .i64 2), (11, .int .i64 (i : Int))]) (fun i => exY a n L) (fun i => i ≤ 2) (fun i => 2 - i) 0 (Nat.zero_le _) ?_ ?_
  · exact Weak.start' rfl rfl tld
  rintro i hi
  obtain rfl | rfl | rfl : i = 0 ∨ i = 1 ∨ i = 2 := by omega
  · (refine goA ?_)
    refine ⟨fun _ => ?_, fun h => absurd rfl h⟩
    (refine goA ?_)
    refine ⟨_, _, _, ?_, ⟨0 + 1, ?_, rfl, rfl, rfl⟩, ?_⟩
    · show 2 - (0 + 1) < 2 - 0; omega
    · show 0 + 1 ≤ 2; omega
    · refine Weak.backT 11 (by simp) (by first | rfl | kernel_rfl) (by kernel_rfl) (Nat.le_of_ble_eq_true rfl) tld (by kernel_rfl) (by kernel_rfl)
  · (refine goA ?_)
    refine ⟨fun _ => ?_, fun h => absurd rfl h⟩
    (refine goA ?_)
    refine ⟨_, _, _, ?_, ⟨1 + 1, ?_, rfl, rfl, rfl⟩, ?_⟩
    · show 2 - (1 + 1) < 2 - 1; omega
    · show 1 + 1 ≤ 2; omega
    · refine Weak.backT 11 (by simp) (by first | rfl | kernel_rfl) (by kernel_rfl) (Nat.le_of_ble_eq_true rfl) tld (by kernel_rfl) (by kernel_rfl)
  · (refine goA ?_)
    refine Call.mk (global83c hg) ?_
    rintro d os' ⟨rfl, rfl⟩
    (refine goA ?_)
    refine ⟨fun _ => ?_, fun h => absurd rfl h⟩
    (refine goA ?_)
    exact Ret.mk [.tmp 2] rfl ⟨rfl, rfl⟩
theorem len85c {a n : Int} {L : List Int} (hg : Rg 1024 a n L []) : Spec Try.prog 85 [.ptr 0 0 2 0 0] (exY a n L) (fun d os' => d = .int .i64 0 ∧ os' = exY a n L) := by
  refine Spec.by Try.func85 rfl (by decide) (by decide +kernel) rfl ?_
  (refine goA ?_)
  refine Call.mk (all160c hg) ?_
  rintro d os' ⟨rfl, rfl⟩
  (refine goA ?_)
  exact Ret.mk [.tmp 2] rfl ⟨rfl, rfl⟩
theorem lives79 : Spec Try.prog 79 [] [] (fun d os' => d = .bool true ∧ os' = []) := by
  refine Spec.by Try.func79 rfl (by decide) (by decide +kernel) rfl ?_
  (refine goA ?_)
  refine Call.mk new80c ?_
  rintro d os' ⟨rfl, rfl⟩
  (refine goR ?_)
  refine Pt.weak (Weak.trans Weak.gone Weak.gone) ?_
  (refine goA ?_)
  refine Call.mk give81a ?_
  rintro d os' ⟨rfl, rfl⟩
  (refine goA ?_)
  refine Call.mk give81b ?_
  rintro d os' ⟨a, n, L, ⟨hg, rfl⟩, rfl⟩
  (refine goA ?_)
  refine Call.mk (take84a a n L) ?_
  rintro d os' ⟨rfl, rfl⟩
  (refine goA ?_)
  refine Call.mk (take84b hg) ?_
  rintro d os' ⟨a2, n2, L2, ⟨hg2, rfl⟩, rfl⟩
  (refine goA ?_)
  refine Call.mk (len85c hg2) ?_
  rintro d os' ⟨rfl, rfl⟩
  (refine goA ?_)
  refine Ret.trim 0 (by simp) rfl (Nat.le_of_ble_eq_true rfl) ?_
  refine Ret.mk [.tmp _] rfl ?_; refine And.intro ?_ rfl
  rfl
end Go.Proofs.Ytaplihoeephbeaa.V
