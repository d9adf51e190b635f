/- D3: a text of a symbolic executor that is proved sound, and contracts that are proved with it. -/
import Derived.Test.YtaplihoeephbeaaD2
import Derived.Test.YtaplihoeephbeaaR4
set_option linter.unusedVariables false
set_option linter.unusedSimpArgs false
namespace Go.Proofs.Ytaplihoeephbeaa.V
open Go Go.Proofs
set_option maxRecDepth 100000
set_option maxHeartbeats 40000000
/-- The pool of the document's example. -/
@[reducible] def p0C (rings : D) : Fam := one (.row 114 2 false [.agg [rings, .sl 1 0 1 0 2 none]])
@[reducible] def p0R : Fam := one (.row 102 1 false [.ptr 2 0 2 0 0, .ptr 3 0 2 0 0])
theorem new80c : Spec Try.prog 80 [.int .i64 2, .int .i64 1] [] (fun d os' => d = .ptr 0 0 2 0 0 ∧ os' = [p0C .nils, p0R, dqB 1 [], dqB 1 []]) := by
  refine Spec.by Try.func80 rfl (by decide) (by decide +kernel) rfl ?_
  (refine goR ?_)
  ((with_reducible refine Pt.go ?_); conv => whnf)
  (refine goR ?_)
  ((with_reducible refine Pt.go ?_); conv => whnf)
  (refine goR ?_)
  refine Pt.weak (Weak.trans (Weak.only [(0, .int .i64 2), (1, .int .i64 1), (4, .nilp), (5, .ptr 0 0 2 0 0)] [one (.row 114 2 false [.agg [.nils, .nils]])] (by kernel_rfl) tld) (Weak.nilO 0 1 rfl (es := [.agg [.nils, .nils]]) rfl [.agg [.nils, .sl 1 0 1 0 0 none]] rfl (.cons (.agg (.cons (.same _ _) (.cons (.nils _ _) (.same _ _)))) (.same _ _)) 102 1 false)) ?_
  (refine goA ?_)
  refine Loop.inv (A := Nat) (List.range 26) (fun i => [(1, .int .i64 1), (4, .nilp), (5, .ptr 0 0 2 0 0), (10, .int .i64 2), (11, .int .i64 (i : Int))]) (fun i => match i with
    | 0 => [one (.row 114 2 false [.agg [.nils, .sl 1 0 1 0 0 none]]), one (.row 102 1 false [])]
    | 1 => [one (.row 114 2 false [.agg [.nils, .sl 1 0 1 0 1 none]]), one (.row 102 1 false [.ptr 2 0 2 0 0]), one (.row 201 2 false [.agg [.int .i64 1, .nils]])]
    | _ => [p0C .nils, p0R, one (.row 201 2 false [.agg [.int .i64 1, .nils]]), one (.row 201 2 false [.agg [.int .i64 1, .nils]])]) (fun i => i ≤ 2) (fun i => 2 - i) 0 (Nat.zero_le _) ?_ ?_
  · exact Weak.start' rfl rfl tld
  rintro i hi
  have hq : dqI 1 = 1 := rfl
  obtain rfl | rfl | rfl : i = 0 ∨ i = 1 ∨ i = 2 := by omega
  · (refine goA ?_)
    refine Call.mk ((new73 1).onto _ rfl) ?_
    rintro d os' ⟨d1, os1, ⟨rfl, rfl⟩, rfl, rfl⟩
    rw [hq]
    (refine goA ?_)
    refine App.own ?_
    (refine goA ?_)
    refine ⟨_, _, _, ?_, ⟨0 + 1, ?_, rfl, rfl, rfl⟩, ?_⟩
    · show 2 - (0 + 1) < 2 - 0; omega
    · show 0 + 1 ≤ 2; omega
    · refine Weak.trans (Weak.shift 4 1 (by decide) (by simp) (Nat.le_of_ble_eq_true rfl) (Nat.le_of_ble_eq_true rfl) (fun j => by cases j <;> rfl) rfl) ?_
      refine Weak.backT 3 (by simp) (by first | rfl | kernel_rfl) (by kernel_rfl) (Nat.le_of_ble_eq_true rfl) tld (by kernel_rfl) (by kernel_rfl)
  · (refine goA ?_)
    refine Call.mk ((new73 1).onto _ rfl) ?_
    rintro d os' ⟨d1, os1, ⟨rfl, rfl⟩, rfl, rfl⟩
    rw [hq]
    (refine goA ?_)
    refine App.own ?_
    (refine goA ?_)
    refine ⟨_, _, _, ?_, ⟨1 + 1, ?_, rfl, rfl, rfl⟩, ?_⟩
    · show 2 - (1 + 1) < 2 - 1; omega
    · show 1 + 1 ≤ 2; omega
    · refine Weak.trans (Weak.shift 5 1 (by decide) (by simp) (Nat.le_of_ble_eq_true rfl) (Nat.le_of_ble_eq_true rfl) (fun j => by cases j <;> rfl) rfl) ?_
      refine Weak.backT 4 (by simp) (by first | rfl | kernel_rfl) (by kernel_rfl) (Nat.le_of_ble_eq_true rfl) tld (by kernel_rfl) (by kernel_rfl)
  · (refine goA ?_)
    refine Ret.weak (Weak.trans (Weak.only [(4, .ptr 0 0 2 0 0)] [p0C .nils, p0R, one (.row 201 2 false [.agg [.int .i64 1, .nils]]), one (.row 201 2 false [.agg [.int .i64 1, .nils]])] (by kernel_rfl) tld) (Weak.trans (Weak.frzO (fun _ => false) [] 2 (ty := 201) (sz := 2) (es := [.agg [.int .i64 1, .nils]]) rfl rfl [.agg [.int .i64 1, .lst 1 true []]] rfl (.cons (View.agg (.cons (.same _) (.cons (View.nils 1 true) .nil))) .nil) trivial) (Weak.frzO (fun _ => false) [] 3 (ty := 201) (sz := 2) (es := [.agg [.int .i64 1, .nils]]) rfl rfl [.agg [.int .i64 1, .lst 1 true []]] rfl (.cons (View.agg (.cons (.same _) (.cons (View.nils 1 true) .nil))) .nil) trivial))) ?_
    exact Ret.mk [.tmp 4] rfl ⟨rfl, rfl⟩
theorem is157c (k : Nat) (os : Objs) (rings : D) (h : os[0]? = some (p0C rings)) : Spec Try.prog 157 [.ptr 0 0 2 0 0, .int .i64 0] os (fun d os' => d = .bool true ∧ os' = os) := by
  have hat := at_one h
  refine Spec.by Try.func157 rfl (by decide) (by decide +kernel) rfl ?_
  (refine goA ?_)
  rw [hat]
  (refine goA ?_)
  exact Ret.mk [.tmp 4] rfl ⟨rfl, rfl⟩
theorem give81a : Spec Try.prog 81 [.ptr 0 0 2 0 0, .int .i64 0, .int .i64 5] [p0C .nils, p0R, dqB 1 [], dqB 1 [], one .gone, one .gone] (fun d os' => d = .int .i64 0 ∧ os' = [p0C .nils, p0R, dqA 1 1 6, dqB 1 [], one .gone, one .gone, rowI [5]]) := by
  refine Spec.by Try.func81 rfl (by decide) (by decide +kernel) rfl ?_
  (refine goA ?_)
  refine Call.mk (is157c 0 _ .nils rfl) ?_
  rintro d os' ⟨rfl, rfl⟩
  (refine goA ?_)
  refine Call.mk (push74at false 1 [] 5 (by decide) (by decide) 2 4 _ rfl rfl (by decide)) ?_
  rintro d os' ⟨rfl, rfl⟩
  rw [if_neg (by decide)]
  (refine goA ?_)
  exact Ret.mk [.tmp 6] rfl ⟨rfl, rfl⟩
theorem put158c : Spec Try.prog 158 [.ptr 0 0 2 0 0, .int .i64 6] [p0C .nils, p0R, dqA 1 1 6, dqB 1 [], one .gone, one .gone, rowI [5]] (fun d os' => ∃ a n L, (Rg 1024 a n L [6] ∧ d = .tup []) ∧ os' = [p0C (.sl 10 0 1 0 1 none), p0R, dqA 1 1 6, dqB 1 [], one .gone, one .gone, rowI [5], rgC 1024 a n L.length 8, rowI L, one (.row 56 1 false [.ptr 7 0 4 0 0]), one (.row 56 1 false [.ptr 7 0 4 0 0])]) := by
  have hc : newL (roomI 1024) [] [6] = [6] := rfl
  have hro : roomI 1024 = 1024 := rfl
  refine Spec.by Try.func158 rfl (by decide) (by decide +kernel) rfl ?_
  (refine goA ?_)
  refine App.only false rfl rfl ?_
  (refine goA ?_)
  refine Call.mk ((new46 1024 [6] (by decide)).onto _ rfl) ?_
  rintro d os' ⟨d1, os1, ⟨a, n, L, ⟨hg, rfl⟩, rfl⟩, rfl, rfl⟩
  rw [hc, hro] at hg
  rw [hro]
  (refine goA ?_)
  refine App.own ?_
  (refine goA ?_)
  refine App.own ?_
  (refine goA ?_)
  exact Ret.mk [] rfl ⟨a, n, L, ⟨hg, rfl⟩, rfl⟩
theorem give81b : Spec Try.prog 81 [.ptr 0 0 2 0 0, .int .i64 0, .int .i64 6] [p0C .nils, p0R, dqA 1 1 6, dqB 1 [], one .gone, one .gone, rowI [5]] (fun d os' => ∃ a n L, (Rg 1024 a n L [6] ∧ d = .int .i64 0) ∧ os' = [p0C (.sl 10 0 1 0 1 none), p0R, dqA 1 1 6, dqB 1 [], one .gone, one .gone, rowI [5], rgC 1024 a n L.length 8, rowI L, one (.row 56 1 false [.ptr 7 0 4 0 0]), one (.row 56 1 false [.ptr 7 0 4 0 0])]) := by
  refine Spec.by Try.func81 rfl (by decide) (by decide +kernel) rfl ?_
  (refine goA ?_)
  refine Call.mk (is157c 0 _ .nils rfl) ?_
  rintro d os' ⟨rfl, rfl⟩
  (refine goA ?_)
  refine Call.mk (push74at true 1 [5] 6 (by decide) (by decide) 2 6 _ rfl rfl (by decide)) ?_
  rintro d os' ⟨rfl, rfl⟩
  rw [if_pos (by decide)]
  (refine goA ?_)
  refine Call.mk put158c ?_
  rintro d os' ⟨a, n, L, ⟨hg, rfl⟩, rfl⟩
  (refine goA ?_)
  exact Ret.mk [.tmp 6] rfl ⟨a, n, L, ⟨hg, rfl⟩, rfl⟩
@[reducible] def exY (a n : Int) (L : List Int) : Objs := [p0C (.sl 10 0 1 0 1 none), p0R, dqB 1 [], dqB 1 [], one .gone, one .gone, one .gone, rgC 1024 a n L.length 8, rowI L, one (.row 56 1 false [.ptr 7 0 4 0 0]), one (.row 56 1 false [.ptr 7 0 4 0 0])]
theorem take84a (a n : Int) (L : List Int) : Spec Try.prog 84 [.ptr 0 0 2 0 0, .int .i64 0] [p0C (.sl 10 0 1 0 1 none), p0R, dqA 1 1 6, dqB 1 [], one .gone, one .gone, rowI [5], rgC 1024 a n L.length 8, rowI L, one (.row 56 1 false [.ptr 7 0 4 0 0]), one (.row 56 1 false [.ptr 7 0 4 0 0])] (fun d os' => d = .tup [.int .i64 5, .int .i64 0] ∧ os' = exY a n L) := by
  refine Spec.by Try.func84 rfl (by decide) (by decide +kernel) rfl ?_
  (refine goA ?_)
  refine Call.mk (is157c 0 _ (.sl 10 0 1 0 1 none) rfl) ?_
  rintro d os' ⟨rfl, rfl⟩
  (refine goA ?_)
  refine Call.mk (pop76at true 1 [5] (by decide) 2 6 _ rfl rfl (by decide)) ?_
  rintro d os' (⟨h, _⟩ | ⟨v, h, rfl, rfl⟩)
  · cases h
  · obtain rfl : 5 = v := Option.some.inj h
    (refine goA ?_)
    exact Ret.mk [.tmp 4, .tmp 5] rfl ⟨rfl, rfl⟩
theorem first159c {a n : Int} {L : List Int} (hg : Rg 1024 a n L [6]) : Spec Try.prog 159 [.ptr 0 0 2 0 0] (exY a n L) (fun d os' => ∃ a n L, (Rg 1024 a n L [] ∧ d = .tup [.int .i64 6, .int .i64 0]) ∧ os' = exY a n L) := by
  refine Spec.by Try.func159 rfl (by decide) (by decide +kernel) rfl ?_
  (refine goA ?_)
  refine Loop.inv (A := Nat) (List.range 34) (fun i => [(0, .ptr 0 0 2 0 0), (2, .int .i64 0), (3, .int .i64 0)]) (fun _ => exY a n L) (fun _ => True) (fun _ => 0) 0 trivial ?_ ?_
  · exact Weak.start' rfl rfl tld
  rintro _ _
  (refine goA ?_)
  refine Call.mk (Spec.rgP (pop48x hg) 7 8 _ rfl rfl (by decide) rfl (by rintro d a n L ⟨rfl, _⟩; rfl)) ?_
  rintro d os' ⟨a3, n3, L3, ⟨rfl, hg3⟩, rfl⟩
  (refine goA ?_)
  exact Ret.mk [.tmp 2, .tmp 3] rfl ⟨a3, n3, L3, ⟨hg3, rfl⟩, rfl⟩
theorem take84b {a n : Int} {L : List Int} (hg : Rg 1024 a n L [6]) : Spec Try.prog 84 [.ptr 0 0 2 0 0, .int .i64 0] (exY a n L) (fun d os' => ∃ a n L, (Rg 1024 a n L [] ∧ d = .tup [.int .i64 6, .int .i64 0]) ∧ os' = exY a n L) := by
  refine Spec.by Try.func84 rfl (by decide) (by decide +kernel) rfl ?_
  (refine goA ?_)
  refine Call.mk (is157c 0 _ (.sl 10 0 1 0 1 none) rfl) ?_
  rintro d os' ⟨rfl, rfl⟩
  (refine goA ?_)
  refine Call.mk (pop76at false 1 [] (by decide) 2 6 _ rfl rfl (by decide)) ?_
  rintro d os' (⟨_, rfl, rfl⟩ | ⟨v, h, _⟩)
  · (refine goA ?_)
    refine Call.mk (first159c hg) ?_
    rintro d os' ⟨a3, n3, L3, ⟨hg3, rfl⟩, rfl⟩
    (refine goA ?_)
    exact Ret.mk [.tmp 4, .tmp 5] rfl ⟨a3, n3, L3, ⟨hg3, rfl⟩, rfl⟩
  · cases h
end Go.Proofs.Ytaplihoeephbeaa.V
