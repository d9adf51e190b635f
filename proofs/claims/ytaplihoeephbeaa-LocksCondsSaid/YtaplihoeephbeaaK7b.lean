/- K7b: a text of a symbolic executor that is proved sound, and contracts that are proved with it. -/
import Derived.Test.YtaplihoeephbeaaK7
set_option linter.unusedVariables false
set_option linter.unusedSimpArgs false
namespace Go.Proofs.Ytaplihoeephbeaa.V
open Go Go.Proofs
set_option maxRecDepth 100000
set_option maxHeartbeats 40000000
@[reducible] def lkD1 (nm nw ns : Nat) : D := .agg [.int .i64 0, .nils, .sl 1 0 1 0 nm none, .sl 2 0 1 0 ns none, .nils, .sl 3 0 1 0 nm none, .sl 4 0 1 0 nw none, .sl 5 0 1 0 ns none, .nils, .nils]
@[reducible] def lkDx (nm nw ns a b c d e : Nat) : D := .agg [.int .i64 0, .nils, .sl a 0 1 0 nm none, .sl b 0 1 0 ns none, .nils, .sl c 0 1 0 nm none, .sl d 0 1 0 nw none, .sl e 0 1 0 ns none, .nils, .nils]
@[reducible] def nilC (n : Nat) : Fam := one (.row 23 1 true (List.replicate n .nils))
theorem rep_nilsL {ρ : Pl} {I : Im} {v : Value} (sz : Nat) (f : Bool) (h : rep ρ I .nils v) : rep ρ I (.lst sz f []) v := by
  have h' : v = .slice none 0 0 := by rw [rep] at h; exact h
  rw [rep]
  exact ⟨none, 0, [], h', Nat.le_refl _, by simp, fun _ => rfl, repL_nil.2 rfl, (fun u hu => by cases hu), .inl rfl⟩
theorem repL_nilsL {ρ : Pl} {I : Im} : ∀ (n : Nat) (vs : List Value), repL ρ I (List.replicate n .nils) vs → repL ρ I ((List.replicate n ([] : List Int)).map ints) vs
  | 0, vs, h => h
  | n + 1, vs, h => by
    obtain ⟨u, us, rfl, hu, h⟩ := repL_cons.1 h
    exact repL_cons.2 ⟨u, us, rfl, rep_nilsL 1 false hu, repL_nilsL n us h⟩
theorem Weak.nilsC {n0 : Nat} {m : List (Nat × D)} {os : Objs} (k n : Nat) (hk : os.at k 0 = .row 23 1 true (List.replicate n .nils)) : Weak n0 { m := m, objs := os } { m := m, objs := os.put k 0 (.row 23 1 true ((List.replicate n ([] : List Int)).map ints)) } :=
  Weak.retellP k hk _ (by simp) (fun I us => repL_nilsL n us)
theorem new66i (nm nw : Nat) (se : List Int) (h1 : nm ≤ 1000) (h2 : nw ≤ 1000) (h3 : se.length ≤ 1000) : Spec Try.prog 66 [.int .i64 nm, .int .i64 nw, ints se] [] (fun d os' => d = lkD1 nm nw se.length ∧ os' = one (.row 93 10 false [lkD1 nm nw se.length]) :: lkR (newS nm nw se)) := by
  have hsm : (se.map (D.int .i64)).length = se.length := List.length_map ..
  refine Spec.by Try.func66 rfl (by decide) (by decide +kernel) rfl ?_
  (refine goA ?_)
  repeat (refine erC ?_)
  (refine goA ?_)
  refine App.only false rfl rfl ?_
  (refine goA ?_)
  repeat (refine erC ?_)
  refine Call.mk ((repeat148 (-1) nm h1).onto _ rfl) ?_
  rintro d os' ⟨_, _, ⟨rfl, rfl⟩, rfl, rfl⟩
  (refine goA ?_)
  repeat (refine erC ?_)
  refine Call.mk ((clone130w se (by omega)).onto _ rfl) ?_
  rintro d os' ⟨_, _, ⟨rfl, rfl⟩, rfl, rfl⟩
  (refine goA ?_)
  repeat (refine erC ?_)
  (refine goA ?_)
  repeat (refine erC ?_)
  (refine goA ?_)
  repeat (refine erC ?_)
  (refine goA ?_)
  refine Ret.weak (Weak.on [(6, .ptr 0 0 10 0 0)] [one (.row 93 10 false [.agg [.int .i64 0, .nils, .sl 1 0 1 0 nm none, .sl 2 0 1 0 se.length none, .nils, .sl 3 0 1 0 nm none, .sl 4 0 1 0 nw none, .sl 5 0 1 0 (se.map (D.int .i64)).length none, .nils, .nils]]), rowI (List.replicate nm (-1)), rowI se, nilC nm, nilC nw, nilC (se.map (D.int .i64)).length]) ?_
  rw [hsm]
  refine Ret.weak (Weak.trans (Weak.nilsC 3 nm rfl) (Weak.trans (Weak.nilsC 4 nw rfl) (Weak.nilsC 5 se.length rfl))) ?_
  refine Ret.mk [.cell 6 93] rfl ?_
  (refine goA ?_)
  exact rfl
theorem new66 (nm nw : Nat) (se : List Int) (h1 : nm ≤ 1000) (h2 : nw ≤ 1000) (h3 : se.length ≤ 1000) : Spec Try.prog 66 [.int .i64 nm, .int .i64 nw, ints se] [] (fun d os' => d = lkD nm nw se.length ∧ os' = lkR (newS nm nw se)) := by
  refine Spec.weak (new66i nm nw se h1 h2 h3) ?_
  rintro d os' ⟨rfl, rfl⟩
  refine ⟨[(0, lkD nm nw se.length)], lkR (newS nm nw se), ?_, rfl, rfl⟩
  refine Weak.trans (Weak.frzK (fun i => Nat.beq i 0) [] trivial) ?_
  refine Weak.trans (Weak.on [(0, lkDx nm nw se.length 1 2 3 4 5)] [one .gone, rowI (newS nm nw se).ow, rowI (newS nm nw se).co, rowC (newS nm nw se).lk, rowC (newS nm nw se).wq, rowC (newS nm nw se).dq]) ?_
  refine Weak.shf 1 0 ?_
  refine Weak.trans (Weak.on [(0, lkDx nm nw se.length 0 2 3 4 5)] [rowI (newS nm nw se).ow, one .gone, rowI (newS nm nw se).co, rowC (newS nm nw se).lk, rowC (newS nm nw se).wq, rowC (newS nm nw se).dq]) ?_
  refine Weak.shf 2 1 ?_
  refine Weak.trans (Weak.on [(0, lkDx nm nw se.length 0 1 3 4 5)] [rowI (newS nm nw se).ow, rowI (newS nm nw se).co, one .gone, rowC (newS nm nw se).lk, rowC (newS nm nw se).wq, rowC (newS nm nw se).dq]) ?_
  refine Weak.shf 3 2 ?_
  refine Weak.trans (Weak.on [(0, lkDx nm nw se.length 0 1 2 4 5)] [rowI (newS nm nw se).ow, rowI (newS nm nw se).co, rowC (newS nm nw se).lk, one .gone, rowC (newS nm nw se).wq, rowC (newS nm nw se).dq]) ?_
  refine Weak.shf 4 3 ?_
  refine Weak.trans (Weak.on [(0, lkDx nm nw se.length 0 1 2 3 5)] [rowI (newS nm nw se).ow, rowI (newS nm nw se).co, rowC (newS nm nw se).lk, rowC (newS nm nw se).wq, one .gone, rowC (newS nm nw se).dq]) ?_
  refine Weak.shf 5 4 ?_
  refine Weak.trans (Weak.on [(0, lkDx nm nw se.length 0 1 2 3 4)] [rowI (newS nm nw se).ow, rowI (newS nm nw se).co, rowC (newS nm nw se).lk, rowC (newS nm nw se).wq, rowC (newS nm nw se).dq, one .gone]) ?_
  exact Weak.fin 5
end Go.Proofs.Ytaplihoeephbeaa.V
