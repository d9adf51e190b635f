/- The statement DequePools holds: Whatever is given, taken and stolen, the answers, and what all have, are the document's. -/
import Derived.Test.YtaplihoeephbeaaVA
import Derived.Test.YtaplihoeephbeaaVB
import Derived.Test.YtaplihoeephbeaaVT
import Derived.Test.YtaplihoeephbeaaVC
import Derived.Test.YtaplihoeephbeaaC0
import Derived.Test.YtaplihoeephbeaaC1
import Derived.Test.YtaplihoeephbeaaVJoinDequePools
import Derived.Test.YtaplihoeephbeaaRows
import Derived.WalkKit
import Derived.ProofKit
import Derived.OpenShut
import Derived.ShutString
import Derived.ChangeOld
import Derived.Below
import Derived.SizedLaws
set_option linter.unusedVariables false
set_option linter.unusedSimpArgs false
namespace Go.Proofs.Ytaplihoeephbeaa.V
open Go Go.Proofs Go.RowKit Go.ChangeShapes Go.WideShapes Go.ChangeAt
set_option maxRecDepth 100000
theorem opens_dequePools : OpensA Try.prog [3, 3, 117] (fun x : Int × Int × List (Int × Int × Int) × Unit => [D.int .i64 x.1, D.int .i64 x.2.1, dls x.2.2.1]) (fun x => I64 x.1 ∧ I64 x.2.1 ∧ dlok x.2.2.1 ∧ True) :=
  opensA_cons (b := false) (by kernel_rfl) (fun _ => rfl) opens_i (opensA_cons (b := false) (by kernel_rfl) (fun _ => rfl) opens_i (opensA_cons (b := false) (by kernel_rfl) (fun _ => rfl) opens_dls7 opensA_nil))
end Go.Proofs.Ytaplihoeephbeaa.V
namespace Go.Proofs.Ytaplihoeephbeaa.dequePools
open Go.ChangeShapes Go.WideShapes Go.ChangeAt Go.RowKit Go.Proofs.Ytaplihoeephbeaa.V
theorem own : ownKnob Try.prog.godebug = none := by kernel_rfl
theorem laidOut : laidOutB Try.prog = true := by kernel_rfl
set_option maxRecDepth 100000 in
theorem lifted (os : Os) (started : os.Started) (H : Type) (enc : TypeId × Value → H) :
    ReturnsInHanded {} Try.checked os 28 .any (Rows.dequePoolsSpec.pre6 enc Try.prog Try.f28 Rows.dequePoolsRow.domain false) (Rows.dequePoolsSpec.post enc Try.prog Try.f28 false true false false) := by
  refine returnsInHanded_of_change_sized (C := Try.checked) own started (by kernel_rfl) Try.func28
    (ChangeSpec.witness6 (enc := enc) (C := Try.checked) false ⟨#[], #[.int .i64 0, .int .i64 0, .slice none 0 0], []⟩ 8 (by kernel_rfl) (by kernel_rfl) (by kernel_rfl) (by kernel_rfl)) ?_
  intro W base args ds gs before hval0 hW hcnd hsz0 _
  have hsz : (DataW.weightsEach Try.prog (Try.f28.params.toList ++ Rows.dequePoolsSpec.plain.varTypes Try.prog) (ds ++ gs)).all (· ≤ reachBytes) = true := hsz0
  have hval : ∀ (j : Nat) t v, Try.f28.params[j]? = some t → args[j]? = some v → Value.okWide Try.prog W .any base t v := hval0
  have hW' := hW
  obtain ⟨p, q, hA0, hV, rfl, hfz, hnd⟩ := hW
  have hA : DataW.TrodAll enc Try.prog W 0 (fun _ => true) true Try.f28.params.toList args.toList ds p := hA0
  obtain ⟨rfl, rfl⟩ := trodVars_none hV
  rw [Try.params28] at hA hval hsz
  obtain ⟨a, hrep, hJ⟩ := opens_dequePools enc W 0 (fun _ => true) true .any base args.toList ds p hA (fun j t v h1 h2 => hval j t v (by simpa using h1) (by simpa using h2)) (by have e : ds ++ ([] : List (DataW H)) = ds := List.append_nil ds; rw [e] at hsz; exact hsz)
  obtain ⟨v0, vs0, d0, ds0, p0, q0, hargs, rfl, rfl, h0, r0⟩ := trodAll_cons hA
  obtain ⟨v1, vs1, d1, ds1, p1, q1, rfl, rfl, rfl, h1, r1⟩ := trodAll_cons r0
  obtain ⟨v2, vs2, d2, ds2, p2, q2, rfl, rfl, rfl, h2, r2⟩ := trodAll_cons r1
  obtain ⟨rfl, rfl, rfl⟩ := trodAll_nil r2
  have hc := (law28 a.1 a.2.1 a.2.2.1 hJ.1 hJ.2.1 hJ.2.2.1).2 bot (heapIm W) W args.toList (Sat.begin W) hrep
  rw [Array.toArray_toList] at hc
  refine hc.mono fun e W' he => ?_
  obtain ⟨v, d, os', ρ', I', rfl, hd, hs, hfr, hr⟩ := he
  subst hd
  rw [rep] at hr
  subst hr
  have bel := hfr.below
  exact ⟨_, rfl, _, _, _, [], _, [], hW', trodAll_mk1 (shut_bool Try.underlying4 _), trodAll_below laidOut bel (by kernel_rfl) hA0, rfl, bel.frame _, fun h => by cases h⟩
theorem over : Rows.dequePoolsRow.holds Try.pinned (OpenSpec.ofChange Rows.dequePoolsSpec) :=
  OpenClaim.holds_of_wide 28 Try.f28 rfl rfl rfl rfl rfl rfl rfl ⟨rfl, rfl, rfl, rfl, rfl⟩ rfl rfl rfl rfl rfl (by kernel_rfl) Try.func28 joined28
    (of_decide_eq_true (by kernel_rfl)) (by unfold Func.isWrapper; first | (rw [if_pos (by decide +kernel)]; kernel_rfl) | (rw [if_neg (by decide +kernel)]; exact ⟨rfl, rfl⟩))
    (fun os started H enc _ => lifted os started H enc)
theorem proved : Rows.DequePoolsSaid := over
#print axioms proved
end Go.Proofs.Ytaplihoeephbeaa.dequePools
namespace Go.Proofs.Ytaplihoeephbeaa
/-- The row, under a short name, for the claim. -/
theorem dequePools_holds : Rows.DequePoolsSaid := dequePools.proved
end Go.Proofs.Ytaplihoeephbeaa
