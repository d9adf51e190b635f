/- The statement RingPlays holds: whatever is done to a ring, it is as the document has it. -/
import Derived.Test.YtaplihoeephbeaaRows
import Derived.Test.YtaplihoeephbeaaR15
import Derived.Test.YtaplihoeephbeaaLPair
import Derived.Test.YtaplihoeephbeaaLBase
import Derived.Test.YtaplihoeephbeaaVJoinRingPlays
import Derived.Test.YtaplihoeephbeaaVOpen
import Derived.WalkKit
import Derived.ProofKit
import Derived.OpenShut
import Derived.ShutString
import Derived.ChangeOld
import Derived.Below
import Derived.SizedLaws
namespace Go.Proofs.Ytaplihoeephbeaa.V
open Go Go.Proofs Go.RowKit Go.ChangeShapes Go.WideShapes Go.ChangeAt
set_option linter.unusedVariables false
set_option maxRecDepth 100000
theorem opens_ringPlays : OpensA Try.prog [3, 23, 83] (fun x : Int × List Int × List (Int × Int) × Unit => [D.int .i64 x.1, ints x.2.1, pairs x.2.2.1]) (fun x => I64 x.1 ∧ lok x.2.1 ∧ prok x.2.2.1 ∧ True) :=
  opensA_cons (b := false) (by kernel_rfl) (fun _ => rfl) opens_i (opensA_cons (b := false) (by kernel_rfl) (fun _ => rfl) opens_is (opensA_cons (b := false) (by kernel_rfl) (fun _ => rfl) opens_prs opensA_nil))
end Go.Proofs.Ytaplihoeephbeaa.V
namespace Go.Proofs.Ytaplihoeephbeaa.ringPlays
open Go.ChangeShapes Go.WideShapes Go.ChangeAt Go.RowKit Go.Proofs.Ytaplihoeephbeaa.V
set_option linter.unusedVariables false
theorem own : ownKnob Try.prog.godebug = none := by kernel_rfl
theorem laidOut : laidOutB Try.prog = true := by kernel_rfl
set_option maxRecDepth 100000 in
theorem lifted (os : Os) (started : os.Started) (H : Type) (enc : TypeId × Value → H) :
    ReturnsInHanded {} Try.checked os 11 .any (Rows.ringPlaysSpec.pre6 enc Try.prog Try.f11 Rows.ringPlaysRow.domain false) (Rows.ringPlaysSpec.post enc Try.prog Try.f11 false true false false) := by
  refine returnsInHanded_of_change_sized (C := Try.checked) own started (by kernel_rfl) Try.func11
    (ChangeSpec.witness6 (enc := enc) (C := Try.checked) false ⟨#[], #[.int .i64 0, .slice none 0 0, .slice none 0 0], []⟩ 8 (by kernel_rfl) (by kernel_rfl) (by kernel_rfl) (by kernel_rfl)) ?_
  intro W base args ds gs before hval0 hW hcnd hsz0 _
  have hsz : (DataW.weightsEach Try.prog (Try.f11.params.toList ++ Rows.ringPlaysSpec.plain.varTypes Try.prog) (ds ++ gs)).all (· ≤ reachBytes) = true := hsz0
  have hval : ∀ (j : Nat) t v, Try.f11.params[j]? = some t → args[j]? = some v → Value.okWide Try.prog W .any base t v := hval0
  have hW' := hW
  obtain ⟨p, q, hA0, hV, rfl, hfz, hnd⟩ := hW
  have hA : DataW.TrodAll enc Try.prog W 0 (fun _ => true) true Try.f11.params.toList args.toList ds p := hA0
  obtain ⟨rfl, rfl⟩ := trodVars_none hV
  rw [Try.params11] at hA hval hsz
  obtain ⟨a, hrep, hJ⟩ := opens_ringPlays enc W 0 (fun _ => true) true .any base args.toList ds p hA (fun j t v h1 h2 => hval j t v (by simpa using h1) (by simpa using h2)) (by have e : ds ++ ([] : List (DataW H)) = ds := List.append_nil ds; rw [e] at hsz; exact hsz)
  obtain ⟨v0, vs0, d0, ds0, p0, q0, hargs, rfl, rfl, h0, r0⟩ := trodAll_cons hA
  obtain ⟨v1, vs1, d1, ds1, p1, q1, rfl, rfl, rfl, h1, r1⟩ := trodAll_cons r0
  obtain ⟨v2, vs2, d2, ds2, p2, q2, rfl, rfl, rfl, h2, r2⟩ := trodAll_cons r1
  obtain ⟨rfl, rfl, rfl⟩ := trodAll_nil r2
  have hc := (law11 a.1 hJ.1 a.2.1 hJ.2.1 a.2.2.1 hJ.2.2.1).2 bot (heapIm W) W args.toList (Sat.begin W) hrep
  rw [Array.toArray_toList] at hc
  refine hc.mono fun e W' he => ?_
  obtain ⟨v, d, os', ρ', I', rfl, hd, hs, hfr, hr⟩ := he
  subst hd
  rw [rep] at hr
  subst hr
  have bel := hfr.below
  exact ⟨_, rfl, _, _, _, [], _, [], hW', trodAll_mk1 (shut_bool Try.underlying4 _), trodAll_below laidOut bel (by kernel_rfl) hA0, rfl, bel.frame _, fun h => by cases h⟩
theorem over : Rows.ringPlaysRow.holds Try.pinned (OpenSpec.ofChange Rows.ringPlaysSpec) :=
  OpenClaim.holds_of_wide 11 Try.f11 rfl rfl rfl rfl rfl rfl rfl ⟨rfl, rfl, rfl, rfl, rfl⟩ rfl rfl rfl rfl rfl (by kernel_rfl) Try.func11 joined11
    (of_decide_eq_true (by kernel_rfl)) (by unfold Func.isWrapper; first | (rw [if_pos (by decide +kernel)]; kernel_rfl) | (rw [if_neg (by decide +kernel)]; exact ⟨rfl, rfl⟩))
    (fun os started H enc _ => lifted os started H enc)
theorem proved : Rows.RingPlaysSaid := over
#print axioms proved
end Go.Proofs.Ytaplihoeephbeaa.ringPlays
namespace Go.Proofs.Ytaplihoeephbeaa
/-- The row, under a short name, for the claim. -/
theorem ringPlays_holds : Rows.RingPlaysSaid := ringPlays.proved
end Go.Proofs.Ytaplihoeephbeaa
