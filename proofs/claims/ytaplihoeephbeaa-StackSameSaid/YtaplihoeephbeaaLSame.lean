/- The statement StackSame holds: whether two threads are one is told as the document says, for every input. -/
import Derived.Test.YtaplihoeephbeaaRows
import Derived.Test.YtaplihoeephbeaaS9
import Derived.Test.YtaplihoeephbeaaVOpen
import Derived.Test.YtaplihoeephbeaaVJoin
import Derived.WalkKit
import Derived.ProofKit
import Derived.OpenShut
import Derived.ShutString
import Derived.ChangeOld
import Derived.Below
import Derived.SizedLaws
namespace Go.Proofs.Ytaplihoeephbeaa.V
open Go Go.Proofs Go.RowKit Go.ChangeShapes Go.WideShapes Go.ChangeAt
set_option linter.unusedVariables false
set_option maxRecDepth 100000
/-- A thread, as data. -/
theorem opens_fm : Opens Try.prog 34 frD (fun f => f.ls.length * 8 ≤ 140737488351232) := by
  refine opens_iso (opens_struct (P := Try.prog) (t := 34) Try.underlying34 (by kernel_rfl) (opensL_cons (opens_int Try.underlying3) (opensL_cons (opens_int Try.underlying3) (opensL_one (opens_slice Try.underlying23 (opens_int Try.underlying3) (sz := 1) (by kernel_rfl) (by decide)))))) (fun x => (⟨x.1, x.2.1, x.2.2⟩ : Fm)) (fun x => rfl) (fun x hx => ?_)
  have := hx.2.2.2.1
  have hb : Try.prog.bytesOf 3 = 8 := by kernel_rfl
  rw [hb] at this
  exact this
theorem opens_th : Opens Try.prog 29 thD Th.okB := by
  refine opens_iso (opens_struct (P := Try.prog) (t := 29) Try.underlying29 (by kernel_rfl) (opensL_cons (opens_int Try.underlying3) (opensL_cons (opens_int Try.underlying3) (opensL_cons (opens_slice Try.underlying27 opens_fm (sz := 3) (by kernel_rfl) (by decide)) (opensL_cons (opens_slice Try.underlying23 (opens_int Try.underlying3) (sz := 1) (by kernel_rfl) (by decide)) (opensL_one (opens_int Try.underlying3))))))) (fun x => (⟨x.1, x.2.1, x.2.2.1, x.2.2.2.1, x.2.2.2.2⟩ : Th)) (fun x => rfl) (fun x hx => ?_)
  have h1 := hx.2.2.1
  have h2 := hx.2.2.2.1
  have hb : Try.prog.bytesOf 3 = 8 := by kernel_rfl
  have hb' : Try.prog.bytesOf 34 = 40 := by kernel_rfl
  rw [hb] at h2
  rw [hb'] at h1
  exact ⟨h1.2.1, h2.2.1, h1.2.2⟩
theorem opens_same0 : OpensA Try.prog [29, 29, 3] (fun x : Th × Th × Int × Unit => [thD x.1, thD x.2.1, .int .i64 x.2.2.1]) (fun x => x.1.okB ∧ x.2.1.okB ∧ (-9223372036854775808 ≤ x.2.2.1 ∧ x.2.2.1 ≤ 9223372036854775807) ∧ True) :=
  opensA_cons (b := true) (by kernel_rfl) (fun _ => rfl) opens_th (opensA_cons (b := true) (by kernel_rfl) (fun _ => rfl) opens_th (opensA_cons (b := false) (by kernel_rfl) (fun _ => rfl) (opens_int Try.underlying3) opensA_nil))
theorem opens_same : OpensA Try.prog [29, 29, 3] (fun x : Th × Th × Int × Unit => [thD x.1, thD x.2.1, .int .i64 x.2.2.1]) (fun x => x.1.okB ∧ (-9223372036854775808 ≤ x.2.2.1 ∧ x.2.2.1 ≤ 9223372036854775807)) := by
  intro H en w base sp held r b0 args ds ps h1 h2 h3
  obtain ⟨a, ha, hj⟩ := opens_same0 en w base sp held r b0 args ds ps h1 h2 h3
  exact ⟨a, ha, hj.1, hj.2.2.1⟩
end Go.Proofs.Ytaplihoeephbeaa.V
namespace Go.Proofs.Ytaplihoeephbeaa.stackSame
open Go.ChangeShapes Go.WideShapes Go.ChangeAt Go.RowKit Go.Proofs.Ytaplihoeephbeaa.V
set_option linter.unusedVariables false
theorem own : ownKnob Try.prog.godebug = none := by kernel_rfl
theorem laidOut : laidOutB Try.prog = true := by kernel_rfl
set_option maxRecDepth 100000 in
theorem lifted (os : Os) (started : os.Started) (H : Type) (enc : TypeId × Value → H) :
    ReturnsInHanded {} Try.checked os 9 .any (Rows.stackSameSpec.pre6 enc Try.prog Try.f9 Rows.stackSameRow.domain false) (Rows.stackSameSpec.post enc Try.prog Try.f9 false true false false) := by
  refine returnsInHanded_of_change_sized (C := Try.checked) own started (by kernel_rfl) Try.func9
    (ChangeSpec.witness6 (enc := enc) (C := Try.checked) false ⟨#[], #[.agg #[.int .i64 0, .int .i64 0, .slice none 0 0, .slice none 0 0, .int .i64 0], .agg #[.int .i64 0, .int .i64 0, .slice none 0 0, .slice none 0 0, .int .i64 0], .int .i64 0], []⟩ 8 (by kernel_rfl) (by kernel_rfl) (by kernel_rfl) (by kernel_rfl)) ?_
  intro W base args ds gs before hval0 hW hcnd hsz0 _
  have hsz : (DataW.weightsEach Try.prog (Try.f9.params.toList ++ Rows.stackSameSpec.plain.varTypes Try.prog) (ds ++ gs)).all (· ≤ reachBytes) = true := hsz0
  have hval : ∀ (j : Nat) t v, Try.f9.params[j]? = some t → args[j]? = some v → Value.okWide Try.prog W .any base t v := hval0
  have hW' := hW
  obtain ⟨p, q, hA0, hV, rfl, hfz, hnd⟩ := hW
  have hA : DataW.TrodAll enc Try.prog W 0 (fun _ => true) true Try.f9.params.toList args.toList ds p := hA0
  obtain ⟨rfl, rfl⟩ := trodVars_none hV
  rw [Try.params9] at hA hval hsz
  obtain ⟨a, hrep, hJ⟩ := opens_same enc W 0 (fun _ => true) true .any base args.toList ds p hA (fun j t v h1 h2 => hval j t v (by simpa using h1) (by simpa using h2)) (by have e : ds ++ ([] : List (DataW H)) = ds := List.append_nil ds; rw [e] at hsz; exact hsz)
  obtain ⟨v0, vs0, d0, ds0, p0, q0, hargs, rfl, rfl, h0, r0⟩ := trodAll_cons hA
  obtain ⟨v1, vs1, d1, ds1, p1, q1, rfl, rfl, rfl, h1, r1⟩ := trodAll_cons r0
  obtain ⟨v2, vs2, d2, ds2, p2, q2, rfl, rfl, rfl, h2, r2⟩ := trodAll_cons r1
  obtain ⟨rfl, rfl, rfl⟩ := trodAll_nil r2
  have hc := (law9 a.1 a.2.1 a.2.2.1 hJ.1 hJ.2).2 bot (heapIm W) W args.toList (Sat.begin W) hrep
  rw [Array.toArray_toList] at hc
  refine hc.mono fun e W' he => ?_
  obtain ⟨v, d, os', ρ', I', rfl, hd, hs, hfr, hr⟩ := he
  subst hd
  rw [rep] at hr
  subst hr
  have bel := hfr.below
  exact ⟨_, rfl, _, _, _, [], _, [], hW', trodAll_mk1 (shut_bool Try.underlying4 _), trodAll_below laidOut bel (by kernel_rfl) hA0, rfl, bel.frame _, fun h => by cases h⟩
theorem over : Rows.stackSameRow.holds Try.pinned (OpenSpec.ofChange Rows.stackSameSpec) :=
  OpenClaim.holds_of_wide 9 Try.f9 rfl rfl rfl rfl rfl rfl rfl ⟨rfl, rfl, rfl, rfl, rfl⟩ rfl rfl rfl rfl rfl (by kernel_rfl) Try.func9 joined9
    (of_decide_eq_true (by kernel_rfl)) (by unfold Func.isWrapper; first | (rw [if_pos (by decide +kernel)]; kernel_rfl) | (rw [if_neg (by decide +kernel)]; exact ⟨rfl, rfl⟩))
    (fun os started H enc _ => lifted os started H enc)
theorem proved : Rows.StackSameSaid := over
#print axioms proved
end Go.Proofs.Ytaplihoeephbeaa.stackSame
namespace Go.Proofs.Ytaplihoeephbeaa
/-- The row, under a short name, for the claim. -/
theorem stackSame_holds : Rows.StackSameSaid := stackSame.proved
end Go.Proofs.Ytaplihoeephbeaa
