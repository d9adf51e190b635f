/- The parameters of laws, as data: programs, threads, lists. -/
import Derived.Test.YtaplihoeephbeaaRows
import Derived.Test.YtaplihoeephbeaaS14
import Derived.Test.YtaplihoeephbeaaVOpen
import Derived.WalkKit
import Derived.ProofKit
import Derived.OpenShut
import Derived.ShutString
import Derived.ChangeOld
import Derived.Below
import Derived.SizedLaws
set_option linter.unusedVariables false
set_option linter.unusedSimpArgs false
namespace Go.Proofs.Ytaplihoeephbeaa.V
open Go Go.Proofs Go.RowKit Go.ChangeShapes Go.WideShapes Go.ChangeAt
set_option maxRecDepth 100000
theorem b3 : Try.prog.bytesOf 3 = 8 := by kernel_rfl
theorem b23 : Try.prog.bytesOf 23 = 24 := by kernel_rfl
theorem b34 : Try.prog.bytesOf 34 = 40 := by kernel_rfl
theorem b45 : Try.prog.bytesOf 45 = 32 := by kernel_rfl
theorem b139 : Try.prog.bytesOf 139 = 16 := by kernel_rfl
theorem opens_i : Opens Try.prog 3 (D.int .i64) I64 := by
  refine opens_iso (opens_int Try.underlying3) (fun x => x) (fun x => rfl) (fun x hx => hx)
theorem opens_is : Opens Try.prog 23 ints lok := by
  refine opens_iso (opens_slice Try.underlying23 opens_i (sz := 1) (by kernel_rfl) (by decide)) (fun x => x) (fun x => rfl) (fun x hx => ?_)
  have h1 := hx.2.1
  rw [b3] at h1
  exact ⟨h1, hx.2.2⟩
theorem opens_iss : Opens Try.prog 24 (fun l : List (List Int) => .lst 1 false (l.map ints)) (fun l => l.length * 24 ≤ 140737488351232 ∧ ∀ x ∈ l, lok x) := by
  refine opens_iso (opens_slice Try.underlying24 opens_is (sz := 1) (by kernel_rfl) (by decide)) (fun x => x) (fun x => rfl) (fun x hx => ?_)
  have h1 := hx.2.1
  rw [b23] at h1
  exact ⟨h1, hx.2.2⟩
theorem opens_in : Opens Try.prog 139 inD (fun x => I64 x.1 ∧ I64 x.2) := by
  refine opens_iso (opens_struct (P := Try.prog) (t := 139) Try.underlying139 (by kernel_rfl) (opensL_cons opens_i (opensL_one opens_i))) (fun x => (x.1, x.2)) (fun x => rfl) (fun x hx => hx)
theorem opens_fu : Opens Try.prog 45 fuD (fun f => I64 f.loc ∧ f.code.length * 16 ≤ 140737488351232 ∧ ∀ x ∈ f.code, I64 x.1 ∧ I64 x.2) := by
  refine opens_iso (opens_struct (P := Try.prog) (t := 45) Try.underlying45 (by kernel_rfl) (opensL_cons opens_i (opensL_one (opens_slice Try.underlying43 opens_in (sz := 2) (by kernel_rfl) (by decide))))) (fun x => (⟨x.1, x.2⟩ : Fu)) (fun x => rfl) (fun x hx => ?_)
  have h1 := hx.2.2.1
  rw [b139] at h1
  exact ⟨hx.1, h1, hx.2.2.2⟩
theorem opens_pg : Opens Try.prog 26 pgD Pg.okB := by
  refine opens_iso (opens_struct (P := Try.prog) (t := 26) Try.underlying26 (by kernel_rfl) (opensL_cons (opens_slice Try.underlying22 opens_fu (sz := 2) (by kernel_rfl) (by decide)) (opensL_cons opens_i (opensL_cons opens_is (opensL_cons opens_is (opensL_cons opens_is (opensL_cons opens_iss (opensL_one opens_i))))))))
    (fun x => (⟨x.1, x.2.1, x.2.2.1, x.2.2.2.1, x.2.2.2.2.1, x.2.2.2.2.2.1, x.2.2.2.2.2.2⟩ : Pg)) (fun x => rfl) (fun x hx => ?_)
  obtain ⟨h1, h2, h3, h4, h5, h6, h7⟩ := hx
  have h12 := h1.2.1
  rw [b45] at h12
  exact ⟨h12, h1.2.2, h2, h3, h4, h5, h6.1, h6.2, h7⟩
theorem opens_fmR : Opens Try.prog 34 frD (fun f => f.ls.length * 8 ≤ 140737488351232 ∧ I64 f.fn ∧ I64 f.pc) := by
  refine opens_iso (opens_struct (P := Try.prog) (t := 34) Try.underlying34 (by kernel_rfl) (opensL_cons opens_i (opensL_cons opens_i (opensL_one opens_is)))) (fun x => (⟨x.1, x.2.1, x.2.2⟩ : Fm)) (fun x => rfl) (fun x hx => ?_)
  exact ⟨hx.2.2.1, hx.1, hx.2.1⟩
theorem opens_thR : Opens Try.prog 29 thD Th.okR := by
  refine opens_iso (opens_struct (P := Try.prog) (t := 29) Try.underlying29 (by kernel_rfl) (opensL_cons opens_i (opensL_cons opens_i (opensL_cons (opens_slice Try.underlying27 opens_fmR (sz := 3) (by kernel_rfl) (by decide)) (opensL_cons opens_is (opensL_one opens_i)))))) (fun x => (⟨x.1, x.2.1, x.2.2.1, x.2.2.2.1, x.2.2.2.2⟩ : Th)) (fun x => rfl) (fun x hx => ?_)
  have h1 := hx.2.2.1.2.1
  rw [b34] at h1
  exact ⟨⟨h1, hx.2.2.2.1.1, fun f hf => (hx.2.2.1.2.2 f hf).1⟩, fun f hf => (hx.2.2.1.2.2 f hf).2⟩
end Go.Proofs.Ytaplihoeephbeaa.V
