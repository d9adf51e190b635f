/- The parameters of laws, as data: rows of pairs. -/
import Derived.Test.YtaplihoeephbeaaLBase
import Derived.Test.YtaplihoeephbeaaR15
namespace Go.Proofs.Ytaplihoeephbeaa.V
open Go Go.Proofs Go.RowKit Go.ChangeShapes Go.WideShapes Go.ChangeAt
set_option linter.unusedVariables false
set_option maxRecDepth 100000
theorem b87 : Try.prog.bytesOf 87 = 16 := by kernel_rfl
theorem opens_in87 : Opens Try.prog 87 inD (fun x => I64 x.1 ∧ I64 x.2) := by
  refine opens_iso (opens_struct (P := Try.prog) (t := 87) Try.underlying87 (by kernel_rfl) (opensL_cons opens_i (opensL_one opens_i))) (fun x => (x.1, x.2)) (fun x => rfl) (fun x hx => hx)
theorem opens_prs : Opens Try.prog 83 pairs prok := by
  refine opens_iso (opens_slice Try.underlying83 opens_in87 (sz := 2) (by kernel_rfl) (by decide)) (fun x => x) (fun x => rfl) (fun x hx => ?_)
  have h1 := hx.2.1
  rw [b87] at h1
  exact ⟨h1, hx.2.2⟩
end Go.Proofs.Ytaplihoeephbeaa.V
