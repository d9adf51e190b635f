/- The parameters of laws, as data: rows of yes and no. -/
import Derived.Test.YtaplihoeephbeaaLBase
import Derived.Test.YtaplihoeephbeaaK10
set_option linter.unusedVariables false
set_option linter.unusedSimpArgs false
namespace Go.Proofs.Ytaplihoeephbeaa.V
open Go Go.Proofs Go.RowKit Go.ChangeShapes Go.WideShapes Go.ChangeAt
set_option maxRecDepth 100000
theorem b4 : Try.prog.bytesOf 4 = 1 := by kernel_rfl
theorem opens_bs : Opens Try.prog 99 bools bok := by
  refine opens_iso (opens_slice Try.underlying99 (opens_bool Try.underlying4) (sz := 1) (by kernel_rfl) (by decide)) (fun x => x) (fun x => rfl) (fun x hx => ?_)
  have h1 := hx.2.1
  rw [b4] at h1
  show x.length ≤ 140737488351232
  omega
end Go.Proofs.Ytaplihoeephbeaa.V
