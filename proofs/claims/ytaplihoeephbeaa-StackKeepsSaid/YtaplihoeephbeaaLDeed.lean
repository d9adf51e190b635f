/- The deeds of a law, as data. -/
import Derived.Test.YtaplihoeephbeaaLBase
import Derived.Test.YtaplihoeephbeaaS24
namespace Go.Proofs.Ytaplihoeephbeaa.V
open Go Go.Proofs Go.RowKit Go.ChangeShapes Go.WideShapes Go.ChangeAt
set_option linter.unusedVariables false
set_option maxRecDepth 100000
def Dd.ok (x : Dd) : Prop := I64 x.kd ∧ I64 x.v ∧ I64 x.ix
theorem opens_dd : Opens Try.prog 79 ddD Dd.ok := by
  refine opens_iso (opens_struct (P := Try.prog) (t := 79) Try.underlying79 (by kernel_rfl) (opensL_cons opens_i (opensL_cons opens_i (opensL_one opens_i)))) (fun x => (⟨x.1, x.2.1, x.2.2⟩ : Dd)) (fun x => rfl) (fun x hx => hx)
end Go.Proofs.Ytaplihoeephbeaa.V
