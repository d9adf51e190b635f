/- The facts of the row of CoreEnds about the program, limb by limb, hold. -/
import Derived.Test.YtkceciebmkklpaaGreatRows
import Derived.WalkKit
import Derived.ProofKit
import Derived.OpenShut
import Derived.ShutString
import Derived.ChangeOld
import Derived.Below
import Derived.SizedLaws
set_option linter.unusedVariables false
set_option linter.unusedSimpArgs false
namespace Go.Proofs.YtkceciebmkklpaaGreat.V
open Go Go.Proofs Go.RowKit Go.Proofs.YtkceciebmkklpaaGreat
set_option maxRecDepth 100000
theorem toL {s:String} {l:List Char} (h:s = String.ofList l):s.toList = l:=by rw [h]; exact String.toList_ofList
theorem head_cut:(behindMainWord (wordsSigns Tryz.prog.initOrder.toList)).head? = some "cut".toList:=by
 have h:Tryz.prog.initOrder.toList = _:=toL rfl
 rw [h]
 show _ = _
 kernel_rfl
theorem words_cut:∃ rest,behindMainWord (wordsSigns Tryz.prog.initOrder.toList) = "cut".toList :: rest:=by
 have h:=head_cut
 generalize behindMainWord (wordsSigns Tryz.prog.initOrder.toList) = ws at h ⊢
 cases ws with
 | nil=>cases h
 | cons c r=>exact ⟨r,by rw [List.head?_cons] at h; injection h with h; rw [h]⟩
theorem strip_cut (rest:List (List Char)):stripLifts liftWords ("cut".toList :: rest) = ([], "cut".toList :: rest):=by rfl
theorem lifts_none:Tryz.prog.headLifts = []:=by
 obtain ⟨rest,h⟩:=words_cut
 unfold Program.headLifts
 rw [h,strip_cut]
 rfl
theorem make_gen {P:Program} {x:List Char} {rest:List (List Char)} (h:behindMainWord (wordsSigns P.initOrder.toList) = x :: rest) (h1:(x == "gc".toList || x == "spec".toList) = false) (h2:(x == "cut".toList) = true):P.make = some .cut:=by
 unfold Program.make
 rw [h]
 generalize "gc".toList = a at *
 generalize "spec".toList = b at *
 generalize "cut".toList = c at *
 generalize "finals".toList = d at *
 generalize "carried".toList = e at *
 dsimp only
 rw [h1,h2]
 rfl
theorem make_cut:Tryz.prog.make = some .cut:=by
 obtain ⟨rest,h⟩:=words_cut
 exact make_gen h (by kernel_rfl) (by kernel_rfl)
theorem lifts_final:Tryz.prog.liftsFinal = false:=by
 obtain ⟨rest,h⟩:=words_cut
 unfold Program.liftsFinal
 rw [h,lifts_none]
 rfl
theorem may_gen {P:Program} {x:List Char} {rest:List (List Char)} (h:behindMainWord (wordsSigns P.initOrder.toList) = x :: rest) (hs:stripLifts liftWords (x :: rest) = ([],x :: rest)) (h1:P.laysLater = false) (h2:P.bearsReflect = false) (h4:P.doorFits [] = true) (h5:(some x == some "cut".toList) = true):P.mayEnter = true:=by
 unfold Program.mayEnter
 rw [h]
 generalize "gc".toList = a at *
 generalize "spec".toList = b at *
 generalize "cut".toList = c at *
 generalize "stop".toList = d at *
 generalize "carried".toList = e at *
 simp only [hs,h1,h2,h4,List.head?_cons,h5]
 simp
theorem may_enter:Tryz.prog.mayEnter = true:=by
 obtain ⟨rest,h⟩:=words_cut
 have h3:Tryz.prog.doorRows = []:=by kernel_rfl
 have h4:Tryz.prog.doorFits [] = true:=by
  unfold Program.doorFits
  rw [h3]
  show _ = _
  kernel_rfl
 exact may_gen h (strip_cut rest) (by kernel_rfl) (by kernel_rfl) h4 (by kernel_rfl)
theorem joined12:joinedFacts Tryz.prog 12 Tryz.f12 Rows.coreEndsSpec Rows.coreEndsRow = true:=by
 unfold joinedFacts
 rw [may_enter,lifts_final,make_cut]
 kernel_rfl
end Go.Proofs.YtkceciebmkklpaaGreat.V
