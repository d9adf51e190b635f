/-
  No cell of these rows narrows 'for every input' (looked for: loops, veiled, ifaces, maps, wideKeys, modest, calm, conditions, laid).
  DERIVED. THE GIVEN ROWS OF THIS SEAT. 14 by the template 'for every input the law returns true; each argument reads behind the call as it read before'; 0 by the template 'total and deterministic' (their statements: YtkceciebmkklpaaGreatTotals.lean).
  GIVEN WITH THE SEED: the statements are not yours to turn. If you find one false, say at which input.
  Laid BY PROGRAM, IN A SANDBOX (cutbox-rows.mjs): the forced cells as the released guide's own fill.sh prints them over the translation 4e797c94016dd668… (all of the seat's roots in one cut). By AI agents, Wed Nov 11 2026. No macro, syntax, notation, axiom, sorry.
-/
import Derived.Test.YtkceciebmkklpaaGreatChecked
import GoSem.Claim
import GoSem.ClaimJoined
import GoSem.ClaimMapViews
import Derived.JoinedTies
import Derived.KernelRfl
namespace Go.Proofs.YtkceciebmkklpaaGreat
/- THE CELL 'sum', in the pinned program and in every row, IS THE sha256 OF THE DUMP (.gsa) THAT YtkceciebmkklpaaGreatProg.lean LOADS. Nothing in Lean hashes anything: it is a label: what it is worth is what the hold of that sum in a sandbox is worth. -/
noncomputable def Tryz.pinned : Pinned := { name := "ytkceciebmkklpaagreat", sum := "4e797c94016dd668d749b8dbcd1d1dc8ed0316dc2447ff95254c99e460732c6f", checked := Tryz.checked }
namespace Rows
def none {H : Type} : Left H := { results := [], args := [] }

/-- 'hibernaclelaw11.CoreJoins': WHATEVER THE INPUT: true; the input reads as it did. -/
def coreJoinsSpec : ChangeSpec := { name := "coreJoins", fn := fun _ => fun
  | [d1, d2] => { results := [.lit (.bool true)], args := [d1, d2] }
  | _ => none }
def coreJoinsRow : OpenClaim := { program := "ytkceciebmkklpaagreat", sum := "4e797c94016dd668d749b8dbcd1d1dc8ed0316dc2447ff95254c99e460732c6f", func := "hibernacle/hibernaclelaw11.CoreJoins", spec := "coreJoins", unfollowed := true, recurses := true, apart := false }
def CoreJoinsSaid : Prop := coreJoinsRow.holds Tryz.pinned (OpenSpec.ofChange coreJoinsSpec)

/-- ITS FALSE NEIGHBOUR: 'it returns false'. Refute it at one input. -/
def coreJoinsWrong : ChangeSpec := { name := "coreJoins", fn := fun _ => fun
  | [d1, d2] => { results := [.lit (.bool false)], args := [d1, d2] }
  | _ => none }
def CoreJoinsWrongFalsely : Prop := coreJoinsRow.holds Tryz.pinned (OpenSpec.ofChange coreJoinsWrong)

/-- 'hibernaclelaw11.CoreLocals': WHATEVER THE INPUT: true; the input reads as it did. -/
def coreLocalsSpec : ChangeSpec := { name := "coreLocals", fn := fun _ => fun
  | [d1, d2] => { results := [.lit (.bool true)], args := [d1, d2] }
  | _ => none }
def coreLocalsRow : OpenClaim := { program := "ytkceciebmkklpaagreat", sum := "4e797c94016dd668d749b8dbcd1d1dc8ed0316dc2447ff95254c99e460732c6f", func := "hibernacle/hibernaclelaw11.CoreLocals", spec := "coreLocals", unfollowed := true, recurses := true, apart := false }
def CoreLocalsSaid : Prop := coreLocalsRow.holds Tryz.pinned (OpenSpec.ofChange coreLocalsSpec)

/-- ITS FALSE NEIGHBOUR: 'it returns false'. Refute it at one input. -/
def coreLocalsWrong : ChangeSpec := { name := "coreLocals", fn := fun _ => fun
  | [d1, d2] => { results := [.lit (.bool false)], args := [d1, d2] }
  | _ => none }
def CoreLocalsWrongFalsely : Prop := coreLocalsRow.holds Tryz.pinned (OpenSpec.ofChange coreLocalsWrong)

/-- 'hibernaclelaw11.CoreSame': WHATEVER THE INPUT: true; the input reads as it did. -/
def coreSameSpec : ChangeSpec := { name := "coreSame", fn := fun _ => fun
  | [d1, d2, d3, d4, d5] => { results := [.lit (.bool true)], args := [d1, d2, d3, d4, d5] }
  | _ => none }
def coreSameRow : OpenClaim := { program := "ytkceciebmkklpaagreat", sum := "4e797c94016dd668d749b8dbcd1d1dc8ed0316dc2447ff95254c99e460732c6f", func := "hibernacle/hibernaclelaw11.CoreSame", spec := "coreSame", unfollowed := true, recurses := true, apart := false }
def CoreSameSaid : Prop := coreSameRow.holds Tryz.pinned (OpenSpec.ofChange coreSameSpec)

/-- ITS FALSE NEIGHBOUR: 'it returns false'. Refute it at one input. -/
def coreSameWrong : ChangeSpec := { name := "coreSame", fn := fun _ => fun
  | [d1, d2, d3, d4, d5] => { results := [.lit (.bool false)], args := [d1, d2, d3, d4, d5] }
  | _ => none }
def CoreSameWrongFalsely : Prop := coreSameRow.holds Tryz.pinned (OpenSpec.ofChange coreSameWrong)

/-- 'hibernaclelaw12.FollowRuns': WHATEVER THE INPUT: true; the input reads as it did. -/
def followRunsSpec : ChangeSpec := { name := "followRuns", fn := fun _ => fun
  | [d1, d2, d3, d4] => { results := [.lit (.bool true)], args := [d1, d2, d3, d4] }
  | _ => none }
def followRunsRow : OpenClaim := { program := "ytkceciebmkklpaagreat", sum := "4e797c94016dd668d749b8dbcd1d1dc8ed0316dc2447ff95254c99e460732c6f", func := "hibernacle/hibernaclelaw12.FollowRuns", spec := "followRuns", unfollowed := true, recurses := true, apart := false }
def FollowRunsSaid : Prop := followRunsRow.holds Tryz.pinned (OpenSpec.ofChange followRunsSpec)

/-- ITS FALSE NEIGHBOUR: 'it returns false'. Refute it at one input. -/
def followRunsWrong : ChangeSpec := { name := "followRuns", fn := fun _ => fun
  | [d1, d2, d3, d4] => { results := [.lit (.bool false)], args := [d1, d2, d3, d4] }
  | _ => none }
def FollowRunsWrongFalsely : Prop := followRunsRow.holds Tryz.pinned (OpenSpec.ofChange followRunsWrong)

/-- 'hibernaclelaw12.FollowJoins': WHATEVER THE INPUT: true; the input reads as it did. -/
def followJoinsSpec : ChangeSpec := { name := "followJoins", fn := fun _ => fun
  | [d1, d2, d3] => { results := [.lit (.bool true)], args := [d1, d2, d3] }
  | _ => none }
def followJoinsRow : OpenClaim := { program := "ytkceciebmkklpaagreat", sum := "4e797c94016dd668d749b8dbcd1d1dc8ed0316dc2447ff95254c99e460732c6f", func := "hibernacle/hibernaclelaw12.FollowJoins", spec := "followJoins", unfollowed := true, recurses := true, apart := false }
def FollowJoinsSaid : Prop := followJoinsRow.holds Tryz.pinned (OpenSpec.ofChange followJoinsSpec)

/-- ITS FALSE NEIGHBOUR: 'it returns false'. Refute it at one input. -/
def followJoinsWrong : ChangeSpec := { name := "followJoins", fn := fun _ => fun
  | [d1, d2, d3] => { results := [.lit (.bool false)], args := [d1, d2, d3] }
  | _ => none }
def FollowJoinsWrongFalsely : Prop := followJoinsRow.holds Tryz.pinned (OpenSpec.ofChange followJoinsWrong)

/-- 'hibernaclelaw12.FollowOrder': WHATEVER THE INPUT: true; the input reads as it did. -/
def followOrderSpec : ChangeSpec := { name := "followOrder", fn := fun _ => fun
  | [d1, d2, d3] => { results := [.lit (.bool true)], args := [d1, d2, d3] }
  | _ => none }
def followOrderRow : OpenClaim := { program := "ytkceciebmkklpaagreat", sum := "4e797c94016dd668d749b8dbcd1d1dc8ed0316dc2447ff95254c99e460732c6f", func := "hibernacle/hibernaclelaw12.FollowOrder", spec := "followOrder", unfollowed := true, recurses := true, apart := false }
def FollowOrderSaid : Prop := followOrderRow.holds Tryz.pinned (OpenSpec.ofChange followOrderSpec)

/-- ITS FALSE NEIGHBOUR: 'it returns false'. Refute it at one input. -/
def followOrderWrong : ChangeSpec := { name := "followOrder", fn := fun _ => fun
  | [d1, d2, d3] => { results := [.lit (.bool false)], args := [d1, d2, d3] }
  | _ => none }
def FollowOrderWrongFalsely : Prop := followOrderRow.holds Tryz.pinned (OpenSpec.ofChange followOrderWrong)

/-- 'hibernaclelaw12.FollowMoves': WHATEVER THE INPUT: true; the input reads as it did. -/
def followMovesSpec : ChangeSpec := { name := "followMoves", fn := fun _ => fun
  | [d1, d2] => { results := [.lit (.bool true)], args := [d1, d2] }
  | _ => none }
def followMovesRow : OpenClaim := { program := "ytkceciebmkklpaagreat", sum := "4e797c94016dd668d749b8dbcd1d1dc8ed0316dc2447ff95254c99e460732c6f", func := "hibernacle/hibernaclelaw12.FollowMoves", spec := "followMoves", unfollowed := true, recurses := true, apart := false }
def FollowMovesSaid : Prop := followMovesRow.holds Tryz.pinned (OpenSpec.ofChange followMovesSpec)

/-- ITS FALSE NEIGHBOUR: 'it returns false'. Refute it at one input. -/
def followMovesWrong : ChangeSpec := { name := "followMoves", fn := fun _ => fun
  | [d1, d2] => { results := [.lit (.bool false)], args := [d1, d2] }
  | _ => none }
def FollowMovesWrongFalsely : Prop := followMovesRow.holds Tryz.pinned (OpenSpec.ofChange followMovesWrong)

/-- 'hibernaclelaw12.FollowEnds': WHATEVER THE INPUT: true; the input reads as it did. -/
def followEndsSpec : ChangeSpec := { name := "followEnds", fn := fun _ => fun
  | [d1, d2] => { results := [.lit (.bool true)], args := [d1, d2] }
  | _ => none }
def followEndsRow : OpenClaim := { program := "ytkceciebmkklpaagreat", sum := "4e797c94016dd668d749b8dbcd1d1dc8ed0316dc2447ff95254c99e460732c6f", func := "hibernacle/hibernaclelaw12.FollowEnds", spec := "followEnds", unfollowed := true, recurses := true, apart := false }
def FollowEndsSaid : Prop := followEndsRow.holds Tryz.pinned (OpenSpec.ofChange followEndsSpec)

/-- ITS FALSE NEIGHBOUR: 'it returns false'. Refute it at one input. -/
def followEndsWrong : ChangeSpec := { name := "followEnds", fn := fun _ => fun
  | [d1, d2] => { results := [.lit (.bool false)], args := [d1, d2] }
  | _ => none }
def FollowEndsWrongFalsely : Prop := followEndsRow.holds Tryz.pinned (OpenSpec.ofChange followEndsWrong)

/-- 'hibernaclelaw11.CoreRows': WHATEVER THE INPUT: true; the input reads as it did. -/
def coreRowsSpec : ChangeSpec := { name := "coreRows", fn := fun _ => fun
  | [d1, d2] => { results := [.lit (.bool true)], args := [d1, d2] }
  | _ => none }
def coreRowsRow : OpenClaim := { program := "ytkceciebmkklpaagreat", sum := "4e797c94016dd668d749b8dbcd1d1dc8ed0316dc2447ff95254c99e460732c6f", func := "hibernacle/hibernaclelaw11.CoreRows", spec := "coreRows", unfollowed := true, recurses := true, apart := false }
def CoreRowsSaid : Prop := coreRowsRow.holds Tryz.pinned (OpenSpec.ofChange coreRowsSpec)

/-- ITS FALSE NEIGHBOUR: 'it returns false'. Refute it at one input. -/
def coreRowsWrong : ChangeSpec := { name := "coreRows", fn := fun _ => fun
  | [d1, d2] => { results := [.lit (.bool false)], args := [d1, d2] }
  | _ => none }
def CoreRowsWrongFalsely : Prop := coreRowsRow.holds Tryz.pinned (OpenSpec.ofChange coreRowsWrong)

/-- 'hibernaclelaw11.CoreEnds': WHATEVER THE INPUT: true; the input reads as it did. -/
def coreEndsSpec : ChangeSpec := { name := "coreEnds", fn := fun _ => fun
  | [d1, d2] => { results := [.lit (.bool true)], args := [d1, d2] }
  | _ => none }
def coreEndsRow : OpenClaim := { program := "ytkceciebmkklpaagreat", sum := "4e797c94016dd668d749b8dbcd1d1dc8ed0316dc2447ff95254c99e460732c6f", func := "hibernacle/hibernaclelaw11.CoreEnds", spec := "coreEnds", unfollowed := true, recurses := true, apart := false }
def CoreEndsSaid : Prop := coreEndsRow.holds Tryz.pinned (OpenSpec.ofChange coreEndsSpec)

/-- ITS FALSE NEIGHBOUR: 'it returns false'. Refute it at one input. -/
def coreEndsWrong : ChangeSpec := { name := "coreEnds", fn := fun _ => fun
  | [d1, d2] => { results := [.lit (.bool false)], args := [d1, d2] }
  | _ => none }
def CoreEndsWrongFalsely : Prop := coreEndsRow.holds Tryz.pinned (OpenSpec.ofChange coreEndsWrong)

/-- 'hibernaclelaw11.CoreSteps': WHATEVER THE INPUT: true; the input reads as it did. -/
def coreStepsSpec : ChangeSpec := { name := "coreSteps", fn := fun _ => fun
  | [d1, d2, d3] => { results := [.lit (.bool true)], args := [d1, d2, d3] }
  | _ => none }
def coreStepsRow : OpenClaim := { program := "ytkceciebmkklpaagreat", sum := "4e797c94016dd668d749b8dbcd1d1dc8ed0316dc2447ff95254c99e460732c6f", func := "hibernacle/hibernaclelaw11.CoreSteps", spec := "coreSteps", unfollowed := true, recurses := true, apart := false }
def CoreStepsSaid : Prop := coreStepsRow.holds Tryz.pinned (OpenSpec.ofChange coreStepsSpec)

/-- ITS FALSE NEIGHBOUR: 'it returns false'. Refute it at one input. -/
def coreStepsWrong : ChangeSpec := { name := "coreSteps", fn := fun _ => fun
  | [d1, d2, d3] => { results := [.lit (.bool false)], args := [d1, d2, d3] }
  | _ => none }
def CoreStepsWrongFalsely : Prop := coreStepsRow.holds Tryz.pinned (OpenSpec.ofChange coreStepsWrong)

/-- 'hibernaclelaw12.FollowChecks': WHATEVER THE INPUT: true; the input reads as it did. -/
def followChecksSpec : ChangeSpec := { name := "followChecks", fn := fun _ => fun
  | [d1, d2, d3, d4, d5, d6] => { results := [.lit (.bool true)], args := [d1, d2, d3, d4, d5, d6] }
  | _ => none }
def followChecksRow : OpenClaim := { program := "ytkceciebmkklpaagreat", sum := "4e797c94016dd668d749b8dbcd1d1dc8ed0316dc2447ff95254c99e460732c6f", func := "hibernacle/hibernaclelaw12.FollowChecks", spec := "followChecks", unfollowed := true, recurses := true, apart := false }
def FollowChecksSaid : Prop := followChecksRow.holds Tryz.pinned (OpenSpec.ofChange followChecksSpec)

/-- ITS FALSE NEIGHBOUR: 'it returns false'. Refute it at one input. -/
def followChecksWrong : ChangeSpec := { name := "followChecks", fn := fun _ => fun
  | [d1, d2, d3, d4, d5, d6] => { results := [.lit (.bool false)], args := [d1, d2, d3, d4, d5, d6] }
  | _ => none }
def FollowChecksWrongFalsely : Prop := followChecksRow.holds Tryz.pinned (OpenSpec.ofChange followChecksWrong)

/-- 'hibernaclelaw11.CoreKeeps': WHATEVER THE INPUT: true; the input reads as it did. -/
def coreKeepsSpec : ChangeSpec := { name := "coreKeeps", fn := fun _ => fun
  | [d1, d2, d3, d4, d5] => { results := [.lit (.bool true)], args := [d1, d2, d3, d4, d5] }
  | _ => none }
def coreKeepsRow : OpenClaim := { program := "ytkceciebmkklpaagreat", sum := "4e797c94016dd668d749b8dbcd1d1dc8ed0316dc2447ff95254c99e460732c6f", func := "hibernacle/hibernaclelaw11.CoreKeeps", spec := "coreKeeps", unfollowed := true, recurses := true, apart := false }
def CoreKeepsSaid : Prop := coreKeepsRow.holds Tryz.pinned (OpenSpec.ofChange coreKeepsSpec)

/-- ITS FALSE NEIGHBOUR: 'it returns false'. Refute it at one input. -/
def coreKeepsWrong : ChangeSpec := { name := "coreKeeps", fn := fun _ => fun
  | [d1, d2, d3, d4, d5] => { results := [.lit (.bool false)], args := [d1, d2, d3, d4, d5] }
  | _ => none }
def CoreKeepsWrongFalsely : Prop := coreKeepsRow.holds Tryz.pinned (OpenSpec.ofChange coreKeepsWrong)

/-- 'hibernaclelaw11.CoreTicks': WHATEVER THE INPUT: true; the input reads as it did. -/
def coreTicksSpec : ChangeSpec := { name := "coreTicks", fn := fun _ => fun
  | [d1, d2, d3] => { results := [.lit (.bool true)], args := [d1, d2, d3] }
  | _ => none }
def coreTicksRow : OpenClaim := { program := "ytkceciebmkklpaagreat", sum := "4e797c94016dd668d749b8dbcd1d1dc8ed0316dc2447ff95254c99e460732c6f", func := "hibernacle/hibernaclelaw11.CoreTicks", spec := "coreTicks", unfollowed := true, recurses := true, apart := false }
def CoreTicksSaid : Prop := coreTicksRow.holds Tryz.pinned (OpenSpec.ofChange coreTicksSpec)

/-- ITS FALSE NEIGHBOUR: 'it returns false'. Refute it at one input. -/
def coreTicksWrong : ChangeSpec := { name := "coreTicks", fn := fun _ => fun
  | [d1, d2, d3] => { results := [.lit (.bool false)], args := [d1, d2, d3] }
  | _ => none }
def CoreTicksWrongFalsely : Prop := coreTicksRow.holds Tryz.pinned (OpenSpec.ofChange coreTicksWrong)

/- THE SECOND FORM. 'bulk': how many values and letters a reading holds, each counted each time it is reached (what is shared counts as often as it is met; a slice's spare places count too). A statement '..UptoSaid' is the law's where the arguments, and the package variables that the reading takes, are together of bulk at most 1048576: NARROWER than '..Said'. Prove '..Said' where nothing that the law and all that it calls make is longer than what came in: it says more and counts as full. Else prove '..UptoSaid'. A law counts once. -/
mutual
def uptoBulk {H : Type} : DataW H → Nat
  | .lit (.string bytes) => bytes.length + 1
  | .lit _ => 1
  | .nil => 1
  | .ptr d => uptoBulk d + 1
  | .slice elems spare => uptoBulkAll elems + uptoBulkAll spare + 1
  | .agg parts => uptoBulkAll parts + 1
  | .iface _ d => uptoBulk d + 1
  | .map entries => uptoBulkEntries entries + 1
  | .held _ => 1
def uptoBulkAll {H : Type} : List (DataW H) → Nat
  | [] => 0
  | d :: r => uptoBulk d + uptoBulkAll r
def uptoBulkEntries {H : Type} : List (Lit × DataW H) → Nat
  | [] => 0
  | x :: r => uptoBulkEntry x + uptoBulkEntries r
def uptoBulkEntry {H : Type} : Lit × DataW H → Nat
  | (.string bytes, d) => bytes.length + uptoBulk d + 1
  | (_, d) => uptoBulk d + 1
 end
def uptoSmall : (H : Type) → List (DataW H) → Bool := fun _ ds => decide (uptoBulkAll ds ≤ 1048576)
def OpenSpec.upto (s : _root_.Go.ChangeSpec) : _root_.Go.OpenSpec := { _root_.Go.OpenSpec.ofChange s with cond := some uptoSmall }

/-- 'hibernaclelaw11.CoreJoins', WHERE WHAT IT READS IS OF BULK AT MOST 1048576: true; the input reads as it did. -/
def coreJoinsUptoRow : OpenClaim := { program := "ytkceciebmkklpaagreat", sum := "4e797c94016dd668d749b8dbcd1d1dc8ed0316dc2447ff95254c99e460732c6f", func := "hibernacle/hibernaclelaw11.CoreJoins", spec := "coreJoins", unfollowed := true, recurses := true, apart := false, narrowed := true }
def CoreJoinsUptoSaid : Prop := coreJoinsUptoRow.holds Tryz.pinned (OpenSpec.upto coreJoinsSpec)

/-- 'hibernaclelaw11.CoreLocals', WHERE WHAT IT READS IS OF BULK AT MOST 1048576: true; the input reads as it did. -/
def coreLocalsUptoRow : OpenClaim := { program := "ytkceciebmkklpaagreat", sum := "4e797c94016dd668d749b8dbcd1d1dc8ed0316dc2447ff95254c99e460732c6f", func := "hibernacle/hibernaclelaw11.CoreLocals", spec := "coreLocals", unfollowed := true, recurses := true, apart := false, narrowed := true }
def CoreLocalsUptoSaid : Prop := coreLocalsUptoRow.holds Tryz.pinned (OpenSpec.upto coreLocalsSpec)

/-- 'hibernaclelaw11.CoreSame', WHERE WHAT IT READS IS OF BULK AT MOST 1048576: true; the input reads as it did. -/
def coreSameUptoRow : OpenClaim := { program := "ytkceciebmkklpaagreat", sum := "4e797c94016dd668d749b8dbcd1d1dc8ed0316dc2447ff95254c99e460732c6f", func := "hibernacle/hibernaclelaw11.CoreSame", spec := "coreSame", unfollowed := true, recurses := true, apart := false, narrowed := true }
def CoreSameUptoSaid : Prop := coreSameUptoRow.holds Tryz.pinned (OpenSpec.upto coreSameSpec)

/-- 'hibernaclelaw12.FollowRuns', WHERE WHAT IT READS IS OF BULK AT MOST 1048576: true; the input reads as it did. -/
def followRunsUptoRow : OpenClaim := { program := "ytkceciebmkklpaagreat", sum := "4e797c94016dd668d749b8dbcd1d1dc8ed0316dc2447ff95254c99e460732c6f", func := "hibernacle/hibernaclelaw12.FollowRuns", spec := "followRuns", unfollowed := true, recurses := true, apart := false, narrowed := true }
def FollowRunsUptoSaid : Prop := followRunsUptoRow.holds Tryz.pinned (OpenSpec.upto followRunsSpec)

/-- 'hibernaclelaw12.FollowJoins', WHERE WHAT IT READS IS OF BULK AT MOST 1048576: true; the input reads as it did. -/
def followJoinsUptoRow : OpenClaim := { program := "ytkceciebmkklpaagreat", sum := "4e797c94016dd668d749b8dbcd1d1dc8ed0316dc2447ff95254c99e460732c6f", func := "hibernacle/hibernaclelaw12.FollowJoins", spec := "followJoins", unfollowed := true, recurses := true, apart := false, narrowed := true }
def FollowJoinsUptoSaid : Prop := followJoinsUptoRow.holds Tryz.pinned (OpenSpec.upto followJoinsSpec)

/-- 'hibernaclelaw12.FollowOrder', WHERE WHAT IT READS IS OF BULK AT MOST 1048576: true; the input reads as it did. -/
def followOrderUptoRow : OpenClaim := { program := "ytkceciebmkklpaagreat", sum := "4e797c94016dd668d749b8dbcd1d1dc8ed0316dc2447ff95254c99e460732c6f", func := "hibernacle/hibernaclelaw12.FollowOrder", spec := "followOrder", unfollowed := true, recurses := true, apart := false, narrowed := true }
def FollowOrderUptoSaid : Prop := followOrderUptoRow.holds Tryz.pinned (OpenSpec.upto followOrderSpec)

/-- 'hibernaclelaw12.FollowMoves', WHERE WHAT IT READS IS OF BULK AT MOST 1048576: true; the input reads as it did. -/
def followMovesUptoRow : OpenClaim := { program := "ytkceciebmkklpaagreat", sum := "4e797c94016dd668d749b8dbcd1d1dc8ed0316dc2447ff95254c99e460732c6f", func := "hibernacle/hibernaclelaw12.FollowMoves", spec := "followMoves", unfollowed := true, recurses := true, apart := false, narrowed := true }
def FollowMovesUptoSaid : Prop := followMovesUptoRow.holds Tryz.pinned (OpenSpec.upto followMovesSpec)

/-- 'hibernaclelaw12.FollowEnds', WHERE WHAT IT READS IS OF BULK AT MOST 1048576: true; the input reads as it did. -/
def followEndsUptoRow : OpenClaim := { program := "ytkceciebmkklpaagreat", sum := "4e797c94016dd668d749b8dbcd1d1dc8ed0316dc2447ff95254c99e460732c6f", func := "hibernacle/hibernaclelaw12.FollowEnds", spec := "followEnds", unfollowed := true, recurses := true, apart := false, narrowed := true }
def FollowEndsUptoSaid : Prop := followEndsUptoRow.holds Tryz.pinned (OpenSpec.upto followEndsSpec)

/-- 'hibernaclelaw11.CoreRows', WHERE WHAT IT READS IS OF BULK AT MOST 1048576: true; the input reads as it did. -/
def coreRowsUptoRow : OpenClaim := { program := "ytkceciebmkklpaagreat", sum := "4e797c94016dd668d749b8dbcd1d1dc8ed0316dc2447ff95254c99e460732c6f", func := "hibernacle/hibernaclelaw11.CoreRows", spec := "coreRows", unfollowed := true, recurses := true, apart := false, narrowed := true }
def CoreRowsUptoSaid : Prop := coreRowsUptoRow.holds Tryz.pinned (OpenSpec.upto coreRowsSpec)

/-- 'hibernaclelaw11.CoreEnds', WHERE WHAT IT READS IS OF BULK AT MOST 1048576: true; the input reads as it did. -/
def coreEndsUptoRow : OpenClaim := { program := "ytkceciebmkklpaagreat", sum := "4e797c94016dd668d749b8dbcd1d1dc8ed0316dc2447ff95254c99e460732c6f", func := "hibernacle/hibernaclelaw11.CoreEnds", spec := "coreEnds", unfollowed := true, recurses := true, apart := false, narrowed := true }
def CoreEndsUptoSaid : Prop := coreEndsUptoRow.holds Tryz.pinned (OpenSpec.upto coreEndsSpec)

/-- 'hibernaclelaw11.CoreSteps', WHERE WHAT IT READS IS OF BULK AT MOST 1048576: true; the input reads as it did. -/
def coreStepsUptoRow : OpenClaim := { program := "ytkceciebmkklpaagreat", sum := "4e797c94016dd668d749b8dbcd1d1dc8ed0316dc2447ff95254c99e460732c6f", func := "hibernacle/hibernaclelaw11.CoreSteps", spec := "coreSteps", unfollowed := true, recurses := true, apart := false, narrowed := true }
def CoreStepsUptoSaid : Prop := coreStepsUptoRow.holds Tryz.pinned (OpenSpec.upto coreStepsSpec)

/-- 'hibernaclelaw12.FollowChecks', WHERE WHAT IT READS IS OF BULK AT MOST 1048576: true; the input reads as it did. -/
def followChecksUptoRow : OpenClaim := { program := "ytkceciebmkklpaagreat", sum := "4e797c94016dd668d749b8dbcd1d1dc8ed0316dc2447ff95254c99e460732c6f", func := "hibernacle/hibernaclelaw12.FollowChecks", spec := "followChecks", unfollowed := true, recurses := true, apart := false, narrowed := true }
def FollowChecksUptoSaid : Prop := followChecksUptoRow.holds Tryz.pinned (OpenSpec.upto followChecksSpec)

/-- 'hibernaclelaw11.CoreKeeps', WHERE WHAT IT READS IS OF BULK AT MOST 1048576: true; the input reads as it did. -/
def coreKeepsUptoRow : OpenClaim := { program := "ytkceciebmkklpaagreat", sum := "4e797c94016dd668d749b8dbcd1d1dc8ed0316dc2447ff95254c99e460732c6f", func := "hibernacle/hibernaclelaw11.CoreKeeps", spec := "coreKeeps", unfollowed := true, recurses := true, apart := false, narrowed := true }
def CoreKeepsUptoSaid : Prop := coreKeepsUptoRow.holds Tryz.pinned (OpenSpec.upto coreKeepsSpec)

/-- 'hibernaclelaw11.CoreTicks', WHERE WHAT IT READS IS OF BULK AT MOST 1048576: true; the input reads as it did. -/
def coreTicksUptoRow : OpenClaim := { program := "ytkceciebmkklpaagreat", sum := "4e797c94016dd668d749b8dbcd1d1dc8ed0316dc2447ff95254c99e460732c6f", func := "hibernacle/hibernaclelaw11.CoreTicks", spec := "coreTicks", unfollowed := true, recurses := true, apart := false, narrowed := true }
def CoreTicksUptoSaid : Prop := coreTicksUptoRow.holds Tryz.pinned (OpenSpec.upto coreTicksSpec)

end Rows
end Go.Proofs.YtkceciebmkklpaaGreat
