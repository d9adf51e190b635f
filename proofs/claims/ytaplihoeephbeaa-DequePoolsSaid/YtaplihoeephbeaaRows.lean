/-
  No cell of these rows narrows 'for every input' (looked for: loops, veiled, ifaces, maps, wideKeys, modest, calm, conditions, laid).
  DERIVED. THE GIVEN ROWS OF THIS SEAT. 26 by the template 'for every input the law returns true; each argument reads behind the call as it read before'; 0 by the template 'total and deterministic' (their statements: YtaplihoeephbeaaTotals.lean).
  GIVEN WITH THE SEED: the statements are not yours to turn. If you find one false, say at which input.
  Laid BY PROGRAM, IN A SANDBOX (cutbox-rows.mjs): the forced cells as the released guide's own fill.sh prints them over the translation a2a71d2b1d149357… (all of the seat's roots in one cut). By AI agents, Wed Nov 11 2026. No macro, syntax, notation, axiom, sorry.
-/
import Derived.Test.YtaplihoeephbeaaChecked
import GoSem.Claim
import GoSem.ClaimJoined
import GoSem.ClaimMapViews
import Derived.JoinedTies
import Derived.KernelRfl
namespace Go.Proofs.Ytaplihoeephbeaa
/- THE CELL 'sum', in the pinned program and in every row, IS THE sha256 OF THE DUMP (.gsa) THAT YtaplihoeephbeaaProg.lean LOADS. Nothing in Lean hashes anything: it is a label: what it is worth is what the hold of that sum in a sandbox is worth. -/
noncomputable def Try.pinned : Pinned := { name := "ytaplihoeephbeaa", sum := "a2a71d2b1d149357c491390ecc2147ed976d527e4f43e7954071db83687d932a", checked := Try.checked }
namespace Rows
def none {H : Type} : Left H := { results := [], args := [] }

/-- 'hibernaclelaw04.StackMay': WHATEVER THE INPUT: true; the input reads as it did. -/
def stackMaySpec : ChangeSpec := { name := "stackMay", fn := fun _ => fun
  | [d1, d2, d3, d4] => { results := [.lit (.bool true)], args := [d1, d2, d3, d4] }
  | _ => none }
def stackMayRow : OpenClaim := { program := "ytaplihoeephbeaa", sum := "a2a71d2b1d149357c491390ecc2147ed976d527e4f43e7954071db83687d932a", func := "hibernacle/hibernaclelaw04.StackMay", spec := "stackMay", unfollowed := true, recurses := true, apart := false }
def StackMaySaid : Prop := stackMayRow.holds Try.pinned (OpenSpec.ofChange stackMaySpec)

/-- ITS FALSE NEIGHBOUR: 'it returns false'. Refute it at one input. -/
def stackMayWrong : ChangeSpec := { name := "stackMay", fn := fun _ => fun
  | [d1, d2, d3, d4] => { results := [.lit (.bool false)], args := [d1, d2, d3, d4] }
  | _ => none }
def StackMayWrongFalsely : Prop := stackMayRow.holds Try.pinned (OpenSpec.ofChange stackMayWrong)

/-- 'hibernaclelaw04.StackDeep': WHATEVER THE INPUT: true; the input reads as it did. -/
def stackDeepSpec : ChangeSpec := { name := "stackDeep", fn := fun _ => fun
  | [d1, d2, d3] => { results := [.lit (.bool true)], args := [d1, d2, d3] }
  | _ => none }
def stackDeepRow : OpenClaim := { program := "ytaplihoeephbeaa", sum := "a2a71d2b1d149357c491390ecc2147ed976d527e4f43e7954071db83687d932a", func := "hibernacle/hibernaclelaw04.StackDeep", spec := "stackDeep", unfollowed := true, recurses := true, apart := false }
def StackDeepSaid : Prop := stackDeepRow.holds Try.pinned (OpenSpec.ofChange stackDeepSpec)

/-- ITS FALSE NEIGHBOUR: 'it returns false'. Refute it at one input. -/
def stackDeepWrong : ChangeSpec := { name := "stackDeep", fn := fun _ => fun
  | [d1, d2, d3] => { results := [.lit (.bool false)], args := [d1, d2, d3] }
  | _ => none }
def StackDeepWrongFalsely : Prop := stackDeepRow.holds Try.pinned (OpenSpec.ofChange stackDeepWrong)

/-- 'hibernaclelaw06.RingTypes': WHATEVER THE INPUT: true; the input reads as it did. -/
def ringTypesSpec : ChangeSpec := { name := "ringTypes", fn := fun _ => fun
  | [d1, d2] => { results := [.lit (.bool true)], args := [d1, d2] }
  | _ => none }
def ringTypesRow : OpenClaim := { program := "ytaplihoeephbeaa", sum := "a2a71d2b1d149357c491390ecc2147ed976d527e4f43e7954071db83687d932a", func := "hibernacle/hibernaclelaw06.RingTypes", spec := "ringTypes", unfollowed := true, recurses := true, apart := false }
def RingTypesSaid : Prop := ringTypesRow.holds Try.pinned (OpenSpec.ofChange ringTypesSpec)

/-- ITS FALSE NEIGHBOUR: 'it returns false'. Refute it at one input. -/
def ringTypesWrong : ChangeSpec := { name := "ringTypes", fn := fun _ => fun
  | [d1, d2] => { results := [.lit (.bool false)], args := [d1, d2] }
  | _ => none }
def RingTypesWrongFalsely : Prop := ringTypesRow.holds Try.pinned (OpenSpec.ofChange ringTypesWrong)

/-- 'hibernaclelaw06.RingRow': WHATEVER THE INPUT: true; the input reads as it did. -/
def ringRowSpec : ChangeSpec := { name := "ringRow", fn := fun _ => fun
  | [d1, d2, d3] => { results := [.lit (.bool true)], args := [d1, d2, d3] }
  | _ => none }
def ringRowRow : OpenClaim := { program := "ytaplihoeephbeaa", sum := "a2a71d2b1d149357c491390ecc2147ed976d527e4f43e7954071db83687d932a", func := "hibernacle/hibernaclelaw06.RingRow", spec := "ringRow", unfollowed := true, recurses := true, apart := false }
def RingRowSaid : Prop := ringRowRow.holds Try.pinned (OpenSpec.ofChange ringRowSpec)

/-- ITS FALSE NEIGHBOUR: 'it returns false'. Refute it at one input. -/
def ringRowWrong : ChangeSpec := { name := "ringRow", fn := fun _ => fun
  | [d1, d2, d3] => { results := [.lit (.bool false)], args := [d1, d2, d3] }
  | _ => none }
def RingRowWrongFalsely : Prop := ringRowRow.holds Try.pinned (OpenSpec.ofChange ringRowWrong)

/-- 'hibernaclelaw04.StackRound': WHATEVER THE INPUT: true; the input reads as it did. -/
def stackRoundSpec : ChangeSpec := { name := "stackRound", fn := fun _ => fun
  | [d1, d2, d3] => { results := [.lit (.bool true)], args := [d1, d2, d3] }
  | _ => none }
def stackRoundRow : OpenClaim := { program := "ytaplihoeephbeaa", sum := "a2a71d2b1d149357c491390ecc2147ed976d527e4f43e7954071db83687d932a", func := "hibernacle/hibernaclelaw04.StackRound", spec := "stackRound", unfollowed := true, recurses := true, apart := false }
def StackRoundSaid : Prop := stackRoundRow.holds Try.pinned (OpenSpec.ofChange stackRoundSpec)

/-- ITS FALSE NEIGHBOUR: 'it returns false'. Refute it at one input. -/
def stackRoundWrong : ChangeSpec := { name := "stackRound", fn := fun _ => fun
  | [d1, d2, d3] => { results := [.lit (.bool false)], args := [d1, d2, d3] }
  | _ => none }
def StackRoundWrongFalsely : Prop := stackRoundRow.holds Try.pinned (OpenSpec.ofChange stackRoundWrong)

/-- 'hibernaclelaw06.RingMoves': WHATEVER THE INPUT: true; the input reads as it did. -/
def ringMovesSpec : ChangeSpec := { name := "ringMoves", fn := fun _ => fun
  | [d1, d2, d3, d4] => { results := [.lit (.bool true)], args := [d1, d2, d3, d4] }
  | _ => none }
def ringMovesRow : OpenClaim := { program := "ytaplihoeephbeaa", sum := "a2a71d2b1d149357c491390ecc2147ed976d527e4f43e7954071db83687d932a", func := "hibernacle/hibernaclelaw06.RingMoves", spec := "ringMoves", unfollowed := true, recurses := true, apart := false }
def RingMovesSaid : Prop := ringMovesRow.holds Try.pinned (OpenSpec.ofChange ringMovesSpec)

/-- ITS FALSE NEIGHBOUR: 'it returns false'. Refute it at one input. -/
def ringMovesWrong : ChangeSpec := { name := "ringMoves", fn := fun _ => fun
  | [d1, d2, d3, d4] => { results := [.lit (.bool false)], args := [d1, d2, d3, d4] }
  | _ => none }
def RingMovesWrongFalsely : Prop := ringMovesRow.holds Try.pinned (OpenSpec.ofChange ringMovesWrong)

/-- 'hibernaclelaw04.StackSame': WHATEVER THE INPUT: true; the input reads as it did. -/
def stackSameSpec : ChangeSpec := { name := "stackSame", fn := fun _ => fun
  | [d1, d2, d3] => { results := [.lit (.bool true)], args := [d1, d2, d3] }
  | _ => none }
def stackSameRow : OpenClaim := { program := "ytaplihoeephbeaa", sum := "a2a71d2b1d149357c491390ecc2147ed976d527e4f43e7954071db83687d932a", func := "hibernacle/hibernaclelaw04.StackSame", spec := "stackSame", unfollowed := true, recurses := true, apart := false }
def StackSameSaid : Prop := stackSameRow.holds Try.pinned (OpenSpec.ofChange stackSameSpec)

/-- ITS FALSE NEIGHBOUR: 'it returns false'. Refute it at one input. -/
def stackSameWrong : ChangeSpec := { name := "stackSame", fn := fun _ => fun
  | [d1, d2, d3] => { results := [.lit (.bool false)], args := [d1, d2, d3] }
  | _ => none }
def StackSameWrongFalsely : Prop := stackSameRow.holds Try.pinned (OpenSpec.ofChange stackSameWrong)

/-- 'hibernaclelaw04.StackKeeps': WHATEVER THE INPUT: true; the input reads as it did. -/
def stackKeepsSpec : ChangeSpec := { name := "stackKeeps", fn := fun _ => fun
  | [d1, d2, d3, d4] => { results := [.lit (.bool true)], args := [d1, d2, d3, d4] }
  | _ => none }
def stackKeepsRow : OpenClaim := { program := "ytaplihoeephbeaa", sum := "a2a71d2b1d149357c491390ecc2147ed976d527e4f43e7954071db83687d932a", func := "hibernacle/hibernaclelaw04.StackKeeps", spec := "stackKeeps", unfollowed := true, recurses := true, apart := false }
def StackKeepsSaid : Prop := stackKeepsRow.holds Try.pinned (OpenSpec.ofChange stackKeepsSpec)

/-- ITS FALSE NEIGHBOUR: 'it returns false'. Refute it at one input. -/
def stackKeepsWrong : ChangeSpec := { name := "stackKeeps", fn := fun _ => fun
  | [d1, d2, d3, d4] => { results := [.lit (.bool false)], args := [d1, d2, d3, d4] }
  | _ => none }
def StackKeepsWrongFalsely : Prop := stackKeepsRow.holds Try.pinned (OpenSpec.ofChange stackKeepsWrong)

/-- 'hibernaclelaw06.RingPlays': WHATEVER THE INPUT: true; the input reads as it did. -/
def ringPlaysSpec : ChangeSpec := { name := "ringPlays", fn := fun _ => fun
  | [d1, d2, d3] => { results := [.lit (.bool true)], args := [d1, d2, d3] }
  | _ => none }
def ringPlaysRow : OpenClaim := { program := "ytaplihoeephbeaa", sum := "a2a71d2b1d149357c491390ecc2147ed976d527e4f43e7954071db83687d932a", func := "hibernacle/hibernaclelaw06.RingPlays", spec := "ringPlays", unfollowed := true, recurses := true, apart := false }
def RingPlaysSaid : Prop := ringPlaysRow.holds Try.pinned (OpenSpec.ofChange ringPlaysSpec)

/-- ITS FALSE NEIGHBOUR: 'it returns false'. Refute it at one input. -/
def ringPlaysWrong : ChangeSpec := { name := "ringPlays", fn := fun _ => fun
  | [d1, d2, d3] => { results := [.lit (.bool false)], args := [d1, d2, d3] }
  | _ => none }
def RingPlaysWrongFalsely : Prop := ringPlaysRow.holds Try.pinned (OpenSpec.ofChange ringPlaysWrong)

/-- 'hibernaclelaw06.RingCuts': WHATEVER THE INPUT: true; the input reads as it did. -/
def ringCutsSpec : ChangeSpec := { name := "ringCuts", fn := fun _ => fun
  | [d1, d2, d3] => { results := [.lit (.bool true)], args := [d1, d2, d3] }
  | _ => none }
def ringCutsRow : OpenClaim := { program := "ytaplihoeephbeaa", sum := "a2a71d2b1d149357c491390ecc2147ed976d527e4f43e7954071db83687d932a", func := "hibernacle/hibernaclelaw06.RingCuts", spec := "ringCuts", unfollowed := true, recurses := true, apart := false }
def RingCutsSaid : Prop := ringCutsRow.holds Try.pinned (OpenSpec.ofChange ringCutsSpec)

/-- ITS FALSE NEIGHBOUR: 'it returns false'. Refute it at one input. -/
def ringCutsWrong : ChangeSpec := { name := "ringCuts", fn := fun _ => fun
  | [d1, d2, d3] => { results := [.lit (.bool false)], args := [d1, d2, d3] }
  | _ => none }
def RingCutsWrongFalsely : Prop := ringCutsRow.holds Try.pinned (OpenSpec.ofChange ringCutsWrong)

/-- 'hibernaclelaw09.LocksRows': WHATEVER THE INPUT: true; the input reads as it did. -/
def locksRowsSpec : ChangeSpec := { name := "locksRows", fn := fun _ => fun
  | [d] => { results := [.lit (.bool true)], args := [d] }
  | _ => none }
def locksRowsRow : OpenClaim := { program := "ytaplihoeephbeaa", sum := "a2a71d2b1d149357c491390ecc2147ed976d527e4f43e7954071db83687d932a", func := "hibernacle/hibernaclelaw09.LocksRows", spec := "locksRows", unfollowed := true, recurses := true, apart := false }
def LocksRowsSaid : Prop := locksRowsRow.holds Try.pinned (OpenSpec.ofChange locksRowsSpec)

/-- ITS FALSE NEIGHBOUR: 'it returns false'. Refute it at one input. -/
def locksRowsWrong : ChangeSpec := { name := "locksRows", fn := fun _ => fun
  | [d] => { results := [.lit (.bool false)], args := [d] }
  | _ => none }
def LocksRowsWrongFalsely : Prop := locksRowsRow.holds Try.pinned (OpenSpec.ofChange locksRowsWrong)

/-- 'hibernaclelaw09.LocksCounts': WHATEVER THE INPUT: true; the input reads as it did. -/
def locksCountsSpec : ChangeSpec := { name := "locksCounts", fn := fun _ => fun
  | [d1, d2] => { results := [.lit (.bool true)], args := [d1, d2] }
  | _ => none }
def locksCountsRow : OpenClaim := { program := "ytaplihoeephbeaa", sum := "a2a71d2b1d149357c491390ecc2147ed976d527e4f43e7954071db83687d932a", func := "hibernacle/hibernaclelaw09.LocksCounts", spec := "locksCounts", unfollowed := true, recurses := true, apart := false }
def LocksCountsSaid : Prop := locksCountsRow.holds Try.pinned (OpenSpec.ofChange locksCountsSpec)

/-- ITS FALSE NEIGHBOUR: 'it returns false'. Refute it at one input. -/
def locksCountsWrong : ChangeSpec := { name := "locksCounts", fn := fun _ => fun
  | [d1, d2] => { results := [.lit (.bool false)], args := [d1, d2] }
  | _ => none }
def LocksCountsWrongFalsely : Prop := locksCountsRow.holds Try.pinned (OpenSpec.ofChange locksCountsWrong)

/-- 'hibernaclelaw07.DequeEnds': WHATEVER THE INPUT: true; the input reads as it did. -/
def dequeEndsSpec : ChangeSpec := { name := "dequeEnds", fn := fun _ => fun
  | [d1, d2, d3] => { results := [.lit (.bool true)], args := [d1, d2, d3] }
  | _ => none }
def dequeEndsRow : OpenClaim := { program := "ytaplihoeephbeaa", sum := "a2a71d2b1d149357c491390ecc2147ed976d527e4f43e7954071db83687d932a", func := "hibernacle/hibernaclelaw07.DequeEnds", spec := "dequeEnds", unfollowed := true, recurses := true, apart := false }
def DequeEndsSaid : Prop := dequeEndsRow.holds Try.pinned (OpenSpec.ofChange dequeEndsSpec)

/-- ITS FALSE NEIGHBOUR: 'it returns false'. Refute it at one input. -/
def dequeEndsWrong : ChangeSpec := { name := "dequeEnds", fn := fun _ => fun
  | [d1, d2, d3] => { results := [.lit (.bool false)], args := [d1, d2, d3] }
  | _ => none }
def DequeEndsWrongFalsely : Prop := dequeEndsRow.holds Try.pinned (OpenSpec.ofChange dequeEndsWrong)

/-- 'hibernaclelaw07.DequeSurplus': WHATEVER THE INPUT: true; the input reads as it did. -/
def dequeSurplusSpec : ChangeSpec := { name := "dequeSurplus", fn := fun _ => fun
  | [d1, d2, d3] => { results := [.lit (.bool true)], args := [d1, d2, d3] }
  | _ => none }
def dequeSurplusRow : OpenClaim := { program := "ytaplihoeephbeaa", sum := "a2a71d2b1d149357c491390ecc2147ed976d527e4f43e7954071db83687d932a", func := "hibernacle/hibernaclelaw07.DequeSurplus", spec := "dequeSurplus", unfollowed := true, recurses := true, apart := false }
def DequeSurplusSaid : Prop := dequeSurplusRow.holds Try.pinned (OpenSpec.ofChange dequeSurplusSpec)

/-- ITS FALSE NEIGHBOUR: 'it returns false'. Refute it at one input. -/
def dequeSurplusWrong : ChangeSpec := { name := "dequeSurplus", fn := fun _ => fun
  | [d1, d2, d3] => { results := [.lit (.bool false)], args := [d1, d2, d3] }
  | _ => none }
def DequeSurplusWrongFalsely : Prop := dequeSurplusRow.holds Try.pinned (OpenSpec.ofChange dequeSurplusWrong)

/-- 'hibernaclelaw07.DequeOnce': WHATEVER THE INPUT: true; the input reads as it did. -/
def dequeOnceSpec : ChangeSpec := { name := "dequeOnce", fn := fun _ => fun
  | [d1, d2, d3] => { results := [.lit (.bool true)], args := [d1, d2, d3] }
  | _ => none }
def dequeOnceRow : OpenClaim := { program := "ytaplihoeephbeaa", sum := "a2a71d2b1d149357c491390ecc2147ed976d527e4f43e7954071db83687d932a", func := "hibernacle/hibernaclelaw07.DequeOnce", spec := "dequeOnce", unfollowed := true, recurses := true, apart := false }
def DequeOnceSaid : Prop := dequeOnceRow.holds Try.pinned (OpenSpec.ofChange dequeOnceSpec)

/-- ITS FALSE NEIGHBOUR: 'it returns false'. Refute it at one input. -/
def dequeOnceWrong : ChangeSpec := { name := "dequeOnce", fn := fun _ => fun
  | [d1, d2, d3] => { results := [.lit (.bool false)], args := [d1, d2, d3] }
  | _ => none }
def DequeOnceWrongFalsely : Prop := dequeOnceRow.holds Try.pinned (OpenSpec.ofChange dequeOnceWrong)

/-- 'hibernaclelaw07.DequePlays': WHATEVER THE INPUT: true; the input reads as it did. -/
def dequePlaysSpec : ChangeSpec := { name := "dequePlays", fn := fun _ => fun
  | [d1, d2] => { results := [.lit (.bool true)], args := [d1, d2] }
  | _ => none }
def dequePlaysRow : OpenClaim := { program := "ytaplihoeephbeaa", sum := "a2a71d2b1d149357c491390ecc2147ed976d527e4f43e7954071db83687d932a", func := "hibernacle/hibernaclelaw07.DequePlays", spec := "dequePlays", unfollowed := true, recurses := true, apart := false }
def DequePlaysSaid : Prop := dequePlaysRow.holds Try.pinned (OpenSpec.ofChange dequePlaysSpec)

/-- ITS FALSE NEIGHBOUR: 'it returns false'. Refute it at one input. -/
def dequePlaysWrong : ChangeSpec := { name := "dequePlays", fn := fun _ => fun
  | [d1, d2] => { results := [.lit (.bool false)], args := [d1, d2] }
  | _ => none }
def DequePlaysWrongFalsely : Prop := dequePlaysRow.holds Try.pinned (OpenSpec.ofChange dequePlaysWrong)

/-- 'hibernaclelaw09.LocksConds': WHATEVER THE INPUT: true; the input reads as it did. -/
def locksCondsSpec : ChangeSpec := { name := "locksConds", fn := fun _ => fun
  | [d1, d2] => { results := [.lit (.bool true)], args := [d1, d2] }
  | _ => none }
def locksCondsRow : OpenClaim := { program := "ytaplihoeephbeaa", sum := "a2a71d2b1d149357c491390ecc2147ed976d527e4f43e7954071db83687d932a", func := "hibernacle/hibernaclelaw09.LocksConds", spec := "locksConds", unfollowed := true, recurses := true, apart := false }
def LocksCondsSaid : Prop := locksCondsRow.holds Try.pinned (OpenSpec.ofChange locksCondsSpec)

/-- ITS FALSE NEIGHBOUR: 'it returns false'. Refute it at one input. -/
def locksCondsWrong : ChangeSpec := { name := "locksConds", fn := fun _ => fun
  | [d1, d2] => { results := [.lit (.bool false)], args := [d1, d2] }
  | _ => none }
def LocksCondsWrongFalsely : Prop := locksCondsRow.holds Try.pinned (OpenSpec.ofChange locksCondsWrong)

/-- 'hibernaclelaw05.VmRuns': WHATEVER THE INPUT: true; the input reads as it did. -/
def vmRunsSpec : ChangeSpec := { name := "vmRuns", fn := fun _ => fun
  | [d1, d2, d3] => { results := [.lit (.bool true)], args := [d1, d2, d3] }
  | _ => none }
def vmRunsRow : OpenClaim := { program := "ytaplihoeephbeaa", sum := "a2a71d2b1d149357c491390ecc2147ed976d527e4f43e7954071db83687d932a", func := "hibernacle/hibernaclelaw05.VmRuns", spec := "vmRuns", unfollowed := true, recurses := true, apart := false }
def VmRunsSaid : Prop := vmRunsRow.holds Try.pinned (OpenSpec.ofChange vmRunsSpec)

/-- ITS FALSE NEIGHBOUR: 'it returns false'. Refute it at one input. -/
def vmRunsWrong : ChangeSpec := { name := "vmRuns", fn := fun _ => fun
  | [d1, d2, d3] => { results := [.lit (.bool false)], args := [d1, d2, d3] }
  | _ => none }
def VmRunsWrongFalsely : Prop := vmRunsRow.holds Try.pinned (OpenSpec.ofChange vmRunsWrong)

/-- 'hibernaclelaw05.VmEnds': WHATEVER THE INPUT: true; the input reads as it did. -/
def vmEndsSpec : ChangeSpec := { name := "vmEnds", fn := fun _ => fun
  | [d1, d2, d3] => { results := [.lit (.bool true)], args := [d1, d2, d3] }
  | _ => none }
def vmEndsRow : OpenClaim := { program := "ytaplihoeephbeaa", sum := "a2a71d2b1d149357c491390ecc2147ed976d527e4f43e7954071db83687d932a", func := "hibernacle/hibernaclelaw05.VmEnds", spec := "vmEnds", unfollowed := true, recurses := true, apart := false }
def VmEndsSaid : Prop := vmEndsRow.holds Try.pinned (OpenSpec.ofChange vmEndsSpec)

/-- ITS FALSE NEIGHBOUR: 'it returns false'. Refute it at one input. -/
def vmEndsWrong : ChangeSpec := { name := "vmEnds", fn := fun _ => fun
  | [d1, d2, d3] => { results := [.lit (.bool false)], args := [d1, d2, d3] }
  | _ => none }
def VmEndsWrongFalsely : Prop := vmEndsRow.holds Try.pinned (OpenSpec.ofChange vmEndsWrong)

/-- 'hibernaclelaw05.VmSums': WHATEVER THE INPUT: true; the input reads as it did. -/
def vmSumsSpec : ChangeSpec := { name := "vmSums", fn := fun _ => fun
  | [d1, d2] => { results := [.lit (.bool true)], args := [d1, d2] }
  | _ => none }
def vmSumsRow : OpenClaim := { program := "ytaplihoeephbeaa", sum := "a2a71d2b1d149357c491390ecc2147ed976d527e4f43e7954071db83687d932a", func := "hibernacle/hibernaclelaw05.VmSums", spec := "vmSums", unfollowed := true, recurses := true, apart := false }
def VmSumsSaid : Prop := vmSumsRow.holds Try.pinned (OpenSpec.ofChange vmSumsSpec)

/-- ITS FALSE NEIGHBOUR: 'it returns false'. Refute it at one input. -/
def vmSumsWrong : ChangeSpec := { name := "vmSums", fn := fun _ => fun
  | [d1, d2] => { results := [.lit (.bool false)], args := [d1, d2] }
  | _ => none }
def VmSumsWrongFalsely : Prop := vmSumsRow.holds Try.pinned (OpenSpec.ofChange vmSumsWrong)

/-- 'hibernaclelaw05.VmZeros': WHATEVER THE INPUT: true; the input reads as it did. -/
def vmZerosSpec : ChangeSpec := { name := "vmZeros", fn := fun _ => fun
  | [d] => { results := [.lit (.bool true)], args := [d] }
  | _ => none }
def vmZerosRow : OpenClaim := { program := "ytaplihoeephbeaa", sum := "a2a71d2b1d149357c491390ecc2147ed976d527e4f43e7954071db83687d932a", func := "hibernacle/hibernaclelaw05.VmZeros", spec := "vmZeros", unfollowed := true, recurses := true, apart := false }
def VmZerosSaid : Prop := vmZerosRow.holds Try.pinned (OpenSpec.ofChange vmZerosSpec)

/-- ITS FALSE NEIGHBOUR: 'it returns false'. Refute it at one input. -/
def vmZerosWrong : ChangeSpec := { name := "vmZeros", fn := fun _ => fun
  | [d] => { results := [.lit (.bool false)], args := [d] }
  | _ => none }
def VmZerosWrongFalsely : Prop := vmZerosRow.holds Try.pinned (OpenSpec.ofChange vmZerosWrong)

/-- 'hibernaclelaw05.VmSteps': WHATEVER THE INPUT: true; the input reads as it did. -/
def vmStepsSpec : ChangeSpec := { name := "vmSteps", fn := fun _ => fun
  | [d1, d2, d3] => { results := [.lit (.bool true)], args := [d1, d2, d3] }
  | _ => none }
def vmStepsRow : OpenClaim := { program := "ytaplihoeephbeaa", sum := "a2a71d2b1d149357c491390ecc2147ed976d527e4f43e7954071db83687d932a", func := "hibernacle/hibernaclelaw05.VmSteps", spec := "vmSteps", unfollowed := true, recurses := true, apart := false }
def VmStepsSaid : Prop := vmStepsRow.holds Try.pinned (OpenSpec.ofChange vmStepsSpec)

/-- ITS FALSE NEIGHBOUR: 'it returns false'. Refute it at one input. -/
def vmStepsWrong : ChangeSpec := { name := "vmSteps", fn := fun _ => fun
  | [d1, d2, d3] => { results := [.lit (.bool false)], args := [d1, d2, d3] }
  | _ => none }
def VmStepsWrongFalsely : Prop := vmStepsRow.holds Try.pinned (OpenSpec.ofChange vmStepsWrong)

/-- 'hibernaclelaw05.VmTells': WHATEVER THE INPUT: true; the input reads as it did. -/
def vmTellsSpec : ChangeSpec := { name := "vmTells", fn := fun _ => fun
  | [d1, d2, d3] => { results := [.lit (.bool true)], args := [d1, d2, d3] }
  | _ => none }
def vmTellsRow : OpenClaim := { program := "ytaplihoeephbeaa", sum := "a2a71d2b1d149357c491390ecc2147ed976d527e4f43e7954071db83687d932a", func := "hibernacle/hibernaclelaw05.VmTells", spec := "vmTells", unfollowed := true, recurses := true, apart := false }
def VmTellsSaid : Prop := vmTellsRow.holds Try.pinned (OpenSpec.ofChange vmTellsSpec)

/-- ITS FALSE NEIGHBOUR: 'it returns false'. Refute it at one input. -/
def vmTellsWrong : ChangeSpec := { name := "vmTells", fn := fun _ => fun
  | [d1, d2, d3] => { results := [.lit (.bool false)], args := [d1, d2, d3] }
  | _ => none }
def VmTellsWrongFalsely : Prop := vmTellsRow.holds Try.pinned (OpenSpec.ofChange vmTellsWrong)

/-- 'hibernaclelaw09.LocksPlay': WHATEVER THE INPUT: true; the input reads as it did. -/
def locksPlaySpec : ChangeSpec := { name := "locksPlay", fn := fun _ => fun
  | [d1, d2, d3, d4] => { results := [.lit (.bool true)], args := [d1, d2, d3, d4] }
  | _ => none }
def locksPlayRow : OpenClaim := { program := "ytaplihoeephbeaa", sum := "a2a71d2b1d149357c491390ecc2147ed976d527e4f43e7954071db83687d932a", func := "hibernacle/hibernaclelaw09.LocksPlay", spec := "locksPlay", unfollowed := true, recurses := true, apart := false }
def LocksPlaySaid : Prop := locksPlayRow.holds Try.pinned (OpenSpec.ofChange locksPlaySpec)

/-- ITS FALSE NEIGHBOUR: 'it returns false'. Refute it at one input. -/
def locksPlayWrong : ChangeSpec := { name := "locksPlay", fn := fun _ => fun
  | [d1, d2, d3, d4] => { results := [.lit (.bool false)], args := [d1, d2, d3, d4] }
  | _ => none }
def LocksPlayWrongFalsely : Prop := locksPlayRow.holds Try.pinned (OpenSpec.ofChange locksPlayWrong)

/-- 'hibernaclelaw09.LocksHold': WHATEVER THE INPUT: true; the input reads as it did. -/
def locksHoldSpec : ChangeSpec := { name := "locksHold", fn := fun _ => fun
  | [d1, d2, d3, d4] => { results := [.lit (.bool true)], args := [d1, d2, d3, d4] }
  | _ => none }
def locksHoldRow : OpenClaim := { program := "ytaplihoeephbeaa", sum := "a2a71d2b1d149357c491390ecc2147ed976d527e4f43e7954071db83687d932a", func := "hibernacle/hibernaclelaw09.LocksHold", spec := "locksHold", unfollowed := true, recurses := true, apart := false }
def LocksHoldSaid : Prop := locksHoldRow.holds Try.pinned (OpenSpec.ofChange locksHoldSpec)

/-- ITS FALSE NEIGHBOUR: 'it returns false'. Refute it at one input. -/
def locksHoldWrong : ChangeSpec := { name := "locksHold", fn := fun _ => fun
  | [d1, d2, d3, d4] => { results := [.lit (.bool false)], args := [d1, d2, d3, d4] }
  | _ => none }
def LocksHoldWrongFalsely : Prop := locksHoldRow.holds Try.pinned (OpenSpec.ofChange locksHoldWrong)

/-- 'hibernaclelaw07.DequePools': WHATEVER THE INPUT: true; the input reads as it did. -/
def dequePoolsSpec : ChangeSpec := { name := "dequePools", fn := fun _ => fun
  | [d1, d2, d3] => { results := [.lit (.bool true)], args := [d1, d2, d3] }
  | _ => none }
def dequePoolsRow : OpenClaim := { program := "ytaplihoeephbeaa", sum := "a2a71d2b1d149357c491390ecc2147ed976d527e4f43e7954071db83687d932a", func := "hibernacle/hibernaclelaw07.DequePools", spec := "dequePools", unfollowed := true, recurses := true, apart := false }
def DequePoolsSaid : Prop := dequePoolsRow.holds Try.pinned (OpenSpec.ofChange dequePoolsSpec)

/-- ITS FALSE NEIGHBOUR: 'it returns false'. Refute it at one input. -/
def dequePoolsWrong : ChangeSpec := { name := "dequePools", fn := fun _ => fun
  | [d1, d2, d3] => { results := [.lit (.bool false)], args := [d1, d2, d3] }
  | _ => none }
def DequePoolsWrongFalsely : Prop := dequePoolsRow.holds Try.pinned (OpenSpec.ofChange dequePoolsWrong)

/- THE SECOND FORM. 'bulk': how many values and letters a reading holds, each counted each time it is reached (what is shared counts as often as it is met; a slice's spare places count too). A statement '..UptoSaid' is the law's where the arguments, and the package variables that the reading takes, are together of bulk at most 1048576: NARROWER than '..Said'. Prove '..Said' where nothing that the law and all that it calls make is longer than what came in: it says more and counts as full. Else prove '..UptoSaid'. A law counts once. -/
mutual
def uptoBulk {H : Type} : DataW H → Nat
  | .lit (.string bytes) => bytes.length + 1
  | .lit _ => 1
  | .nil => 1
  | .ptr d => uptoBulk d + 1
  | .slice elems spare => uptoBulkAll elems + uptoBulkAll spare + 1
  | .agg parts => uptoBulkAll parts + 1
  | .iface _ d => uptoBulk d + 1
  | .map entries => uptoBulkEntries entries + 1
  | .held _ => 1
def uptoBulkAll {H : Type} : List (DataW H) → Nat
  | [] => 0
  | d :: r => uptoBulk d + uptoBulkAll r
def uptoBulkEntries {H : Type} : List (Lit × DataW H) → Nat
  | [] => 0
  | x :: r => uptoBulkEntry x + uptoBulkEntries r
def uptoBulkEntry {H : Type} : Lit × DataW H → Nat
  | (.string bytes, d) => bytes.length + uptoBulk d + 1
  | (_, d) => uptoBulk d + 1
 end
def uptoSmall : (H : Type) → List (DataW H) → Bool := fun _ ds => decide (uptoBulkAll ds ≤ 1048576)
def OpenSpec.upto (s : _root_.Go.ChangeSpec) : _root_.Go.OpenSpec := { _root_.Go.OpenSpec.ofChange s with cond := some uptoSmall }

/-- 'hibernaclelaw04.StackMay', WHERE WHAT IT READS IS OF BULK AT MOST 1048576: true; the input reads as it did. -/
def stackMayUptoRow : OpenClaim := { program := "ytaplihoeephbeaa", sum := "a2a71d2b1d149357c491390ecc2147ed976d527e4f43e7954071db83687d932a", func := "hibernacle/hibernaclelaw04.StackMay", spec := "stackMay", unfollowed := true, recurses := true, apart := false, narrowed := true }
def StackMayUptoSaid : Prop := stackMayUptoRow.holds Try.pinned (OpenSpec.upto stackMaySpec)

/-- 'hibernaclelaw04.StackDeep', WHERE WHAT IT READS IS OF BULK AT MOST 1048576: true; the input reads as it did. -/
def stackDeepUptoRow : OpenClaim := { program := "ytaplihoeephbeaa", sum := "a2a71d2b1d149357c491390ecc2147ed976d527e4f43e7954071db83687d932a", func := "hibernacle/hibernaclelaw04.StackDeep", spec := "stackDeep", unfollowed := true, recurses := true, apart := false, narrowed := true }
def StackDeepUptoSaid : Prop := stackDeepUptoRow.holds Try.pinned (OpenSpec.upto stackDeepSpec)

/-- 'hibernaclelaw06.RingTypes', WHERE WHAT IT READS IS OF BULK AT MOST 1048576: true; the input reads as it did. -/
def ringTypesUptoRow : OpenClaim := { program := "ytaplihoeephbeaa", sum := "a2a71d2b1d149357c491390ecc2147ed976d527e4f43e7954071db83687d932a", func := "hibernacle/hibernaclelaw06.RingTypes", spec := "ringTypes", unfollowed := true, recurses := true, apart := false, narrowed := true }
def RingTypesUptoSaid : Prop := ringTypesUptoRow.holds Try.pinned (OpenSpec.upto ringTypesSpec)

/-- 'hibernaclelaw06.RingRow', WHERE WHAT IT READS IS OF BULK AT MOST 1048576: true; the input reads as it did. -/
def ringRowUptoRow : OpenClaim := { program := "ytaplihoeephbeaa", sum := "a2a71d2b1d149357c491390ecc2147ed976d527e4f43e7954071db83687d932a", func := "hibernacle/hibernaclelaw06.RingRow", spec := "ringRow", unfollowed := true, recurses := true, apart := false, narrowed := true }
def RingRowUptoSaid : Prop := ringRowUptoRow.holds Try.pinned (OpenSpec.upto ringRowSpec)

/-- 'hibernaclelaw04.StackRound', WHERE WHAT IT READS IS OF BULK AT MOST 1048576: true; the input reads as it did. -/
def stackRoundUptoRow : OpenClaim := { program := "ytaplihoeephbeaa", sum := "a2a71d2b1d149357c491390ecc2147ed976d527e4f43e7954071db83687d932a", func := "hibernacle/hibernaclelaw04.StackRound", spec := "stackRound", unfollowed := true, recurses := true, apart := false, narrowed := true }
def StackRoundUptoSaid : Prop := stackRoundUptoRow.holds Try.pinned (OpenSpec.upto stackRoundSpec)

/-- 'hibernaclelaw06.RingMoves', WHERE WHAT IT READS IS OF BULK AT MOST 1048576: true; the input reads as it did. -/
def ringMovesUptoRow : OpenClaim := { program := "ytaplihoeephbeaa", sum := "a2a71d2b1d149357c491390ecc2147ed976d527e4f43e7954071db83687d932a", func := "hibernacle/hibernaclelaw06.RingMoves", spec := "ringMoves", unfollowed := true, recurses := true, apart := false, narrowed := true }
def RingMovesUptoSaid : Prop := ringMovesUptoRow.holds Try.pinned (OpenSpec.upto ringMovesSpec)

/-- 'hibernaclelaw04.StackSame', WHERE WHAT IT READS IS OF BULK AT MOST 1048576: true; the input reads as it did. -/
def stackSameUptoRow : OpenClaim := { program := "ytaplihoeephbeaa", sum := "a2a71d2b1d149357c491390ecc2147ed976d527e4f43e7954071db83687d932a", func := "hibernacle/hibernaclelaw04.StackSame", spec := "stackSame", unfollowed := true, recurses := true, apart := false, narrowed := true }
def StackSameUptoSaid : Prop := stackSameUptoRow.holds Try.pinned (OpenSpec.upto stackSameSpec)

/-- 'hibernaclelaw04.StackKeeps', WHERE WHAT IT READS IS OF BULK AT MOST 1048576: true; the input reads as it did. -/
def stackKeepsUptoRow : OpenClaim := { program := "ytaplihoeephbeaa", sum := "a2a71d2b1d149357c491390ecc2147ed976d527e4f43e7954071db83687d932a", func := "hibernacle/hibernaclelaw04.StackKeeps", spec := "stackKeeps", unfollowed := true, recurses := true, apart := false, narrowed := true }
def StackKeepsUptoSaid : Prop := stackKeepsUptoRow.holds Try.pinned (OpenSpec.upto stackKeepsSpec)

/-- 'hibernaclelaw06.RingPlays', WHERE WHAT IT READS IS OF BULK AT MOST 1048576: true; the input reads as it did. -/
def ringPlaysUptoRow : OpenClaim := { program := "ytaplihoeephbeaa", sum := "a2a71d2b1d149357c491390ecc2147ed976d527e4f43e7954071db83687d932a", func := "hibernacle/hibernaclelaw06.RingPlays", spec := "ringPlays", unfollowed := true, recurses := true, apart := false, narrowed := true }
def RingPlaysUptoSaid : Prop := ringPlaysUptoRow.holds Try.pinned (OpenSpec.upto ringPlaysSpec)

/-- 'hibernaclelaw06.RingCuts', WHERE WHAT IT READS IS OF BULK AT MOST 1048576: true; the input reads as it did. -/
def ringCutsUptoRow : OpenClaim := { program := "ytaplihoeephbeaa", sum := "a2a71d2b1d149357c491390ecc2147ed976d527e4f43e7954071db83687d932a", func := "hibernacle/hibernaclelaw06.RingCuts", spec := "ringCuts", unfollowed := true, recurses := true, apart := false, narrowed := true }
def RingCutsUptoSaid : Prop := ringCutsUptoRow.holds Try.pinned (OpenSpec.upto ringCutsSpec)

/-- 'hibernaclelaw09.LocksRows', WHERE WHAT IT READS IS OF BULK AT MOST 1048576: true; the input reads as it did. -/
def locksRowsUptoRow : OpenClaim := { program := "ytaplihoeephbeaa", sum := "a2a71d2b1d149357c491390ecc2147ed976d527e4f43e7954071db83687d932a", func := "hibernacle/hibernaclelaw09.LocksRows", spec := "locksRows", unfollowed := true, recurses := true, apart := false, narrowed := true }
def LocksRowsUptoSaid : Prop := locksRowsUptoRow.holds Try.pinned (OpenSpec.upto locksRowsSpec)

/-- 'hibernaclelaw09.LocksCounts', WHERE WHAT IT READS IS OF BULK AT MOST 1048576: true; the input reads as it did. -/
def locksCountsUptoRow : OpenClaim := { program := "ytaplihoeephbeaa", sum := "a2a71d2b1d149357c491390ecc2147ed976d527e4f43e7954071db83687d932a", func := "hibernacle/hibernaclelaw09.LocksCounts", spec := "locksCounts", unfollowed := true, recurses := true, apart := false, narrowed := true }
def LocksCountsUptoSaid : Prop := locksCountsUptoRow.holds Try.pinned (OpenSpec.upto locksCountsSpec)

/-- 'hibernaclelaw07.DequeEnds', WHERE WHAT IT READS IS OF BULK AT MOST 1048576: true; the input reads as it did. -/
def dequeEndsUptoRow : OpenClaim := { program := "ytaplihoeephbeaa", sum := "a2a71d2b1d149357c491390ecc2147ed976d527e4f43e7954071db83687d932a", func := "hibernacle/hibernaclelaw07.DequeEnds", spec := "dequeEnds", unfollowed := true, recurses := true, apart := false, narrowed := true }
def DequeEndsUptoSaid : Prop := dequeEndsUptoRow.holds Try.pinned (OpenSpec.upto dequeEndsSpec)

/-- 'hibernaclelaw07.DequeSurplus', WHERE WHAT IT READS IS OF BULK AT MOST 1048576: true; the input reads as it did. -/
def dequeSurplusUptoRow : OpenClaim := { program := "ytaplihoeephbeaa", sum := "a2a71d2b1d149357c491390ecc2147ed976d527e4f43e7954071db83687d932a", func := "hibernacle/hibernaclelaw07.DequeSurplus", spec := "dequeSurplus", unfollowed := true, recurses := true, apart := false, narrowed := true }
def DequeSurplusUptoSaid : Prop := dequeSurplusUptoRow.holds Try.pinned (OpenSpec.upto dequeSurplusSpec)

/-- 'hibernaclelaw07.DequeOnce', WHERE WHAT IT READS IS OF BULK AT MOST 1048576: true; the input reads as it did. -/
def dequeOnceUptoRow : OpenClaim := { program := "ytaplihoeephbeaa", sum := "a2a71d2b1d149357c491390ecc2147ed976d527e4f43e7954071db83687d932a", func := "hibernacle/hibernaclelaw07.DequeOnce", spec := "dequeOnce", unfollowed := true, recurses := true, apart := false, narrowed := true }
def DequeOnceUptoSaid : Prop := dequeOnceUptoRow.holds Try.pinned (OpenSpec.upto dequeOnceSpec)

/-- 'hibernaclelaw07.DequePlays', WHERE WHAT IT READS IS OF BULK AT MOST 1048576: true; the input reads as it did. -/
def dequePlaysUptoRow : OpenClaim := { program := "ytaplihoeephbeaa", sum := "a2a71d2b1d149357c491390ecc2147ed976d527e4f43e7954071db83687d932a", func := "hibernacle/hibernaclelaw07.DequePlays", spec := "dequePlays", unfollowed := true, recurses := true, apart := false, narrowed := true }
def DequePlaysUptoSaid : Prop := dequePlaysUptoRow.holds Try.pinned (OpenSpec.upto dequePlaysSpec)

/-- 'hibernaclelaw09.LocksConds', WHERE WHAT IT READS IS OF BULK AT MOST 1048576: true; the input reads as it did. -/
def locksCondsUptoRow : OpenClaim := { program := "ytaplihoeephbeaa", sum := "a2a71d2b1d149357c491390ecc2147ed976d527e4f43e7954071db83687d932a", func := "hibernacle/hibernaclelaw09.LocksConds", spec := "locksConds", unfollowed := true, recurses := true, apart := false, narrowed := true }
def LocksCondsUptoSaid : Prop := locksCondsUptoRow.holds Try.pinned (OpenSpec.upto locksCondsSpec)

/-- 'hibernaclelaw05.VmRuns', WHERE WHAT IT READS IS OF BULK AT MOST 1048576: true; the input reads as it did. -/
def vmRunsUptoRow : OpenClaim := { program := "ytaplihoeephbeaa", sum := "a2a71d2b1d149357c491390ecc2147ed976d527e4f43e7954071db83687d932a", func := "hibernacle/hibernaclelaw05.VmRuns", spec := "vmRuns", unfollowed := true, recurses := true, apart := false, narrowed := true }
def VmRunsUptoSaid : Prop := vmRunsUptoRow.holds Try.pinned (OpenSpec.upto vmRunsSpec)

/-- 'hibernaclelaw05.VmEnds', WHERE WHAT IT READS IS OF BULK AT MOST 1048576: true; the input reads as it did. -/
def vmEndsUptoRow : OpenClaim := { program := "ytaplihoeephbeaa", sum := "a2a71d2b1d149357c491390ecc2147ed976d527e4f43e7954071db83687d932a", func := "hibernacle/hibernaclelaw05.VmEnds", spec := "vmEnds", unfollowed := true, recurses := true, apart := false, narrowed := true }
def VmEndsUptoSaid : Prop := vmEndsUptoRow.holds Try.pinned (OpenSpec.upto vmEndsSpec)

/-- 'hibernaclelaw05.VmSums', WHERE WHAT IT READS IS OF BULK AT MOST 1048576: true; the input reads as it did. -/
def vmSumsUptoRow : OpenClaim := { program := "ytaplihoeephbeaa", sum := "a2a71d2b1d149357c491390ecc2147ed976d527e4f43e7954071db83687d932a", func := "hibernacle/hibernaclelaw05.VmSums", spec := "vmSums", unfollowed := true, recurses := true, apart := false, narrowed := true }
def VmSumsUptoSaid : Prop := vmSumsUptoRow.holds Try.pinned (OpenSpec.upto vmSumsSpec)

/-- 'hibernaclelaw05.VmZeros', WHERE WHAT IT READS IS OF BULK AT MOST 1048576: true; the input reads as it did. -/
def vmZerosUptoRow : OpenClaim := { program := "ytaplihoeephbeaa", sum := "a2a71d2b1d149357c491390ecc2147ed976d527e4f43e7954071db83687d932a", func := "hibernacle/hibernaclelaw05.VmZeros", spec := "vmZeros", unfollowed := true, recurses := true, apart := false, narrowed := true }
def VmZerosUptoSaid : Prop := vmZerosUptoRow.holds Try.pinned (OpenSpec.upto vmZerosSpec)

/-- 'hibernaclelaw05.VmSteps', WHERE WHAT IT READS IS OF BULK AT MOST 1048576: true; the input reads as it did. -/
def vmStepsUptoRow : OpenClaim := { program := "ytaplihoeephbeaa", sum := "a2a71d2b1d149357c491390ecc2147ed976d527e4f43e7954071db83687d932a", func := "hibernacle/hibernaclelaw05.VmSteps", spec := "vmSteps", unfollowed := true, recurses := true, apart := false, narrowed := true }
def VmStepsUptoSaid : Prop := vmStepsUptoRow.holds Try.pinned (OpenSpec.upto vmStepsSpec)

/-- 'hibernaclelaw05.VmTells', WHERE WHAT IT READS IS OF BULK AT MOST 1048576: true; the input reads as it did. -/
def vmTellsUptoRow : OpenClaim := { program := "ytaplihoeephbeaa", sum := "a2a71d2b1d149357c491390ecc2147ed976d527e4f43e7954071db83687d932a", func := "hibernacle/hibernaclelaw05.VmTells", spec := "vmTells", unfollowed := true, recurses := true, apart := false, narrowed := true }
def VmTellsUptoSaid : Prop := vmTellsUptoRow.holds Try.pinned (OpenSpec.upto vmTellsSpec)

/-- 'hibernaclelaw09.LocksPlay', WHERE WHAT IT READS IS OF BULK AT MOST 1048576: true; the input reads as it did. -/
def locksPlayUptoRow : OpenClaim := { program := "ytaplihoeephbeaa", sum := "a2a71d2b1d149357c491390ecc2147ed976d527e4f43e7954071db83687d932a", func := "hibernacle/hibernaclelaw09.LocksPlay", spec := "locksPlay", unfollowed := true, recurses := true, apart := false, narrowed := true }
def LocksPlayUptoSaid : Prop := locksPlayUptoRow.holds Try.pinned (OpenSpec.upto locksPlaySpec)

/-- 'hibernaclelaw09.LocksHold', WHERE WHAT IT READS IS OF BULK AT MOST 1048576: true; the input reads as it did. -/
def locksHoldUptoRow : OpenClaim := { program := "ytaplihoeephbeaa", sum := "a2a71d2b1d149357c491390ecc2147ed976d527e4f43e7954071db83687d932a", func := "hibernacle/hibernaclelaw09.LocksHold", spec := "locksHold", unfollowed := true, recurses := true, apart := false, narrowed := true }
def LocksHoldUptoSaid : Prop := locksHoldUptoRow.holds Try.pinned (OpenSpec.upto locksHoldSpec)

/-- 'hibernaclelaw07.DequePools', WHERE WHAT IT READS IS OF BULK AT MOST 1048576: true; the input reads as it did. -/
def dequePoolsUptoRow : OpenClaim := { program := "ytaplihoeephbeaa", sum := "a2a71d2b1d149357c491390ecc2147ed976d527e4f43e7954071db83687d932a", func := "hibernacle/hibernaclelaw07.DequePools", spec := "dequePools", unfollowed := true, recurses := true, apart := false, narrowed := true }
def DequePoolsUptoSaid : Prop := dequePoolsUptoRow.holds Try.pinned (OpenSpec.upto dequePoolsSpec)

end Rows
end Go.Proofs.Ytaplihoeephbeaa
