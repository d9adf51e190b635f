/-
  No cell of these rows narrows 'for every input' (looked for: loops, veiled, ifaces, maps, wideKeys, modest, calm, conditions, laid).
  DERIVED. THE GIVEN ROWS OF THIS SEAT. 12 by the template 'for every input the law returns true; each argument reads behind the call as it read before'; 0 by the template 'total and deterministic' (their statements: YtkncpbaknigamaaTotals.lean).
  GIVEN WITH THE SEED: the statements are not yours to turn. If you find one false, say at which input.
  Laid BY PROGRAM, IN A SANDBOX (cutbox-rows.mjs): the forced cells as the released guide's own fill.sh prints them over the translation 4040a93f624c1ab7… (all of the seat's roots in one cut). By AI agents, Wed Nov 11 2026. No macro, syntax, notation, axiom, sorry.
-/
import Derived.Test.YtkncpbaknigamaaChecked
import GoSem.Claim
import GoSem.ClaimJoined
import GoSem.ClaimMapViews
import Derived.JoinedTies
import Derived.KernelRfl
namespace Go.Proofs.Ytkncpbaknigamaa
/- THE CELL 'sum', in the pinned program and in every row, IS THE sha256 OF THE DUMP (.gsa) THAT YtkncpbaknigamaaProg.lean LOADS. Nothing in Lean hashes anything: it is a label: what it is worth is what the hold of that sum in a sandbox is worth. -/
noncomputable def Try.pinned : Pinned := { name := "ytkncpbaknigamaa", sum := "4040a93f624c1ab7b78106b1ca03694dc9b7dc1410493bc601e89d6b2d612f7a", checked := Try.checked }
namespace Rows
def none {H : Type} : Left H := { results := [], args := [] }

/-- 'hibernaclelaw14.FairFairs': WHATEVER THE INPUT: true; the input reads as it did. -/
def fairFairsSpec : ChangeSpec := { name := "fairFairs", fn := fun _ => fun
  | [d1, d2, d3] => { results := [.lit (.bool true)], args := [d1, d2, d3] }
  | _ => none }
def fairFairsRow : OpenClaim := { program := "ytkncpbaknigamaa", sum := "4040a93f624c1ab7b78106b1ca03694dc9b7dc1410493bc601e89d6b2d612f7a", func := "hibernacle/hibernaclelaw14.FairFairs", spec := "fairFairs", apart := false }
def FairFairsSaid : Prop := fairFairsRow.holds Try.pinned (OpenSpec.ofChange fairFairsSpec)

/-- ITS FALSE NEIGHBOUR: 'it returns false'. Refute it at one input. -/
def fairFairsWrong : ChangeSpec := { name := "fairFairs", fn := fun _ => fun
  | [d1, d2, d3] => { results := [.lit (.bool false)], args := [d1, d2, d3] }
  | _ => none }
def FairFairsWrongFalsely : Prop := fairFairsRow.holds Try.pinned (OpenSpec.ofChange fairFairsWrong)

/-- 'hibernaclelaw14.FairEach': WHATEVER THE INPUT: true; the input reads as it did. -/
def fairEachSpec : ChangeSpec := { name := "fairEach", fn := fun _ => fun
  | [d1, d2, d3] => { results := [.lit (.bool true)], args := [d1, d2, d3] }
  | _ => none }
def fairEachRow : OpenClaim := { program := "ytkncpbaknigamaa", sum := "4040a93f624c1ab7b78106b1ca03694dc9b7dc1410493bc601e89d6b2d612f7a", func := "hibernacle/hibernaclelaw14.FairEach", spec := "fairEach", unfollowed := true, recurses := true, apart := false }
def FairEachSaid : Prop := fairEachRow.holds Try.pinned (OpenSpec.ofChange fairEachSpec)

/-- ITS FALSE NEIGHBOUR: 'it returns false'. Refute it at one input. -/
def fairEachWrong : ChangeSpec := { name := "fairEach", fn := fun _ => fun
  | [d1, d2, d3] => { results := [.lit (.bool false)], args := [d1, d2, d3] }
  | _ => none }
def FairEachWrongFalsely : Prop := fairEachRow.holds Try.pinned (OpenSpec.ofChange fairEachWrong)

/-- 'hibernaclelaw14.FairCounts': WHATEVER THE INPUT: true; the input reads as it did. -/
def fairCountsSpec : ChangeSpec := { name := "fairCounts", fn := fun _ => fun
  | [d1, d2, d3] => { results := [.lit (.bool true)], args := [d1, d2, d3] }
  | _ => none }
def fairCountsRow : OpenClaim := { program := "ytkncpbaknigamaa", sum := "4040a93f624c1ab7b78106b1ca03694dc9b7dc1410493bc601e89d6b2d612f7a", func := "hibernacle/hibernaclelaw14.FairCounts", spec := "fairCounts", unfollowed := true, recurses := true, apart := false }
def FairCountsSaid : Prop := fairCountsRow.holds Try.pinned (OpenSpec.ofChange fairCountsSpec)

/-- ITS FALSE NEIGHBOUR: 'it returns false'. Refute it at one input. -/
def fairCountsWrong : ChangeSpec := { name := "fairCounts", fn := fun _ => fun
  | [d1, d2, d3] => { results := [.lit (.bool false)], args := [d1, d2, d3] }
  | _ => none }
def FairCountsWrongFalsely : Prop := fairCountsRow.holds Try.pinned (OpenSpec.ofChange fairCountsWrong)

/-- 'hibernaclelaw14.FairPieces': WHATEVER THE INPUT: true; the input reads as it did. -/
def fairPiecesSpec : ChangeSpec := { name := "fairPieces", fn := fun _ => fun
  | [d1, d2] => { results := [.lit (.bool true)], args := [d1, d2] }
  | _ => none }
def fairPiecesRow : OpenClaim := { program := "ytkncpbaknigamaa", sum := "4040a93f624c1ab7b78106b1ca03694dc9b7dc1410493bc601e89d6b2d612f7a", func := "hibernacle/hibernaclelaw14.FairPieces", spec := "fairPieces", unfollowed := true, recurses := true, apart := false }
def FairPiecesSaid : Prop := fairPiecesRow.holds Try.pinned (OpenSpec.ofChange fairPiecesSpec)

/-- ITS FALSE NEIGHBOUR: 'it returns false'. Refute it at one input. -/
def fairPiecesWrong : ChangeSpec := { name := "fairPieces", fn := fun _ => fun
  | [d1, d2] => { results := [.lit (.bool false)], args := [d1, d2] }
  | _ => none }
def FairPiecesWrongFalsely : Prop := fairPiecesRow.holds Try.pinned (OpenSpec.ofChange fairPiecesWrong)

/-- 'hibernaclelaw14.FairMore': WHATEVER THE INPUT: true; the input reads as it did. -/
def fairMoreSpec : ChangeSpec := { name := "fairMore", fn := fun _ => fun
  | [d1, d2, d3, d4] => { results := [.lit (.bool true)], args := [d1, d2, d3, d4] }
  | _ => none }
def fairMoreRow : OpenClaim := { program := "ytkncpbaknigamaa", sum := "4040a93f624c1ab7b78106b1ca03694dc9b7dc1410493bc601e89d6b2d612f7a", func := "hibernacle/hibernaclelaw14.FairMore", spec := "fairMore", unfollowed := true, recurses := true, apart := false }
def FairMoreSaid : Prop := fairMoreRow.holds Try.pinned (OpenSpec.ofChange fairMoreSpec)

/-- ITS FALSE NEIGHBOUR: 'it returns false'. Refute it at one input. -/
def fairMoreWrong : ChangeSpec := { name := "fairMore", fn := fun _ => fun
  | [d1, d2, d3, d4] => { results := [.lit (.bool false)], args := [d1, d2, d3, d4] }
  | _ => none }
def FairMoreWrongFalsely : Prop := fairMoreRow.holds Try.pinned (OpenSpec.ofChange fairMoreWrong)

/-- 'hibernaclelaw14.FairTurns': WHATEVER THE INPUT: true; the input reads as it did. -/
def fairTurnsSpec : ChangeSpec := { name := "fairTurns", fn := fun _ => fun
  | [d1, d2] => { results := [.lit (.bool true)], args := [d1, d2] }
  | _ => none }
def fairTurnsRow : OpenClaim := { program := "ytkncpbaknigamaa", sum := "4040a93f624c1ab7b78106b1ca03694dc9b7dc1410493bc601e89d6b2d612f7a", func := "hibernacle/hibernaclelaw14.FairTurns", spec := "fairTurns", apart := false }
def FairTurnsSaid : Prop := fairTurnsRow.holds Try.pinned (OpenSpec.ofChange fairTurnsSpec)

/-- ITS FALSE NEIGHBOUR: 'it returns false'. Refute it at one input. -/
def fairTurnsWrong : ChangeSpec := { name := "fairTurns", fn := fun _ => fun
  | [d1, d2] => { results := [.lit (.bool false)], args := [d1, d2] }
  | _ => none }
def FairTurnsWrongFalsely : Prop := fairTurnsRow.holds Try.pinned (OpenSpec.ofChange fairTurnsWrong)

/-- 'hibernaclelaw14.FairRounds': WHATEVER THE INPUT: true; the input reads as it did. -/
def fairRoundsSpec : ChangeSpec := { name := "fairRounds", fn := fun _ => fun
  | [d1, d2, d3] => { results := [.lit (.bool true)], args := [d1, d2, d3] }
  | _ => none }
def fairRoundsRow : OpenClaim := { program := "ytkncpbaknigamaa", sum := "4040a93f624c1ab7b78106b1ca03694dc9b7dc1410493bc601e89d6b2d612f7a", func := "hibernacle/hibernaclelaw14.FairRounds", spec := "fairRounds", unfollowed := true, recurses := true, apart := false }
def FairRoundsSaid : Prop := fairRoundsRow.holds Try.pinned (OpenSpec.ofChange fairRoundsSpec)

/-- ITS FALSE NEIGHBOUR: 'it returns false'. Refute it at one input. -/
def fairRoundsWrong : ChangeSpec := { name := "fairRounds", fn := fun _ => fun
  | [d1, d2, d3] => { results := [.lit (.bool false)], args := [d1, d2, d3] }
  | _ => none }
def FairRoundsWrongFalsely : Prop := fairRoundsRow.holds Try.pinned (OpenSpec.ofChange fairRoundsWrong)

/-- 'hibernaclelaw09.LocksRows': WHATEVER THE INPUT: true; the input reads as it did. -/
def locksRowsSpec : ChangeSpec := { name := "locksRows", fn := fun _ => fun
  | [d] => { results := [.lit (.bool true)], args := [d] }
  | _ => none }
def locksRowsRow : OpenClaim := { program := "ytkncpbaknigamaa", sum := "4040a93f624c1ab7b78106b1ca03694dc9b7dc1410493bc601e89d6b2d612f7a", func := "hibernacle/hibernaclelaw09.LocksRows", spec := "locksRows", unfollowed := true, recurses := true, apart := false }
def LocksRowsSaid : Prop := locksRowsRow.holds Try.pinned (OpenSpec.ofChange locksRowsSpec)

/-- ITS FALSE NEIGHBOUR: 'it returns false'. Refute it at one input. -/
def locksRowsWrong : ChangeSpec := { name := "locksRows", fn := fun _ => fun
  | [d] => { results := [.lit (.bool false)], args := [d] }
  | _ => none }
def LocksRowsWrongFalsely : Prop := locksRowsRow.holds Try.pinned (OpenSpec.ofChange locksRowsWrong)

/-- 'hibernaclelaw09.LocksCounts': WHATEVER THE INPUT: true; the input reads as it did. -/
def locksCountsSpec : ChangeSpec := { name := "locksCounts", fn := fun _ => fun
  | [d1, d2] => { results := [.lit (.bool true)], args := [d1, d2] }
  | _ => none }
def locksCountsRow : OpenClaim := { program := "ytkncpbaknigamaa", sum := "4040a93f624c1ab7b78106b1ca03694dc9b7dc1410493bc601e89d6b2d612f7a", func := "hibernacle/hibernaclelaw09.LocksCounts", spec := "locksCounts", unfollowed := true, recurses := true, apart := false }
def LocksCountsSaid : Prop := locksCountsRow.holds Try.pinned (OpenSpec.ofChange locksCountsSpec)

/-- ITS FALSE NEIGHBOUR: 'it returns false'. Refute it at one input. -/
def locksCountsWrong : ChangeSpec := { name := "locksCounts", fn := fun _ => fun
  | [d1, d2] => { results := [.lit (.bool false)], args := [d1, d2] }
  | _ => none }
def LocksCountsWrongFalsely : Prop := locksCountsRow.holds Try.pinned (OpenSpec.ofChange locksCountsWrong)

/-- 'hibernaclelaw09.LocksConds': WHATEVER THE INPUT: true; the input reads as it did. -/
def locksCondsSpec : ChangeSpec := { name := "locksConds", fn := fun _ => fun
  | [d1, d2] => { results := [.lit (.bool true)], args := [d1, d2] }
  | _ => none }
def locksCondsRow : OpenClaim := { program := "ytkncpbaknigamaa", sum := "4040a93f624c1ab7b78106b1ca03694dc9b7dc1410493bc601e89d6b2d612f7a", func := "hibernacle/hibernaclelaw09.LocksConds", spec := "locksConds", unfollowed := true, recurses := true, apart := false }
def LocksCondsSaid : Prop := locksCondsRow.holds Try.pinned (OpenSpec.ofChange locksCondsSpec)

/-- ITS FALSE NEIGHBOUR: 'it returns false'. Refute it at one input. -/
def locksCondsWrong : ChangeSpec := { name := "locksConds", fn := fun _ => fun
  | [d1, d2] => { results := [.lit (.bool false)], args := [d1, d2] }
  | _ => none }
def LocksCondsWrongFalsely : Prop := locksCondsRow.holds Try.pinned (OpenSpec.ofChange locksCondsWrong)

/-- 'hibernaclelaw09.LocksPlay': WHATEVER THE INPUT: true; the input reads as it did. -/
def locksPlaySpec : ChangeSpec := { name := "locksPlay", fn := fun _ => fun
  | [d1, d2, d3, d4] => { results := [.lit (.bool true)], args := [d1, d2, d3, d4] }
  | _ => none }
def locksPlayRow : OpenClaim := { program := "ytkncpbaknigamaa", sum := "4040a93f624c1ab7b78106b1ca03694dc9b7dc1410493bc601e89d6b2d612f7a", func := "hibernacle/hibernaclelaw09.LocksPlay", spec := "locksPlay", unfollowed := true, recurses := true, apart := false }
def LocksPlaySaid : Prop := locksPlayRow.holds Try.pinned (OpenSpec.ofChange locksPlaySpec)

/-- ITS FALSE NEIGHBOUR: 'it returns false'. Refute it at one input. -/
def locksPlayWrong : ChangeSpec := { name := "locksPlay", fn := fun _ => fun
  | [d1, d2, d3, d4] => { results := [.lit (.bool false)], args := [d1, d2, d3, d4] }
  | _ => none }
def LocksPlayWrongFalsely : Prop := locksPlayRow.holds Try.pinned (OpenSpec.ofChange locksPlayWrong)

/-- 'hibernaclelaw09.LocksHold': WHATEVER THE INPUT: true; the input reads as it did. -/
def locksHoldSpec : ChangeSpec := { name := "locksHold", fn := fun _ => fun
  | [d1, d2, d3, d4] => { results := [.lit (.bool true)], args := [d1, d2, d3, d4] }
  | _ => none }
def locksHoldRow : OpenClaim := { program := "ytkncpbaknigamaa", sum := "4040a93f624c1ab7b78106b1ca03694dc9b7dc1410493bc601e89d6b2d612f7a", func := "hibernacle/hibernaclelaw09.LocksHold", spec := "locksHold", unfollowed := true, recurses := true, apart := false }
def LocksHoldSaid : Prop := locksHoldRow.holds Try.pinned (OpenSpec.ofChange locksHoldSpec)

/-- ITS FALSE NEIGHBOUR: 'it returns false'. Refute it at one input. -/
def locksHoldWrong : ChangeSpec := { name := "locksHold", fn := fun _ => fun
  | [d1, d2, d3, d4] => { results := [.lit (.bool false)], args := [d1, d2, d3, d4] }
  | _ => none }
def LocksHoldWrongFalsely : Prop := locksHoldRow.holds Try.pinned (OpenSpec.ofChange locksHoldWrong)

/- THE SECOND FORM. 'bulk': how many values and letters a reading holds, each counted each time it is reached (what is shared counts as often as it is met; a slice's spare places count too). A statement '..UptoSaid' is the law's where the arguments, and the package variables that the reading takes, are together of bulk at most 1048576: NARROWER than '..Said'. Prove '..Said' where nothing that the law and all that it calls make is longer than what came in: it says more and counts as full. Else prove '..UptoSaid'. A law counts once. -/
mutual
def uptoBulk {H : Type} : DataW H → Nat
  | .lit (.string bytes) => bytes.length + 1
  | .lit _ => 1
  | .nil => 1
  | .ptr d => uptoBulk d + 1
  | .slice elems spare => uptoBulkAll elems + uptoBulkAll spare + 1
  | .agg parts => uptoBulkAll parts + 1
  | .iface _ d => uptoBulk d + 1
  | .map entries => uptoBulkEntries entries + 1
  | .held _ => 1
def uptoBulkAll {H : Type} : List (DataW H) → Nat
  | [] => 0
  | d :: r => uptoBulk d + uptoBulkAll r
def uptoBulkEntries {H : Type} : List (Lit × DataW H) → Nat
  | [] => 0
  | x :: r => uptoBulkEntry x + uptoBulkEntries r
def uptoBulkEntry {H : Type} : Lit × DataW H → Nat
  | (.string bytes, d) => bytes.length + uptoBulk d + 1
  | (_, d) => uptoBulk d + 1
 end
def uptoSmall : (H : Type) → List (DataW H) → Bool := fun _ ds => decide (uptoBulkAll ds ≤ 1048576)
def OpenSpec.upto (s : _root_.Go.ChangeSpec) : _root_.Go.OpenSpec := { _root_.Go.OpenSpec.ofChange s with cond := some uptoSmall }

/-- 'hibernaclelaw14.FairFairs', WHERE WHAT IT READS IS OF BULK AT MOST 1048576: true; the input reads as it did. -/
def fairFairsUptoRow : OpenClaim := { program := "ytkncpbaknigamaa", sum := "4040a93f624c1ab7b78106b1ca03694dc9b7dc1410493bc601e89d6b2d612f7a", func := "hibernacle/hibernaclelaw14.FairFairs", spec := "fairFairs", apart := false, narrowed := true }
def FairFairsUptoSaid : Prop := fairFairsUptoRow.holds Try.pinned (OpenSpec.upto fairFairsSpec)

/-- 'hibernaclelaw14.FairEach', WHERE WHAT IT READS IS OF BULK AT MOST 1048576: true; the input reads as it did. -/
def fairEachUptoRow : OpenClaim := { program := "ytkncpbaknigamaa", sum := "4040a93f624c1ab7b78106b1ca03694dc9b7dc1410493bc601e89d6b2d612f7a", func := "hibernacle/hibernaclelaw14.FairEach", spec := "fairEach", unfollowed := true, recurses := true, apart := false, narrowed := true }
def FairEachUptoSaid : Prop := fairEachUptoRow.holds Try.pinned (OpenSpec.upto fairEachSpec)

/-- 'hibernaclelaw14.FairCounts', WHERE WHAT IT READS IS OF BULK AT MOST 1048576: true; the input reads as it did. -/
def fairCountsUptoRow : OpenClaim := { program := "ytkncpbaknigamaa", sum := "4040a93f624c1ab7b78106b1ca03694dc9b7dc1410493bc601e89d6b2d612f7a", func := "hibernacle/hibernaclelaw14.FairCounts", spec := "fairCounts", unfollowed := true, recurses := true, apart := false, narrowed := true }
def FairCountsUptoSaid : Prop := fairCountsUptoRow.holds Try.pinned (OpenSpec.upto fairCountsSpec)

/-- 'hibernaclelaw14.FairPieces', WHERE WHAT IT READS IS OF BULK AT MOST 1048576: true; the input reads as it did. -/
def fairPiecesUptoRow : OpenClaim := { program := "ytkncpbaknigamaa", sum := "4040a93f624c1ab7b78106b1ca03694dc9b7dc1410493bc601e89d6b2d612f7a", func := "hibernacle/hibernaclelaw14.FairPieces", spec := "fairPieces", unfollowed := true, recurses := true, apart := false, narrowed := true }
def FairPiecesUptoSaid : Prop := fairPiecesUptoRow.holds Try.pinned (OpenSpec.upto fairPiecesSpec)

/-- 'hibernaclelaw14.FairMore', WHERE WHAT IT READS IS OF BULK AT MOST 1048576: true; the input reads as it did. -/
def fairMoreUptoRow : OpenClaim := { program := "ytkncpbaknigamaa", sum := "4040a93f624c1ab7b78106b1ca03694dc9b7dc1410493bc601e89d6b2d612f7a", func := "hibernacle/hibernaclelaw14.FairMore", spec := "fairMore", unfollowed := true, recurses := true, apart := false, narrowed := true }
def FairMoreUptoSaid : Prop := fairMoreUptoRow.holds Try.pinned (OpenSpec.upto fairMoreSpec)

/-- 'hibernaclelaw14.FairTurns', WHERE WHAT IT READS IS OF BULK AT MOST 1048576: true; the input reads as it did. -/
def fairTurnsUptoRow : OpenClaim := { program := "ytkncpbaknigamaa", sum := "4040a93f624c1ab7b78106b1ca03694dc9b7dc1410493bc601e89d6b2d612f7a", func := "hibernacle/hibernaclelaw14.FairTurns", spec := "fairTurns", apart := false, narrowed := true }
def FairTurnsUptoSaid : Prop := fairTurnsUptoRow.holds Try.pinned (OpenSpec.upto fairTurnsSpec)

/-- 'hibernaclelaw14.FairRounds', WHERE WHAT IT READS IS OF BULK AT MOST 1048576: true; the input reads as it did. -/
def fairRoundsUptoRow : OpenClaim := { program := "ytkncpbaknigamaa", sum := "4040a93f624c1ab7b78106b1ca03694dc9b7dc1410493bc601e89d6b2d612f7a", func := "hibernacle/hibernaclelaw14.FairRounds", spec := "fairRounds", unfollowed := true, recurses := true, apart := false, narrowed := true }
def FairRoundsUptoSaid : Prop := fairRoundsUptoRow.holds Try.pinned (OpenSpec.upto fairRoundsSpec)

/-- 'hibernaclelaw09.LocksRows', WHERE WHAT IT READS IS OF BULK AT MOST 1048576: true; the input reads as it did. -/
def locksRowsUptoRow : OpenClaim := { program := "ytkncpbaknigamaa", sum := "4040a93f624c1ab7b78106b1ca03694dc9b7dc1410493bc601e89d6b2d612f7a", func := "hibernacle/hibernaclelaw09.LocksRows", spec := "locksRows", unfollowed := true, recurses := true, apart := false, narrowed := true }
def LocksRowsUptoSaid : Prop := locksRowsUptoRow.holds Try.pinned (OpenSpec.upto locksRowsSpec)

/-- 'hibernaclelaw09.LocksCounts', WHERE WHAT IT READS IS OF BULK AT MOST 1048576: true; the input reads as it did. -/
def locksCountsUptoRow : OpenClaim := { program := "ytkncpbaknigamaa", sum := "4040a93f624c1ab7b78106b1ca03694dc9b7dc1410493bc601e89d6b2d612f7a", func := "hibernacle/hibernaclelaw09.LocksCounts", spec := "locksCounts", unfollowed := true, recurses := true, apart := false, narrowed := true }
def LocksCountsUptoSaid : Prop := locksCountsUptoRow.holds Try.pinned (OpenSpec.upto locksCountsSpec)

/-- 'hibernaclelaw09.LocksConds', WHERE WHAT IT READS IS OF BULK AT MOST 1048576: true; the input reads as it did. -/
def locksCondsUptoRow : OpenClaim := { program := "ytkncpbaknigamaa", sum := "4040a93f624c1ab7b78106b1ca03694dc9b7dc1410493bc601e89d6b2d612f7a", func := "hibernacle/hibernaclelaw09.LocksConds", spec := "locksConds", unfollowed := true, recurses := true, apart := false, narrowed := true }
def LocksCondsUptoSaid : Prop := locksCondsUptoRow.holds Try.pinned (OpenSpec.upto locksCondsSpec)

/-- 'hibernaclelaw09.LocksPlay', WHERE WHAT IT READS IS OF BULK AT MOST 1048576: true; the input reads as it did. -/
def locksPlayUptoRow : OpenClaim := { program := "ytkncpbaknigamaa", sum := "4040a93f624c1ab7b78106b1ca03694dc9b7dc1410493bc601e89d6b2d612f7a", func := "hibernacle/hibernaclelaw09.LocksPlay", spec := "locksPlay", unfollowed := true, recurses := true, apart := false, narrowed := true }
def LocksPlayUptoSaid : Prop := locksPlayUptoRow.holds Try.pinned (OpenSpec.upto locksPlaySpec)

/-- 'hibernaclelaw09.LocksHold', WHERE WHAT IT READS IS OF BULK AT MOST 1048576: true; the input reads as it did. -/
def locksHoldUptoRow : OpenClaim := { program := "ytkncpbaknigamaa", sum := "4040a93f624c1ab7b78106b1ca03694dc9b7dc1410493bc601e89d6b2d612f7a", func := "hibernacle/hibernaclelaw09.LocksHold", spec := "locksHold", unfollowed := true, recurses := true, apart := false, narrowed := true }
def LocksHoldUptoSaid : Prop := locksHoldUptoRow.holds Try.pinned (OpenSpec.upto locksHoldSpec)

end Rows
end Go.Proofs.Ytkncpbaknigamaa
