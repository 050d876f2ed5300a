/-
  No cell of these rows narrows 'for every input' (looked for: loops, veiled, ifaces, maps, wideKeys, modest, calm, conditions, laid).
  DERIVED. THE GIVEN ROWS OF THIS SEAT. 20 by the template 'for every input the law returns true; each argument reads behind the call as it read before'; 0 by the template 'total and deterministic' (their statements: YtifapodobhkdcaaTotals.lean).
  GIVEN WITH THE SEED: the statements are not yours to turn. If you find one false, say at which input.
  Laid BY PROGRAM, IN A SANDBOX (cutbox-rows.mjs): the forced cells as the released guide's own fill.sh prints them over the translation a7db75bce03d4344… (all of the seat's roots in one cut). By AI agents, Wed Nov 11 2026. No macro, syntax, notation, axiom, sorry.
-/
import Derived.Test.YtifapodobhkdcaaChecked
import GoSem.Claim
import GoSem.ClaimJoined
import GoSem.ClaimMapViews
import Derived.JoinedTies
import Derived.KernelRfl
namespace Go.Proofs.Ytifapodobhkdcaa
/- THE CELL 'sum', in the pinned program and in every row, IS THE sha256 OF THE DUMP (.gsa) THAT YtifapodobhkdcaaProg.lean LOADS. Nothing in Lean hashes anything: it is a label: what it is worth is what the hold of that sum in a sandbox is worth. -/
noncomputable def Try.pinned : Pinned := { name := "ytifapodobhkdcaa", sum := "a7db75bce03d4344cab40076a1c0e41193941646671cedeee36fd1e622b44634", checked := Try.checked }
namespace Rows
def none {H : Type} : Left H := { results := [], args := [] }

/-- 'purlieutop.TopSets': WHATEVER THE INPUT: true; the input reads as it did. -/
def topSetsSpec : ChangeSpec := { name := "topSets", fn := fun _ => fun
  | [d1, d2, d3] => { results := [.lit (.bool true)], args := [d1, d2, d3] }
  | _ => none }
def topSetsRow : OpenClaim := { program := "ytifapodobhkdcaa", sum := "a7db75bce03d4344cab40076a1c0e41193941646671cedeee36fd1e622b44634", func := "purlieu/purlieutop.TopSets", spec := "topSets", unfollowed := true, recurses := true, apart := false }
def TopSetsSaid : Prop := topSetsRow.holds Try.pinned (OpenSpec.ofChange topSetsSpec)

/-- ITS FALSE NEIGHBOUR: 'it returns false'. Refute it at one input. -/
def topSetsWrong : ChangeSpec := { name := "topSets", fn := fun _ => fun
  | [d1, d2, d3] => { results := [.lit (.bool false)], args := [d1, d2, d3] }
  | _ => none }
def TopSetsWrongFalsely : Prop := topSetsRow.holds Try.pinned (OpenSpec.ofChange topSetsWrong)

/-- 'purlieulaw08.IterZips': WHATEVER THE INPUT: true; the input reads as it did. -/
def iterZipsSpec : ChangeSpec := { name := "iterZips", fn := fun _ => fun
  | [d] => { results := [.lit (.bool true)], args := [d] }
  | _ => none }
def iterZipsRow : OpenClaim := { program := "ytifapodobhkdcaa", sum := "a7db75bce03d4344cab40076a1c0e41193941646671cedeee36fd1e622b44634", func := "purlieu/purlieulaw08.IterZips", spec := "iterZips", apart := false }
def IterZipsSaid : Prop := iterZipsRow.holds Try.pinned (OpenSpec.ofChange iterZipsSpec)

/-- ITS FALSE NEIGHBOUR: 'it returns false'. Refute it at one input. -/
def iterZipsWrong : ChangeSpec := { name := "iterZips", fn := fun _ => fun
  | [d] => { results := [.lit (.bool false)], args := [d] }
  | _ => none }
def IterZipsWrongFalsely : Prop := iterZipsRow.holds Try.pinned (OpenSpec.ofChange iterZipsWrong)

/-- 'purlieulaw08.IterTensors': WHATEVER THE INPUT: true; the input reads as it did. -/
def iterTensorsSpec : ChangeSpec := { name := "iterTensors", fn := fun _ => fun
  | [d] => { results := [.lit (.bool true)], args := [d] }
  | _ => none }
def iterTensorsRow : OpenClaim := { program := "ytifapodobhkdcaa", sum := "a7db75bce03d4344cab40076a1c0e41193941646671cedeee36fd1e622b44634", func := "purlieu/purlieulaw08.IterTensors", spec := "iterTensors", apart := false }
def IterTensorsSaid : Prop := iterTensorsRow.holds Try.pinned (OpenSpec.ofChange iterTensorsSpec)

/-- ITS FALSE NEIGHBOUR: 'it returns false'. Refute it at one input. -/
def iterTensorsWrong : ChangeSpec := { name := "iterTensors", fn := fun _ => fun
  | [d] => { results := [.lit (.bool false)], args := [d] }
  | _ => none }
def IterTensorsWrongFalsely : Prop := iterTensorsRow.holds Try.pinned (OpenSpec.ofChange iterTensorsWrong)

/-- 'purlieulaw04.DomainSlices': WHATEVER THE INPUT: true; the input reads as it did. -/
def domainSlicesSpec : ChangeSpec := { name := "domainSlices", fn := fun _ => fun
  | [d1, d2, d3] => { results := [.lit (.bool true)], args := [d1, d2, d3] }
  | _ => none }
def domainSlicesRow : OpenClaim := { program := "ytifapodobhkdcaa", sum := "a7db75bce03d4344cab40076a1c0e41193941646671cedeee36fd1e622b44634", func := "purlieu/purlieulaw04.DomainSlices", spec := "domainSlices", apart := false }
def DomainSlicesSaid : Prop := domainSlicesRow.holds Try.pinned (OpenSpec.ofChange domainSlicesSpec)

/-- ITS FALSE NEIGHBOUR: 'it returns false'. Refute it at one input. -/
def domainSlicesWrong : ChangeSpec := { name := "domainSlices", fn := fun _ => fun
  | [d1, d2, d3] => { results := [.lit (.bool false)], args := [d1, d2, d3] }
  | _ => none }
def DomainSlicesWrongFalsely : Prop := domainSlicesRow.holds Try.pinned (OpenSpec.ofChange domainSlicesWrong)

/-- 'purlieulaw04.DomainSets': WHATEVER THE INPUT: true; the input reads as it did. -/
def domainSetsSpec : ChangeSpec := { name := "domainSets", fn := fun _ => fun
  | [d1, d2, d3] => { results := [.lit (.bool true)], args := [d1, d2, d3] }
  | _ => none }
def domainSetsRow : OpenClaim := { program := "ytifapodobhkdcaa", sum := "a7db75bce03d4344cab40076a1c0e41193941646671cedeee36fd1e622b44634", func := "purlieu/purlieulaw04.DomainSets", spec := "domainSets", unfollowed := true, recurses := true, apart := false }
def DomainSetsSaid : Prop := domainSetsRow.holds Try.pinned (OpenSpec.ofChange domainSetsSpec)

/-- ITS FALSE NEIGHBOUR: 'it returns false'. Refute it at one input. -/
def domainSetsWrong : ChangeSpec := { name := "domainSets", fn := fun _ => fun
  | [d1, d2, d3] => { results := [.lit (.bool false)], args := [d1, d2, d3] }
  | _ => none }
def DomainSetsWrongFalsely : Prop := domainSetsRow.holds Try.pinned (OpenSpec.ofChange domainSetsWrong)

/-- 'purlieutop.TopStream': WHATEVER THE INPUT: true; the input reads as it did. -/
def topStreamSpec : ChangeSpec := { name := "topStream", fn := fun _ => fun
  | [d1, d2, d3, d4, d5] => { results := [.lit (.bool true)], args := [d1, d2, d3, d4, d5] }
  | _ => none }
def topStreamRow : OpenClaim := { program := "ytifapodobhkdcaa", sum := "a7db75bce03d4344cab40076a1c0e41193941646671cedeee36fd1e622b44634", func := "purlieu/purlieutop.TopStream", spec := "topStream", unfollowed := true, recurses := true, apart := false }
def TopStreamSaid : Prop := topStreamRow.holds Try.pinned (OpenSpec.ofChange topStreamSpec)

/-- ITS FALSE NEIGHBOUR: 'it returns false'. Refute it at one input. -/
def topStreamWrong : ChangeSpec := { name := "topStream", fn := fun _ => fun
  | [d1, d2, d3, d4, d5] => { results := [.lit (.bool false)], args := [d1, d2, d3, d4, d5] }
  | _ => none }
def TopStreamWrongFalsely : Prop := topStreamRow.holds Try.pinned (OpenSpec.ofChange topStreamWrong)

/-- 'purlieulaw07.DistOwner': WHATEVER THE INPUT: true; the input reads as it did. -/
def distOwnerSpec : ChangeSpec := { name := "distOwner", fn := fun _ => fun
  | [d1, d2, d3] => { results := [.lit (.bool true)], args := [d1, d2, d3] }
  | _ => none }
def distOwnerRow : OpenClaim := { program := "ytifapodobhkdcaa", sum := "a7db75bce03d4344cab40076a1c0e41193941646671cedeee36fd1e622b44634", func := "purlieu/purlieulaw07.DistOwner", spec := "distOwner", apart := false }
def DistOwnerSaid : Prop := distOwnerRow.holds Try.pinned (OpenSpec.ofChange distOwnerSpec)

/-- ITS FALSE NEIGHBOUR: 'it returns false'. Refute it at one input. -/
def distOwnerWrong : ChangeSpec := { name := "distOwner", fn := fun _ => fun
  | [d1, d2, d3] => { results := [.lit (.bool false)], args := [d1, d2, d3] }
  | _ => none }
def DistOwnerWrongFalsely : Prop := distOwnerRow.holds Try.pinned (OpenSpec.ofChange distOwnerWrong)

/-- 'purlieulaw07.DistEven': WHATEVER THE INPUT: true; the input reads as it did. -/
def distEvenSpec : ChangeSpec := { name := "distEven", fn := fun _ => fun
  | [d1, d2, d3] => { results := [.lit (.bool true)], args := [d1, d2, d3] }
  | _ => none }
def distEvenRow : OpenClaim := { program := "ytifapodobhkdcaa", sum := "a7db75bce03d4344cab40076a1c0e41193941646671cedeee36fd1e622b44634", func := "purlieu/purlieulaw07.DistEven", spec := "distEven", apart := false }
def DistEvenSaid : Prop := distEvenRow.holds Try.pinned (OpenSpec.ofChange distEvenSpec)

/-- ITS FALSE NEIGHBOUR: 'it returns false'. Refute it at one input. -/
def distEvenWrong : ChangeSpec := { name := "distEven", fn := fun _ => fun
  | [d1, d2, d3] => { results := [.lit (.bool false)], args := [d1, d2, d3] }
  | _ => none }
def DistEvenWrongFalsely : Prop := distEvenRow.holds Try.pinned (OpenSpec.ofChange distEvenWrong)

/-- 'purlieulaw07.DistLocals': WHATEVER THE INPUT: true; the input reads as it did. -/
def distLocalsSpec : ChangeSpec := { name := "distLocals", fn := fun _ => fun
  | [d1, d2, d3, d4] => { results := [.lit (.bool true)], args := [d1, d2, d3, d4] }
  | _ => none }
def distLocalsRow : OpenClaim := { program := "ytifapodobhkdcaa", sum := "a7db75bce03d4344cab40076a1c0e41193941646671cedeee36fd1e622b44634", func := "purlieu/purlieulaw07.DistLocals", spec := "distLocals", apart := false }
def DistLocalsSaid : Prop := distLocalsRow.holds Try.pinned (OpenSpec.ofChange distLocalsSpec)

/-- ITS FALSE NEIGHBOUR: 'it returns false'. Refute it at one input. -/
def distLocalsWrong : ChangeSpec := { name := "distLocals", fn := fun _ => fun
  | [d1, d2, d3, d4] => { results := [.lit (.bool false)], args := [d1, d2, d3, d4] }
  | _ => none }
def DistLocalsWrongFalsely : Prop := distLocalsRow.holds Try.pinned (OpenSpec.ofChange distLocalsWrong)

/-- 'purlieulaw07.DistTurned': WHATEVER THE INPUT: true; the input reads as it did. -/
def distTurnedSpec : ChangeSpec := { name := "distTurned", fn := fun _ => fun
  | [d1, d2] => { results := [.lit (.bool true)], args := [d1, d2] }
  | _ => none }
def distTurnedRow : OpenClaim := { program := "ytifapodobhkdcaa", sum := "a7db75bce03d4344cab40076a1c0e41193941646671cedeee36fd1e622b44634", func := "purlieu/purlieulaw07.DistTurned", spec := "distTurned", apart := false }
def DistTurnedSaid : Prop := distTurnedRow.holds Try.pinned (OpenSpec.ofChange distTurnedSpec)

/-- ITS FALSE NEIGHBOUR: 'it returns false'. Refute it at one input. -/
def distTurnedWrong : ChangeSpec := { name := "distTurned", fn := fun _ => fun
  | [d1, d2] => { results := [.lit (.bool false)], args := [d1, d2] }
  | _ => none }
def DistTurnedWrongFalsely : Prop := distTurnedRow.holds Try.pinned (OpenSpec.ofChange distTurnedWrong)

/-- 'purlieulaw07.DistMoves': WHATEVER THE INPUT: true; the input reads as it did. -/
def distMovesSpec : ChangeSpec := { name := "distMoves", fn := fun _ => fun
  | [d1, d2] => { results := [.lit (.bool true)], args := [d1, d2] }
  | _ => none }
def distMovesRow : OpenClaim := { program := "ytifapodobhkdcaa", sum := "a7db75bce03d4344cab40076a1c0e41193941646671cedeee36fd1e622b44634", func := "purlieu/purlieulaw07.DistMoves", spec := "distMoves", apart := false }
def DistMovesSaid : Prop := distMovesRow.holds Try.pinned (OpenSpec.ofChange distMovesSpec)

/-- ITS FALSE NEIGHBOUR: 'it returns false'. Refute it at one input. -/
def distMovesWrong : ChangeSpec := { name := "distMoves", fn := fun _ => fun
  | [d1, d2] => { results := [.lit (.bool false)], args := [d1, d2] }
  | _ => none }
def DistMovesWrongFalsely : Prop := distMovesRow.holds Try.pinned (OpenSpec.ofChange distMovesWrong)

/-- 'purlieulaw07.DistPartition': WHATEVER THE INPUT: true; the input reads as it did. -/
def distPartitionSpec : ChangeSpec := { name := "distPartition", fn := fun _ => fun
  | [d1, d2] => { results := [.lit (.bool true)], args := [d1, d2] }
  | _ => none }
def distPartitionRow : OpenClaim := { program := "ytifapodobhkdcaa", sum := "a7db75bce03d4344cab40076a1c0e41193941646671cedeee36fd1e622b44634", func := "purlieu/purlieulaw07.DistPartition", spec := "distPartition", apart := false }
def DistPartitionSaid : Prop := distPartitionRow.holds Try.pinned (OpenSpec.ofChange distPartitionSpec)

/-- ITS FALSE NEIGHBOUR: 'it returns false'. Refute it at one input. -/
def distPartitionWrong : ChangeSpec := { name := "distPartition", fn := fun _ => fun
  | [d1, d2] => { results := [.lit (.bool false)], args := [d1, d2] }
  | _ => none }
def DistPartitionWrongFalsely : Prop := distPartitionRow.holds Try.pinned (OpenSpec.ofChange distPartitionWrong)

/-- 'purlieulaw07.DistBeside': WHATEVER THE INPUT: true; the input reads as it did. -/
def distBesideSpec : ChangeSpec := { name := "distBeside", fn := fun _ => fun
  | [d1, d2, d3, d4] => { results := [.lit (.bool true)], args := [d1, d2, d3, d4] }
  | _ => none }
def distBesideRow : OpenClaim := { program := "ytifapodobhkdcaa", sum := "a7db75bce03d4344cab40076a1c0e41193941646671cedeee36fd1e622b44634", func := "purlieu/purlieulaw07.DistBeside", spec := "distBeside", unfollowed := true, recurses := true, apart := false }
def DistBesideSaid : Prop := distBesideRow.holds Try.pinned (OpenSpec.ofChange distBesideSpec)

/-- ITS FALSE NEIGHBOUR: 'it returns false'. Refute it at one input. -/
def distBesideWrong : ChangeSpec := { name := "distBeside", fn := fun _ => fun
  | [d1, d2, d3, d4] => { results := [.lit (.bool false)], args := [d1, d2, d3, d4] }
  | _ => none }
def DistBesideWrongFalsely : Prop := distBesideRow.holds Try.pinned (OpenSpec.ofChange distBesideWrong)

/-- 'purlieulaw07.DistPieces': WHATEVER THE INPUT: true; the input reads as it did. -/
def distPiecesSpec : ChangeSpec := { name := "distPieces", fn := fun _ => fun
  | [d1, d2, d3] => { results := [.lit (.bool true)], args := [d1, d2, d3] }
  | _ => none }
def distPiecesRow : OpenClaim := { program := "ytifapodobhkdcaa", sum := "a7db75bce03d4344cab40076a1c0e41193941646671cedeee36fd1e622b44634", func := "purlieu/purlieulaw07.DistPieces", spec := "distPieces", unfollowed := true, recurses := true, apart := false }
def DistPiecesSaid : Prop := distPiecesRow.holds Try.pinned (OpenSpec.ofChange distPiecesSpec)

/-- ITS FALSE NEIGHBOUR: 'it returns false'. Refute it at one input. -/
def distPiecesWrong : ChangeSpec := { name := "distPieces", fn := fun _ => fun
  | [d1, d2, d3] => { results := [.lit (.bool false)], args := [d1, d2, d3] }
  | _ => none }
def DistPiecesWrongFalsely : Prop := distPiecesRow.holds Try.pinned (OpenSpec.ofChange distPiecesWrong)

/-- 'purlieulaw07.DistHalos': WHATEVER THE INPUT: true; the input reads as it did. -/
def distHalosSpec : ChangeSpec := { name := "distHalos", fn := fun _ => fun
  | [d1, d2, d3, d4] => { results := [.lit (.bool true)], args := [d1, d2, d3, d4] }
  | _ => none }
def distHalosRow : OpenClaim := { program := "ytifapodobhkdcaa", sum := "a7db75bce03d4344cab40076a1c0e41193941646671cedeee36fd1e622b44634", func := "purlieu/purlieulaw07.DistHalos", spec := "distHalos", unfollowed := true, recurses := true, apart := false }
def DistHalosSaid : Prop := distHalosRow.holds Try.pinned (OpenSpec.ofChange distHalosSpec)

/-- ITS FALSE NEIGHBOUR: 'it returns false'. Refute it at one input. -/
def distHalosWrong : ChangeSpec := { name := "distHalos", fn := fun _ => fun
  | [d1, d2, d3, d4] => { results := [.lit (.bool false)], args := [d1, d2, d3, d4] }
  | _ => none }
def DistHalosWrongFalsely : Prop := distHalosRow.holds Try.pinned (OpenSpec.ofChange distHalosWrong)

/-- 'purlieulaw08.IterLeaders': WHATEVER THE INPUT: true; the input reads as it did. -/
def iterLeadersSpec : ChangeSpec := { name := "iterLeaders", fn := fun _ => fun
  | [d1, d2, d3] => { results := [.lit (.bool true)], args := [d1, d2, d3] }
  | _ => none }
def iterLeadersRow : OpenClaim := { program := "ytifapodobhkdcaa", sum := "a7db75bce03d4344cab40076a1c0e41193941646671cedeee36fd1e622b44634", func := "purlieu/purlieulaw08.IterLeaders", spec := "iterLeaders", unfollowed := true, recurses := true, apart := false }
def IterLeadersSaid : Prop := iterLeadersRow.holds Try.pinned (OpenSpec.ofChange iterLeadersSpec)

/-- ITS FALSE NEIGHBOUR: 'it returns false'. Refute it at one input. -/
def iterLeadersWrong : ChangeSpec := { name := "iterLeaders", fn := fun _ => fun
  | [d1, d2, d3] => { results := [.lit (.bool false)], args := [d1, d2, d3] }
  | _ => none }
def IterLeadersWrongFalsely : Prop := iterLeadersRow.holds Try.pinned (OpenSpec.ofChange iterLeadersWrong)

/-- 'purlieulaw25.StreamFills': WHATEVER THE INPUT: true; the input reads as it did. -/
def streamFillsSpec : ChangeSpec := { name := "streamFills", fn := fun _ => fun
  | [d1, d2, d3, d4] => { results := [.lit (.bool true)], args := [d1, d2, d3, d4] }
  | _ => none }
def streamFillsRow : OpenClaim := { program := "ytifapodobhkdcaa", sum := "a7db75bce03d4344cab40076a1c0e41193941646671cedeee36fd1e622b44634", func := "purlieu/purlieulaw25.StreamFills", spec := "streamFills", unfollowed := true, recurses := true, apart := false }
def StreamFillsSaid : Prop := streamFillsRow.holds Try.pinned (OpenSpec.ofChange streamFillsSpec)

/-- ITS FALSE NEIGHBOUR: 'it returns false'. Refute it at one input. -/
def streamFillsWrong : ChangeSpec := { name := "streamFills", fn := fun _ => fun
  | [d1, d2, d3, d4] => { results := [.lit (.bool false)], args := [d1, d2, d3, d4] }
  | _ => none }
def StreamFillsWrongFalsely : Prop := streamFillsRow.holds Try.pinned (OpenSpec.ofChange streamFillsWrong)

/-- 'purlieulaw25.StreamSpread': WHATEVER THE INPUT: true; the input reads as it did. -/
def streamSpreadSpec : ChangeSpec := { name := "streamSpread", fn := fun _ => fun
  | [d1, d2, d3, d4] => { results := [.lit (.bool true)], args := [d1, d2, d3, d4] }
  | _ => none }
def streamSpreadRow : OpenClaim := { program := "ytifapodobhkdcaa", sum := "a7db75bce03d4344cab40076a1c0e41193941646671cedeee36fd1e622b44634", func := "purlieu/purlieulaw25.StreamSpread", spec := "streamSpread", unfollowed := true, recurses := true, apart := false }
def StreamSpreadSaid : Prop := streamSpreadRow.holds Try.pinned (OpenSpec.ofChange streamSpreadSpec)

/-- ITS FALSE NEIGHBOUR: 'it returns false'. Refute it at one input. -/
def streamSpreadWrong : ChangeSpec := { name := "streamSpread", fn := fun _ => fun
  | [d1, d2, d3, d4] => { results := [.lit (.bool false)], args := [d1, d2, d3, d4] }
  | _ => none }
def StreamSpreadWrongFalsely : Prop := streamSpreadRow.holds Try.pinned (OpenSpec.ofChange streamSpreadWrong)

/-- 'purlieulaw08.IterPairs': WHATEVER THE INPUT: true; the input reads as it did. -/
def iterPairsSpec : ChangeSpec := { name := "iterPairs", fn := fun _ => fun
  | [d1, d2, d3] => { results := [.lit (.bool true)], args := [d1, d2, d3] }
  | _ => none }
def iterPairsRow : OpenClaim := { program := "ytifapodobhkdcaa", sum := "a7db75bce03d4344cab40076a1c0e41193941646671cedeee36fd1e622b44634", func := "purlieu/purlieulaw08.IterPairs", spec := "iterPairs", unfollowed := true, recurses := true, apart := false }
def IterPairsSaid : Prop := iterPairsRow.holds Try.pinned (OpenSpec.ofChange iterPairsSpec)

/-- ITS FALSE NEIGHBOUR: 'it returns false'. Refute it at one input. -/
def iterPairsWrong : ChangeSpec := { name := "iterPairs", fn := fun _ => fun
  | [d1, d2, d3] => { results := [.lit (.bool false)], args := [d1, d2, d3] }
  | _ => none }
def IterPairsWrongFalsely : Prop := iterPairsRow.holds Try.pinned (OpenSpec.ofChange iterPairsWrong)

/-- 'purlieutop.TopPartition': WHATEVER THE INPUT: true; the input reads as it did. -/
def topPartitionSpec : ChangeSpec := { name := "topPartition", fn := fun _ => fun
  | [d1, d2, d3] => { results := [.lit (.bool true)], args := [d1, d2, d3] }
  | _ => none }
def topPartitionRow : OpenClaim := { program := "ytifapodobhkdcaa", sum := "a7db75bce03d4344cab40076a1c0e41193941646671cedeee36fd1e622b44634", func := "purlieu/purlieutop.TopPartition", spec := "topPartition", unfollowed := true, recurses := true, apart := false }
def TopPartitionSaid : Prop := topPartitionRow.holds Try.pinned (OpenSpec.ofChange topPartitionSpec)

/-- ITS FALSE NEIGHBOUR: 'it returns false'. Refute it at one input. -/
def topPartitionWrong : ChangeSpec := { name := "topPartition", fn := fun _ => fun
  | [d1, d2, d3] => { results := [.lit (.bool false)], args := [d1, d2, d3] }
  | _ => none }
def TopPartitionWrongFalsely : Prop := topPartitionRow.holds Try.pinned (OpenSpec.ofChange topPartitionWrong)

/- THE SECOND FORM. 'bulk': how many values and letters a reading holds, each counted each time it is reached (what is shared counts as often as it is met; a slice's spare places count too). A statement '..UptoSaid' is the law's where the arguments, and the package variables that the reading takes, are together of bulk at most 1048576: NARROWER than '..Said'. Prove '..Said' where nothing that the law and all that it calls make is longer than what came in: it says more and counts as full. Else prove '..UptoSaid'. A law counts once. -/
mutual
def uptoBulk {H : Type} : DataW H → Nat
  | .lit (.string bytes) => bytes.length + 1
  | .lit _ => 1
  | .nil => 1
  | .ptr d => uptoBulk d + 1
  | .slice elems spare => uptoBulkAll elems + uptoBulkAll spare + 1
  | .agg parts => uptoBulkAll parts + 1
  | .iface _ d => uptoBulk d + 1
  | .map entries => uptoBulkEntries entries + 1
  | .held _ => 1
def uptoBulkAll {H : Type} : List (DataW H) → Nat
  | [] => 0
  | d :: r => uptoBulk d + uptoBulkAll r
def uptoBulkEntries {H : Type} : List (Lit × DataW H) → Nat
  | [] => 0
  | x :: r => uptoBulkEntry x + uptoBulkEntries r
def uptoBulkEntry {H : Type} : Lit × DataW H → Nat
  | (.string bytes, d) => bytes.length + uptoBulk d + 1
  | (_, d) => uptoBulk d + 1
 end
def uptoSmall : (H : Type) → List (DataW H) → Bool := fun _ ds => decide (uptoBulkAll ds ≤ 1048576)
def OpenSpec.upto (s : _root_.Go.ChangeSpec) : _root_.Go.OpenSpec := { _root_.Go.OpenSpec.ofChange s with cond := some uptoSmall }

/-- 'purlieutop.TopSets', WHERE WHAT IT READS IS OF BULK AT MOST 1048576: true; the input reads as it did. -/
def topSetsUptoRow : OpenClaim := { program := "ytifapodobhkdcaa", sum := "a7db75bce03d4344cab40076a1c0e41193941646671cedeee36fd1e622b44634", func := "purlieu/purlieutop.TopSets", spec := "topSets", unfollowed := true, recurses := true, apart := false, narrowed := true }
def TopSetsUptoSaid : Prop := topSetsUptoRow.holds Try.pinned (OpenSpec.upto topSetsSpec)

/-- 'purlieulaw08.IterZips', WHERE WHAT IT READS IS OF BULK AT MOST 1048576: true; the input reads as it did. -/
def iterZipsUptoRow : OpenClaim := { program := "ytifapodobhkdcaa", sum := "a7db75bce03d4344cab40076a1c0e41193941646671cedeee36fd1e622b44634", func := "purlieu/purlieulaw08.IterZips", spec := "iterZips", apart := false, narrowed := true }
def IterZipsUptoSaid : Prop := iterZipsUptoRow.holds Try.pinned (OpenSpec.upto iterZipsSpec)

/-- 'purlieulaw08.IterTensors', WHERE WHAT IT READS IS OF BULK AT MOST 1048576: true; the input reads as it did. -/
def iterTensorsUptoRow : OpenClaim := { program := "ytifapodobhkdcaa", sum := "a7db75bce03d4344cab40076a1c0e41193941646671cedeee36fd1e622b44634", func := "purlieu/purlieulaw08.IterTensors", spec := "iterTensors", apart := false, narrowed := true }
def IterTensorsUptoSaid : Prop := iterTensorsUptoRow.holds Try.pinned (OpenSpec.upto iterTensorsSpec)

/-- 'purlieulaw04.DomainSlices', WHERE WHAT IT READS IS OF BULK AT MOST 1048576: true; the input reads as it did. -/
def domainSlicesUptoRow : OpenClaim := { program := "ytifapodobhkdcaa", sum := "a7db75bce03d4344cab40076a1c0e41193941646671cedeee36fd1e622b44634", func := "purlieu/purlieulaw04.DomainSlices", spec := "domainSlices", apart := false, narrowed := true }
def DomainSlicesUptoSaid : Prop := domainSlicesUptoRow.holds Try.pinned (OpenSpec.upto domainSlicesSpec)

/-- 'purlieulaw04.DomainSets', WHERE WHAT IT READS IS OF BULK AT MOST 1048576: true; the input reads as it did. -/
def domainSetsUptoRow : OpenClaim := { program := "ytifapodobhkdcaa", sum := "a7db75bce03d4344cab40076a1c0e41193941646671cedeee36fd1e622b44634", func := "purlieu/purlieulaw04.DomainSets", spec := "domainSets", unfollowed := true, recurses := true, apart := false, narrowed := true }
def DomainSetsUptoSaid : Prop := domainSetsUptoRow.holds Try.pinned (OpenSpec.upto domainSetsSpec)

/-- 'purlieutop.TopStream', WHERE WHAT IT READS IS OF BULK AT MOST 1048576: true; the input reads as it did. -/
def topStreamUptoRow : OpenClaim := { program := "ytifapodobhkdcaa", sum := "a7db75bce03d4344cab40076a1c0e41193941646671cedeee36fd1e622b44634", func := "purlieu/purlieutop.TopStream", spec := "topStream", unfollowed := true, recurses := true, apart := false, narrowed := true }
def TopStreamUptoSaid : Prop := topStreamUptoRow.holds Try.pinned (OpenSpec.upto topStreamSpec)

/-- 'purlieulaw07.DistOwner', WHERE WHAT IT READS IS OF BULK AT MOST 1048576: true; the input reads as it did. -/
def distOwnerUptoRow : OpenClaim := { program := "ytifapodobhkdcaa", sum := "a7db75bce03d4344cab40076a1c0e41193941646671cedeee36fd1e622b44634", func := "purlieu/purlieulaw07.DistOwner", spec := "distOwner", apart := false, narrowed := true }
def DistOwnerUptoSaid : Prop := distOwnerUptoRow.holds Try.pinned (OpenSpec.upto distOwnerSpec)

/-- 'purlieulaw07.DistEven', WHERE WHAT IT READS IS OF BULK AT MOST 1048576: true; the input reads as it did. -/
def distEvenUptoRow : OpenClaim := { program := "ytifapodobhkdcaa", sum := "a7db75bce03d4344cab40076a1c0e41193941646671cedeee36fd1e622b44634", func := "purlieu/purlieulaw07.DistEven", spec := "distEven", apart := false, narrowed := true }
def DistEvenUptoSaid : Prop := distEvenUptoRow.holds Try.pinned (OpenSpec.upto distEvenSpec)

/-- 'purlieulaw07.DistLocals', WHERE WHAT IT READS IS OF BULK AT MOST 1048576: true; the input reads as it did. -/
def distLocalsUptoRow : OpenClaim := { program := "ytifapodobhkdcaa", sum := "a7db75bce03d4344cab40076a1c0e41193941646671cedeee36fd1e622b44634", func := "purlieu/purlieulaw07.DistLocals", spec := "distLocals", apart := false, narrowed := true }
def DistLocalsUptoSaid : Prop := distLocalsUptoRow.holds Try.pinned (OpenSpec.upto distLocalsSpec)

/-- 'purlieulaw07.DistTurned', WHERE WHAT IT READS IS OF BULK AT MOST 1048576: true; the input reads as it did. -/
def distTurnedUptoRow : OpenClaim := { program := "ytifapodobhkdcaa", sum := "a7db75bce03d4344cab40076a1c0e41193941646671cedeee36fd1e622b44634", func := "purlieu/purlieulaw07.DistTurned", spec := "distTurned", apart := false, narrowed := true }
def DistTurnedUptoSaid : Prop := distTurnedUptoRow.holds Try.pinned (OpenSpec.upto distTurnedSpec)

/-- 'purlieulaw07.DistMoves', WHERE WHAT IT READS IS OF BULK AT MOST 1048576: true; the input reads as it did. -/
def distMovesUptoRow : OpenClaim := { program := "ytifapodobhkdcaa", sum := "a7db75bce03d4344cab40076a1c0e41193941646671cedeee36fd1e622b44634", func := "purlieu/purlieulaw07.DistMoves", spec := "distMoves", apart := false, narrowed := true }
def DistMovesUptoSaid : Prop := distMovesUptoRow.holds Try.pinned (OpenSpec.upto distMovesSpec)

/-- 'purlieulaw07.DistPartition', WHERE WHAT IT READS IS OF BULK AT MOST 1048576: true; the input reads as it did. -/
def distPartitionUptoRow : OpenClaim := { program := "ytifapodobhkdcaa", sum := "a7db75bce03d4344cab40076a1c0e41193941646671cedeee36fd1e622b44634", func := "purlieu/purlieulaw07.DistPartition", spec := "distPartition", apart := false, narrowed := true }
def DistPartitionUptoSaid : Prop := distPartitionUptoRow.holds Try.pinned (OpenSpec.upto distPartitionSpec)

/-- 'purlieulaw07.DistBeside', WHERE WHAT IT READS IS OF BULK AT MOST 1048576: true; the input reads as it did. -/
def distBesideUptoRow : OpenClaim := { program := "ytifapodobhkdcaa", sum := "a7db75bce03d4344cab40076a1c0e41193941646671cedeee36fd1e622b44634", func := "purlieu/purlieulaw07.DistBeside", spec := "distBeside", unfollowed := true, recurses := true, apart := false, narrowed := true }
def DistBesideUptoSaid : Prop := distBesideUptoRow.holds Try.pinned (OpenSpec.upto distBesideSpec)

/-- 'purlieulaw07.DistPieces', WHERE WHAT IT READS IS OF BULK AT MOST 1048576: true; the input reads as it did. -/
def distPiecesUptoRow : OpenClaim := { program := "ytifapodobhkdcaa", sum := "a7db75bce03d4344cab40076a1c0e41193941646671cedeee36fd1e622b44634", func := "purlieu/purlieulaw07.DistPieces", spec := "distPieces", unfollowed := true, recurses := true, apart := false, narrowed := true }
def DistPiecesUptoSaid : Prop := distPiecesUptoRow.holds Try.pinned (OpenSpec.upto distPiecesSpec)

/-- 'purlieulaw07.DistHalos', WHERE WHAT IT READS IS OF BULK AT MOST 1048576: true; the input reads as it did. -/
def distHalosUptoRow : OpenClaim := { program := "ytifapodobhkdcaa", sum := "a7db75bce03d4344cab40076a1c0e41193941646671cedeee36fd1e622b44634", func := "purlieu/purlieulaw07.DistHalos", spec := "distHalos", unfollowed := true, recurses := true, apart := false, narrowed := true }
def DistHalosUptoSaid : Prop := distHalosUptoRow.holds Try.pinned (OpenSpec.upto distHalosSpec)

/-- 'purlieulaw08.IterLeaders', WHERE WHAT IT READS IS OF BULK AT MOST 1048576: true; the input reads as it did. -/
def iterLeadersUptoRow : OpenClaim := { program := "ytifapodobhkdcaa", sum := "a7db75bce03d4344cab40076a1c0e41193941646671cedeee36fd1e622b44634", func := "purlieu/purlieulaw08.IterLeaders", spec := "iterLeaders", unfollowed := true, recurses := true, apart := false, narrowed := true }
def IterLeadersUptoSaid : Prop := iterLeadersUptoRow.holds Try.pinned (OpenSpec.upto iterLeadersSpec)

/-- 'purlieulaw25.StreamFills', WHERE WHAT IT READS IS OF BULK AT MOST 1048576: true; the input reads as it did. -/
def streamFillsUptoRow : OpenClaim := { program := "ytifapodobhkdcaa", sum := "a7db75bce03d4344cab40076a1c0e41193941646671cedeee36fd1e622b44634", func := "purlieu/purlieulaw25.StreamFills", spec := "streamFills", unfollowed := true, recurses := true, apart := false, narrowed := true }
def StreamFillsUptoSaid : Prop := streamFillsUptoRow.holds Try.pinned (OpenSpec.upto streamFillsSpec)

/-- 'purlieulaw25.StreamSpread', WHERE WHAT IT READS IS OF BULK AT MOST 1048576: true; the input reads as it did. -/
def streamSpreadUptoRow : OpenClaim := { program := "ytifapodobhkdcaa", sum := "a7db75bce03d4344cab40076a1c0e41193941646671cedeee36fd1e622b44634", func := "purlieu/purlieulaw25.StreamSpread", spec := "streamSpread", unfollowed := true, recurses := true, apart := false, narrowed := true }
def StreamSpreadUptoSaid : Prop := streamSpreadUptoRow.holds Try.pinned (OpenSpec.upto streamSpreadSpec)

/-- 'purlieulaw08.IterPairs', WHERE WHAT IT READS IS OF BULK AT MOST 1048576: true; the input reads as it did. -/
def iterPairsUptoRow : OpenClaim := { program := "ytifapodobhkdcaa", sum := "a7db75bce03d4344cab40076a1c0e41193941646671cedeee36fd1e622b44634", func := "purlieu/purlieulaw08.IterPairs", spec := "iterPairs", unfollowed := true, recurses := true, apart := false, narrowed := true }
def IterPairsUptoSaid : Prop := iterPairsUptoRow.holds Try.pinned (OpenSpec.upto iterPairsSpec)

/-- 'purlieutop.TopPartition', WHERE WHAT IT READS IS OF BULK AT MOST 1048576: true; the input reads as it did. -/
def topPartitionUptoRow : OpenClaim := { program := "ytifapodobhkdcaa", sum := "a7db75bce03d4344cab40076a1c0e41193941646671cedeee36fd1e622b44634", func := "purlieu/purlieutop.TopPartition", spec := "topPartition", unfollowed := true, recurses := true, apart := false, narrowed := true }
def TopPartitionUptoSaid : Prop := topPartitionUptoRow.holds Try.pinned (OpenSpec.upto topPartitionSpec)

end Rows
end Go.Proofs.Ytifapodobhkdcaa
