/-
  No cell of these rows narrows 'for every input' (looked for: loops, veiled, ifaces, maps, wideKeys, modest, calm, conditions, laid).
  DERIVED. THE GIVEN ROWS OF THIS SEAT. 11 by the template 'for every input the law returns true; each argument reads behind the call as it read before'; 0 by the template 'total and deterministic' (their statements: YtfkojkciobdeoaaTotals.lean).
  GIVEN WITH THE SEED: the statements are not yours to turn. If you find one false, say at which input.
  Laid BY PROGRAM, IN A SANDBOX (cutbox-rows.mjs): the forced cells as the released guide's own fill.sh prints them over the translation 1c9e5322c98b8268… (all of the seat's roots in one cut). By AI agents, Wed Nov 11 2026. No macro, syntax, notation, axiom, sorry.
-/
import Derived.Test.YtfkojkciobdeoaaChecked
import GoSem.Claim
import GoSem.ClaimJoined
import GoSem.ClaimMapViews
import Derived.JoinedTies
import Derived.KernelRfl
namespace Go.Proofs.Ytfkojkciobdeoaa
/- THE CELL 'sum', in the pinned program and in every row, IS THE sha256 OF THE DUMP (.gsa) THAT YtfkojkciobdeoaaProg.lean LOADS. Nothing in Lean hashes anything: it is a label: what it is worth is what the hold of that sum in a sandbox is worth. -/
noncomputable def Try.pinned : Pinned := { name := "ytfkojkciobdeoaa", sum := "1c9e5322c98b826891b5714a124dc1b8ef5178d4393e14d665b5e287daa8a90d", checked := Try.checked }
namespace Rows
def none {H : Type} : Left H := { results := [], args := [] }

/-- 'purlieutop.TopSets': WHATEVER THE INPUT: true; the input reads as it did. -/
def topSetsSpec : ChangeSpec := { name := "topSets", fn := fun _ => fun
  | [d1, d2, d3] => { results := [.lit (.bool true)], args := [d1, d2, d3] }
  | _ => none }
def topSetsRow : OpenClaim := { program := "ytfkojkciobdeoaa", sum := "1c9e5322c98b826891b5714a124dc1b8ef5178d4393e14d665b5e287daa8a90d", func := "purlieu/purlieutop.TopSets", spec := "topSets", unfollowed := true, recurses := true, apart := false }
def TopSetsSaid : Prop := topSetsRow.holds Try.pinned (OpenSpec.ofChange topSetsSpec)

/-- ITS FALSE NEIGHBOUR: 'it returns false'. Refute it at one input. -/
def topSetsWrong : ChangeSpec := { name := "topSets", fn := fun _ => fun
  | [d1, d2, d3] => { results := [.lit (.bool false)], args := [d1, d2, d3] }
  | _ => none }
def TopSetsWrongFalsely : Prop := topSetsRow.holds Try.pinned (OpenSpec.ofChange topSetsWrong)

/-- 'purlieulaw04.DomainPlaces': WHATEVER THE INPUT: true; the input reads as it did. -/
def domainPlacesSpec : ChangeSpec := { name := "domainPlaces", fn := fun _ => fun
  | [d1, d2, d3] => { results := [.lit (.bool true)], args := [d1, d2, d3] }
  | _ => none }
def domainPlacesRow : OpenClaim := { program := "ytfkojkciobdeoaa", sum := "1c9e5322c98b826891b5714a124dc1b8ef5178d4393e14d665b5e287daa8a90d", func := "purlieu/purlieulaw04.DomainPlaces", spec := "domainPlaces", apart := false }
def DomainPlacesSaid : Prop := domainPlacesRow.holds Try.pinned (OpenSpec.ofChange domainPlacesSpec)

/-- ITS FALSE NEIGHBOUR: 'it returns false'. Refute it at one input. -/
def domainPlacesWrong : ChangeSpec := { name := "domainPlaces", fn := fun _ => fun
  | [d1, d2, d3] => { results := [.lit (.bool false)], args := [d1, d2, d3] }
  | _ => none }
def DomainPlacesWrongFalsely : Prop := domainPlacesRow.holds Try.pinned (OpenSpec.ofChange domainPlacesWrong)

/-- 'purlieulaw08.IterZips': WHATEVER THE INPUT: true; the input reads as it did. -/
def iterZipsSpec : ChangeSpec := { name := "iterZips", fn := fun _ => fun
  | [d] => { results := [.lit (.bool true)], args := [d] }
  | _ => none }
def iterZipsRow : OpenClaim := { program := "ytfkojkciobdeoaa", sum := "1c9e5322c98b826891b5714a124dc1b8ef5178d4393e14d665b5e287daa8a90d", func := "purlieu/purlieulaw08.IterZips", spec := "iterZips", apart := false }
def IterZipsSaid : Prop := iterZipsRow.holds Try.pinned (OpenSpec.ofChange iterZipsSpec)

/-- ITS FALSE NEIGHBOUR: 'it returns false'. Refute it at one input. -/
def iterZipsWrong : ChangeSpec := { name := "iterZips", fn := fun _ => fun
  | [d] => { results := [.lit (.bool false)], args := [d] }
  | _ => none }
def IterZipsWrongFalsely : Prop := iterZipsRow.holds Try.pinned (OpenSpec.ofChange iterZipsWrong)

/-- 'purlieulaw04.DomainKinds': WHATEVER THE INPUT: true; the input reads as it did. -/
def domainKindsSpec : ChangeSpec := { name := "domainKinds", fn := fun _ => fun
  | [d] => { results := [.lit (.bool true)], args := [d] }
  | _ => none }
def domainKindsRow : OpenClaim := { program := "ytfkojkciobdeoaa", sum := "1c9e5322c98b826891b5714a124dc1b8ef5178d4393e14d665b5e287daa8a90d", func := "purlieu/purlieulaw04.DomainKinds", spec := "domainKinds", apart := false }
def DomainKindsSaid : Prop := domainKindsRow.holds Try.pinned (OpenSpec.ofChange domainKindsSpec)

/-- ITS FALSE NEIGHBOUR: 'it returns false'. Refute it at one input. -/
def domainKindsWrong : ChangeSpec := { name := "domainKinds", fn := fun _ => fun
  | [d] => { results := [.lit (.bool false)], args := [d] }
  | _ => none }
def DomainKindsWrongFalsely : Prop := domainKindsRow.holds Try.pinned (OpenSpec.ofChange domainKindsWrong)

/-- 'purlieulaw08.IterSerial': WHATEVER THE INPUT: true; the input reads as it did. -/
def iterSerialSpec : ChangeSpec := { name := "iterSerial", fn := fun _ => fun
  | [d1, d2, d3] => { results := [.lit (.bool true)], args := [d1, d2, d3] }
  | _ => none }
def iterSerialRow : OpenClaim := { program := "ytfkojkciobdeoaa", sum := "1c9e5322c98b826891b5714a124dc1b8ef5178d4393e14d665b5e287daa8a90d", func := "purlieu/purlieulaw08.IterSerial", spec := "iterSerial", apart := false }
def IterSerialSaid : Prop := iterSerialRow.holds Try.pinned (OpenSpec.ofChange iterSerialSpec)

/-- ITS FALSE NEIGHBOUR: 'it returns false'. Refute it at one input. -/
def iterSerialWrong : ChangeSpec := { name := "iterSerial", fn := fun _ => fun
  | [d1, d2, d3] => { results := [.lit (.bool false)], args := [d1, d2, d3] }
  | _ => none }
def IterSerialWrongFalsely : Prop := iterSerialRow.holds Try.pinned (OpenSpec.ofChange iterSerialWrong)

/-- 'purlieulaw08.IterTensors': WHATEVER THE INPUT: true; the input reads as it did. -/
def iterTensorsSpec : ChangeSpec := { name := "iterTensors", fn := fun _ => fun
  | [d] => { results := [.lit (.bool true)], args := [d] }
  | _ => none }
def iterTensorsRow : OpenClaim := { program := "ytfkojkciobdeoaa", sum := "1c9e5322c98b826891b5714a124dc1b8ef5178d4393e14d665b5e287daa8a90d", func := "purlieu/purlieulaw08.IterTensors", spec := "iterTensors", apart := false }
def IterTensorsSaid : Prop := iterTensorsRow.holds Try.pinned (OpenSpec.ofChange iterTensorsSpec)

/-- ITS FALSE NEIGHBOUR: 'it returns false'. Refute it at one input. -/
def iterTensorsWrong : ChangeSpec := { name := "iterTensors", fn := fun _ => fun
  | [d] => { results := [.lit (.bool false)], args := [d] }
  | _ => none }
def IterTensorsWrongFalsely : Prop := iterTensorsRow.holds Try.pinned (OpenSpec.ofChange iterTensorsWrong)

/-- 'purlieulaw08.IterCuts': WHATEVER THE INPUT: true; the input reads as it did. -/
def iterCutsSpec : ChangeSpec := { name := "iterCuts", fn := fun _ => fun
  | [d1, d2] => { results := [.lit (.bool true)], args := [d1, d2] }
  | _ => none }
def iterCutsRow : OpenClaim := { program := "ytfkojkciobdeoaa", sum := "1c9e5322c98b826891b5714a124dc1b8ef5178d4393e14d665b5e287daa8a90d", func := "purlieu/purlieulaw08.IterCuts", spec := "iterCuts", apart := false }
def IterCutsSaid : Prop := iterCutsRow.holds Try.pinned (OpenSpec.ofChange iterCutsSpec)

/-- ITS FALSE NEIGHBOUR: 'it returns false'. Refute it at one input. -/
def iterCutsWrong : ChangeSpec := { name := "iterCuts", fn := fun _ => fun
  | [d1, d2] => { results := [.lit (.bool false)], args := [d1, d2] }
  | _ => none }
def IterCutsWrongFalsely : Prop := iterCutsRow.holds Try.pinned (OpenSpec.ofChange iterCutsWrong)

/-- 'purlieulaw04.DomainSlices': WHATEVER THE INPUT: true; the input reads as it did. -/
def domainSlicesSpec : ChangeSpec := { name := "domainSlices", fn := fun _ => fun
  | [d1, d2, d3] => { results := [.lit (.bool true)], args := [d1, d2, d3] }
  | _ => none }
def domainSlicesRow : OpenClaim := { program := "ytfkojkciobdeoaa", sum := "1c9e5322c98b826891b5714a124dc1b8ef5178d4393e14d665b5e287daa8a90d", func := "purlieu/purlieulaw04.DomainSlices", spec := "domainSlices", apart := false }
def DomainSlicesSaid : Prop := domainSlicesRow.holds Try.pinned (OpenSpec.ofChange domainSlicesSpec)

/-- ITS FALSE NEIGHBOUR: 'it returns false'. Refute it at one input. -/
def domainSlicesWrong : ChangeSpec := { name := "domainSlices", fn := fun _ => fun
  | [d1, d2, d3] => { results := [.lit (.bool false)], args := [d1, d2, d3] }
  | _ => none }
def DomainSlicesWrongFalsely : Prop := domainSlicesRow.holds Try.pinned (OpenSpec.ofChange domainSlicesWrong)

/-- 'purlieulaw04.DomainMoves': WHATEVER THE INPUT: true; the input reads as it did. -/
def domainMovesSpec : ChangeSpec := { name := "domainMoves", fn := fun _ => fun
  | [d1, d2] => { results := [.lit (.bool true)], args := [d1, d2] }
  | _ => none }
def domainMovesRow : OpenClaim := { program := "ytfkojkciobdeoaa", sum := "1c9e5322c98b826891b5714a124dc1b8ef5178d4393e14d665b5e287daa8a90d", func := "purlieu/purlieulaw04.DomainMoves", spec := "domainMoves", unfollowed := true, recurses := true, apart := false }
def DomainMovesSaid : Prop := domainMovesRow.holds Try.pinned (OpenSpec.ofChange domainMovesSpec)

/-- ITS FALSE NEIGHBOUR: 'it returns false'. Refute it at one input. -/
def domainMovesWrong : ChangeSpec := { name := "domainMoves", fn := fun _ => fun
  | [d1, d2] => { results := [.lit (.bool false)], args := [d1, d2] }
  | _ => none }
def DomainMovesWrongFalsely : Prop := domainMovesRow.holds Try.pinned (OpenSpec.ofChange domainMovesWrong)

/-- 'purlieulaw08.IterFollows': WHATEVER THE INPUT: true; the input reads as it did. -/
def iterFollowsSpec : ChangeSpec := { name := "iterFollows", fn := fun _ => fun
  | [d1, d2, d3] => { results := [.lit (.bool true)], args := [d1, d2, d3] }
  | _ => none }
def iterFollowsRow : OpenClaim := { program := "ytfkojkciobdeoaa", sum := "1c9e5322c98b826891b5714a124dc1b8ef5178d4393e14d665b5e287daa8a90d", func := "purlieu/purlieulaw08.IterFollows", spec := "iterFollows", apart := false }
def IterFollowsSaid : Prop := iterFollowsRow.holds Try.pinned (OpenSpec.ofChange iterFollowsSpec)

/-- ITS FALSE NEIGHBOUR: 'it returns false'. Refute it at one input. -/
def iterFollowsWrong : ChangeSpec := { name := "iterFollows", fn := fun _ => fun
  | [d1, d2, d3] => { results := [.lit (.bool false)], args := [d1, d2, d3] }
  | _ => none }
def IterFollowsWrongFalsely : Prop := iterFollowsRow.holds Try.pinned (OpenSpec.ofChange iterFollowsWrong)

/-- 'purlieulaw04.DomainSets': WHATEVER THE INPUT: true; the input reads as it did. -/
def domainSetsSpec : ChangeSpec := { name := "domainSets", fn := fun _ => fun
  | [d1, d2, d3] => { results := [.lit (.bool true)], args := [d1, d2, d3] }
  | _ => none }
def domainSetsRow : OpenClaim := { program := "ytfkojkciobdeoaa", sum := "1c9e5322c98b826891b5714a124dc1b8ef5178d4393e14d665b5e287daa8a90d", func := "purlieu/purlieulaw04.DomainSets", spec := "domainSets", unfollowed := true, recurses := true, apart := false }
def DomainSetsSaid : Prop := domainSetsRow.holds Try.pinned (OpenSpec.ofChange domainSetsSpec)

/-- ITS FALSE NEIGHBOUR: 'it returns false'. Refute it at one input. -/
def domainSetsWrong : ChangeSpec := { name := "domainSets", fn := fun _ => fun
  | [d1, d2, d3] => { results := [.lit (.bool false)], args := [d1, d2, d3] }
  | _ => none }
def DomainSetsWrongFalsely : Prop := domainSetsRow.holds Try.pinned (OpenSpec.ofChange domainSetsWrong)

/- THE SECOND FORM. 'bulk': how many values and letters a reading holds, each counted each time it is reached (what is shared counts as often as it is met; a slice's spare places count too). A statement '..UptoSaid' is the law's where the arguments, and the package variables that the reading takes, are together of bulk at most 1048576: NARROWER than '..Said'. Prove '..Said' where nothing that the law and all that it calls make is longer than what came in: it says more and counts as full. Else prove '..UptoSaid'. A law counts once. -/
mutual
def uptoBulk {H : Type} : DataW H → Nat
  | .lit (.string bytes) => bytes.length + 1
  | .lit _ => 1
  | .nil => 1
  | .ptr d => uptoBulk d + 1
  | .slice elems spare => uptoBulkAll elems + uptoBulkAll spare + 1
  | .agg parts => uptoBulkAll parts + 1
  | .iface _ d => uptoBulk d + 1
  | .map entries => uptoBulkEntries entries + 1
  | .held _ => 1
def uptoBulkAll {H : Type} : List (DataW H) → Nat
  | [] => 0
  | d :: r => uptoBulk d + uptoBulkAll r
def uptoBulkEntries {H : Type} : List (Lit × DataW H) → Nat
  | [] => 0
  | x :: r => uptoBulkEntry x + uptoBulkEntries r
def uptoBulkEntry {H : Type} : Lit × DataW H → Nat
  | (.string bytes, d) => bytes.length + uptoBulk d + 1
  | (_, d) => uptoBulk d + 1
 end
def uptoSmall : (H : Type) → List (DataW H) → Bool := fun _ ds => decide (uptoBulkAll ds ≤ 1048576)
def OpenSpec.upto (s : _root_.Go.ChangeSpec) : _root_.Go.OpenSpec := { _root_.Go.OpenSpec.ofChange s with cond := some uptoSmall }

/-- 'purlieutop.TopSets', WHERE WHAT IT READS IS OF BULK AT MOST 1048576: true; the input reads as it did. -/
def topSetsUptoRow : OpenClaim := { program := "ytfkojkciobdeoaa", sum := "1c9e5322c98b826891b5714a124dc1b8ef5178d4393e14d665b5e287daa8a90d", func := "purlieu/purlieutop.TopSets", spec := "topSets", unfollowed := true, recurses := true, apart := false, narrowed := true }
def TopSetsUptoSaid : Prop := topSetsUptoRow.holds Try.pinned (OpenSpec.upto topSetsSpec)

/-- 'purlieulaw04.DomainPlaces', WHERE WHAT IT READS IS OF BULK AT MOST 1048576: true; the input reads as it did. -/
def domainPlacesUptoRow : OpenClaim := { program := "ytfkojkciobdeoaa", sum := "1c9e5322c98b826891b5714a124dc1b8ef5178d4393e14d665b5e287daa8a90d", func := "purlieu/purlieulaw04.DomainPlaces", spec := "domainPlaces", apart := false, narrowed := true }
def DomainPlacesUptoSaid : Prop := domainPlacesUptoRow.holds Try.pinned (OpenSpec.upto domainPlacesSpec)

/-- 'purlieulaw08.IterZips', WHERE WHAT IT READS IS OF BULK AT MOST 1048576: true; the input reads as it did. -/
def iterZipsUptoRow : OpenClaim := { program := "ytfkojkciobdeoaa", sum := "1c9e5322c98b826891b5714a124dc1b8ef5178d4393e14d665b5e287daa8a90d", func := "purlieu/purlieulaw08.IterZips", spec := "iterZips", apart := false, narrowed := true }
def IterZipsUptoSaid : Prop := iterZipsUptoRow.holds Try.pinned (OpenSpec.upto iterZipsSpec)

/-- 'purlieulaw04.DomainKinds', WHERE WHAT IT READS IS OF BULK AT MOST 1048576: true; the input reads as it did. -/
def domainKindsUptoRow : OpenClaim := { program := "ytfkojkciobdeoaa", sum := "1c9e5322c98b826891b5714a124dc1b8ef5178d4393e14d665b5e287daa8a90d", func := "purlieu/purlieulaw04.DomainKinds", spec := "domainKinds", apart := false, narrowed := true }
def DomainKindsUptoSaid : Prop := domainKindsUptoRow.holds Try.pinned (OpenSpec.upto domainKindsSpec)

/-- 'purlieulaw08.IterSerial', WHERE WHAT IT READS IS OF BULK AT MOST 1048576: true; the input reads as it did. -/
def iterSerialUptoRow : OpenClaim := { program := "ytfkojkciobdeoaa", sum := "1c9e5322c98b826891b5714a124dc1b8ef5178d4393e14d665b5e287daa8a90d", func := "purlieu/purlieulaw08.IterSerial", spec := "iterSerial", apart := false, narrowed := true }
def IterSerialUptoSaid : Prop := iterSerialUptoRow.holds Try.pinned (OpenSpec.upto iterSerialSpec)

/-- 'purlieulaw08.IterTensors', WHERE WHAT IT READS IS OF BULK AT MOST 1048576: true; the input reads as it did. -/
def iterTensorsUptoRow : OpenClaim := { program := "ytfkojkciobdeoaa", sum := "1c9e5322c98b826891b5714a124dc1b8ef5178d4393e14d665b5e287daa8a90d", func := "purlieu/purlieulaw08.IterTensors", spec := "iterTensors", apart := false, narrowed := true }
def IterTensorsUptoSaid : Prop := iterTensorsUptoRow.holds Try.pinned (OpenSpec.upto iterTensorsSpec)

/-- 'purlieulaw08.IterCuts', WHERE WHAT IT READS IS OF BULK AT MOST 1048576: true; the input reads as it did. -/
def iterCutsUptoRow : OpenClaim := { program := "ytfkojkciobdeoaa", sum := "1c9e5322c98b826891b5714a124dc1b8ef5178d4393e14d665b5e287daa8a90d", func := "purlieu/purlieulaw08.IterCuts", spec := "iterCuts", apart := false, narrowed := true }
def IterCutsUptoSaid : Prop := iterCutsUptoRow.holds Try.pinned (OpenSpec.upto iterCutsSpec)

/-- 'purlieulaw04.DomainSlices', WHERE WHAT IT READS IS OF BULK AT MOST 1048576: true; the input reads as it did. -/
def domainSlicesUptoRow : OpenClaim := { program := "ytfkojkciobdeoaa", sum := "1c9e5322c98b826891b5714a124dc1b8ef5178d4393e14d665b5e287daa8a90d", func := "purlieu/purlieulaw04.DomainSlices", spec := "domainSlices", apart := false, narrowed := true }
def DomainSlicesUptoSaid : Prop := domainSlicesUptoRow.holds Try.pinned (OpenSpec.upto domainSlicesSpec)

/-- 'purlieulaw04.DomainMoves', WHERE WHAT IT READS IS OF BULK AT MOST 1048576: true; the input reads as it did. -/
def domainMovesUptoRow : OpenClaim := { program := "ytfkojkciobdeoaa", sum := "1c9e5322c98b826891b5714a124dc1b8ef5178d4393e14d665b5e287daa8a90d", func := "purlieu/purlieulaw04.DomainMoves", spec := "domainMoves", unfollowed := true, recurses := true, apart := false, narrowed := true }
def DomainMovesUptoSaid : Prop := domainMovesUptoRow.holds Try.pinned (OpenSpec.upto domainMovesSpec)

/-- 'purlieulaw08.IterFollows', WHERE WHAT IT READS IS OF BULK AT MOST 1048576: true; the input reads as it did. -/
def iterFollowsUptoRow : OpenClaim := { program := "ytfkojkciobdeoaa", sum := "1c9e5322c98b826891b5714a124dc1b8ef5178d4393e14d665b5e287daa8a90d", func := "purlieu/purlieulaw08.IterFollows", spec := "iterFollows", apart := false, narrowed := true }
def IterFollowsUptoSaid : Prop := iterFollowsUptoRow.holds Try.pinned (OpenSpec.upto iterFollowsSpec)

/-- 'purlieulaw04.DomainSets', WHERE WHAT IT READS IS OF BULK AT MOST 1048576: true; the input reads as it did. -/
def domainSetsUptoRow : OpenClaim := { program := "ytfkojkciobdeoaa", sum := "1c9e5322c98b826891b5714a124dc1b8ef5178d4393e14d665b5e287daa8a90d", func := "purlieu/purlieulaw04.DomainSets", spec := "domainSets", unfollowed := true, recurses := true, apart := false, narrowed := true }
def DomainSetsUptoSaid : Prop := domainSetsUptoRow.holds Try.pinned (OpenSpec.upto domainSetsSpec)

end Rows
end Go.Proofs.Ytfkojkciobdeoaa
