/-
  No cell of these rows narrows 'for every input' (looked for: loops, veiled, ifaces, maps, wideKeys, modest, calm, conditions, laid).
  DERIVED. THE GIVEN ROWS OF THIS SEAT. 10 by the template 'for every input the law returns true; each argument reads behind the call as it read before'; 0 by the template 'total and deterministic' (their statements: YtoeabdanldiccaaTotals.lean).
  GIVEN WITH THE SEED: the statements are not yours to turn. If you find one false, say at which input.
  Laid BY PROGRAM, IN A SANDBOX (cutbox-rows.mjs): the forced cells as the released guide's own fill.sh prints them over the translation 280b066acd71c2ba… (all of the seat's roots in one cut). By AI agents, Wed Nov 11 2026. No macro, syntax, notation, axiom, sorry.
-/
import Derived.Test.YtoeabdanldiccaaChecked
import GoSem.Claim
import GoSem.ClaimJoined
import GoSem.ClaimMapViews
import Derived.JoinedTies
import Derived.KernelRfl
namespace Go.Proofs.Ytoeabdanldiccaa
/- THE CELL 'sum', in the pinned program and in every row, IS THE sha256 OF THE DUMP (.gsa) THAT YtoeabdanldiccaaProg.lean LOADS. Nothing in Lean hashes anything: it is a label: what it is worth is what the hold of that sum in a sandbox is worth. -/
noncomputable def Try.pinned : Pinned := { name := "ytoeabdanldiccaa", sum := "280b066acd71c2ba6b788badabb3fe2a34cea0ffb3172dd5040c85af5efccefd", checked := Try.checked }
namespace Rows
def none {H : Type} : Left H := { results := [], args := [] }

/-- 'purlieulaw03.SpanMembers': WHATEVER THE INPUT: true; the input reads as it did. -/
def spanMembersSpec : ChangeSpec := { name := "spanMembers", fn := fun _ => fun
  | [d] => { results := [.lit (.bool true)], args := [d] }
  | _ => none }
def spanMembersRow : OpenClaim := { program := "ytoeabdanldiccaa", sum := "280b066acd71c2ba6b788badabb3fe2a34cea0ffb3172dd5040c85af5efccefd", func := "purlieu/purlieulaw03.SpanMembers", spec := "spanMembers", apart := false }
def SpanMembersSaid : Prop := spanMembersRow.holds Try.pinned (OpenSpec.ofChange spanMembersSpec)

/-- ITS FALSE NEIGHBOUR: 'it returns false'. Refute it at one input. -/
def spanMembersWrong : ChangeSpec := { name := "spanMembers", fn := fun _ => fun
  | [d] => { results := [.lit (.bool false)], args := [d] }
  | _ => none }
def SpanMembersWrongFalsely : Prop := spanMembersRow.holds Try.pinned (OpenSpec.ofChange spanMembersWrong)

/-- 'purlieulaw03.SpanLists': WHATEVER THE INPUT: true; the input reads as it did. -/
def spanListsSpec : ChangeSpec := { name := "spanLists", fn := fun _ => fun
  | [d] => { results := [.lit (.bool true)], args := [d] }
  | _ => none }
def spanListsRow : OpenClaim := { program := "ytoeabdanldiccaa", sum := "280b066acd71c2ba6b788badabb3fe2a34cea0ffb3172dd5040c85af5efccefd", func := "purlieu/purlieulaw03.SpanLists", spec := "spanLists", apart := false }
def SpanListsSaid : Prop := spanListsRow.holds Try.pinned (OpenSpec.ofChange spanListsSpec)

/-- ITS FALSE NEIGHBOUR: 'it returns false'. Refute it at one input. -/
def spanListsWrong : ChangeSpec := { name := "spanLists", fn := fun _ => fun
  | [d] => { results := [.lit (.bool false)], args := [d] }
  | _ => none }
def SpanListsWrongFalsely : Prop := spanListsRow.holds Try.pinned (OpenSpec.ofChange spanListsWrong)

/-- 'purlieulaw03.SpanMoves': WHATEVER THE INPUT: true; the input reads as it did. -/
def spanMovesSpec : ChangeSpec := { name := "spanMoves", fn := fun _ => fun
  | [d1, d2] => { results := [.lit (.bool true)], args := [d1, d2] }
  | _ => none }
def spanMovesRow : OpenClaim := { program := "ytoeabdanldiccaa", sum := "280b066acd71c2ba6b788badabb3fe2a34cea0ffb3172dd5040c85af5efccefd", func := "purlieu/purlieulaw03.SpanMoves", spec := "spanMoves", apart := false }
def SpanMovesSaid : Prop := spanMovesRow.holds Try.pinned (OpenSpec.ofChange spanMovesSpec)

/-- ITS FALSE NEIGHBOUR: 'it returns false'. Refute it at one input. -/
def spanMovesWrong : ChangeSpec := { name := "spanMoves", fn := fun _ => fun
  | [d1, d2] => { results := [.lit (.bool false)], args := [d1, d2] }
  | _ => none }
def SpanMovesWrongFalsely : Prop := spanMovesRow.holds Try.pinned (OpenSpec.ofChange spanMovesWrong)

/-- 'purlieulaw03.SpanParts': WHATEVER THE INPUT: true; the input reads as it did. -/
def spanPartsSpec : ChangeSpec := { name := "spanParts", fn := fun _ => fun
  | [d1, d2] => { results := [.lit (.bool true)], args := [d1, d2] }
  | _ => none }
def spanPartsRow : OpenClaim := { program := "ytoeabdanldiccaa", sum := "280b066acd71c2ba6b788badabb3fe2a34cea0ffb3172dd5040c85af5efccefd", func := "purlieu/purlieulaw03.SpanParts", spec := "spanParts", apart := false }
def SpanPartsSaid : Prop := spanPartsRow.holds Try.pinned (OpenSpec.ofChange spanPartsSpec)

/-- ITS FALSE NEIGHBOUR: 'it returns false'. Refute it at one input. -/
def spanPartsWrong : ChangeSpec := { name := "spanParts", fn := fun _ => fun
  | [d1, d2] => { results := [.lit (.bool false)], args := [d1, d2] }
  | _ => none }
def SpanPartsWrongFalsely : Prop := spanPartsRow.holds Try.pinned (OpenSpec.ofChange spanPartsWrong)

/-- 'purlieulaw03.SpanExpands': WHATEVER THE INPUT: true; the input reads as it did. -/
def spanExpandsSpec : ChangeSpec := { name := "spanExpands", fn := fun _ => fun
  | [d1, d2] => { results := [.lit (.bool true)], args := [d1, d2] }
  | _ => none }
def spanExpandsRow : OpenClaim := { program := "ytoeabdanldiccaa", sum := "280b066acd71c2ba6b788badabb3fe2a34cea0ffb3172dd5040c85af5efccefd", func := "purlieu/purlieulaw03.SpanExpands", spec := "spanExpands", apart := false }
def SpanExpandsSaid : Prop := spanExpandsRow.holds Try.pinned (OpenSpec.ofChange spanExpandsSpec)

/-- ITS FALSE NEIGHBOUR: 'it returns false'. Refute it at one input. -/
def spanExpandsWrong : ChangeSpec := { name := "spanExpands", fn := fun _ => fun
  | [d1, d2] => { results := [.lit (.bool false)], args := [d1, d2] }
  | _ => none }
def SpanExpandsWrongFalsely : Prop := spanExpandsRow.holds Try.pinned (OpenSpec.ofChange spanExpandsWrong)

/-- 'purlieulaw03.SpanReads': WHATEVER THE INPUT: true; the input reads as it did. -/
def spanReadsSpec : ChangeSpec := { name := "spanReads", fn := fun _ => fun
  | [d1, d2, d3] => { results := [.lit (.bool true)], args := [d1, d2, d3] }
  | _ => none }
def spanReadsRow : OpenClaim := { program := "ytoeabdanldiccaa", sum := "280b066acd71c2ba6b788badabb3fe2a34cea0ffb3172dd5040c85af5efccefd", func := "purlieu/purlieulaw03.SpanReads", spec := "spanReads", apart := false }
def SpanReadsSaid : Prop := spanReadsRow.holds Try.pinned (OpenSpec.ofChange spanReadsSpec)

/-- ITS FALSE NEIGHBOUR: 'it returns false'. Refute it at one input. -/
def spanReadsWrong : ChangeSpec := { name := "spanReads", fn := fun _ => fun
  | [d1, d2, d3] => { results := [.lit (.bool false)], args := [d1, d2, d3] }
  | _ => none }
def SpanReadsWrongFalsely : Prop := spanReadsRow.holds Try.pinned (OpenSpec.ofChange spanReadsWrong)

/-- 'purlieulaw03.SpanTakes': WHATEVER THE INPUT: true; the input reads as it did. -/
def spanTakesSpec : ChangeSpec := { name := "spanTakes", fn := fun _ => fun
  | [d1, d2] => { results := [.lit (.bool true)], args := [d1, d2] }
  | _ => none }
def spanTakesRow : OpenClaim := { program := "ytoeabdanldiccaa", sum := "280b066acd71c2ba6b788badabb3fe2a34cea0ffb3172dd5040c85af5efccefd", func := "purlieu/purlieulaw03.SpanTakes", spec := "spanTakes", apart := false }
def SpanTakesSaid : Prop := spanTakesRow.holds Try.pinned (OpenSpec.ofChange spanTakesSpec)

/-- ITS FALSE NEIGHBOUR: 'it returns false'. Refute it at one input. -/
def spanTakesWrong : ChangeSpec := { name := "spanTakes", fn := fun _ => fun
  | [d1, d2] => { results := [.lit (.bool false)], args := [d1, d2] }
  | _ => none }
def SpanTakesWrongFalsely : Prop := spanTakesRow.holds Try.pinned (OpenSpec.ofChange spanTakesWrong)

/-- 'purlieulaw03.SpanMeets': WHATEVER THE INPUT: true; the input reads as it did. -/
def spanMeetsSpec : ChangeSpec := { name := "spanMeets", fn := fun _ => fun
  | [d1, d2] => { results := [.lit (.bool true)], args := [d1, d2] }
  | _ => none }
def spanMeetsRow : OpenClaim := { program := "ytoeabdanldiccaa", sum := "280b066acd71c2ba6b788badabb3fe2a34cea0ffb3172dd5040c85af5efccefd", func := "purlieu/purlieulaw03.SpanMeets", spec := "spanMeets", apart := false }
def SpanMeetsSaid : Prop := spanMeetsRow.holds Try.pinned (OpenSpec.ofChange spanMeetsSpec)

/-- ITS FALSE NEIGHBOUR: 'it returns false'. Refute it at one input. -/
def spanMeetsWrong : ChangeSpec := { name := "spanMeets", fn := fun _ => fun
  | [d1, d2] => { results := [.lit (.bool false)], args := [d1, d2] }
  | _ => none }
def SpanMeetsWrongFalsely : Prop := spanMeetsRow.holds Try.pinned (OpenSpec.ofChange spanMeetsWrong)

/-- 'purlieulaw03.SpanAlgebra': WHATEVER THE INPUT: true; the input reads as it did. -/
def spanAlgebraSpec : ChangeSpec := { name := "spanAlgebra", fn := fun _ => fun
  | [d1, d2, d3] => { results := [.lit (.bool true)], args := [d1, d2, d3] }
  | _ => none }
def spanAlgebraRow : OpenClaim := { program := "ytoeabdanldiccaa", sum := "280b066acd71c2ba6b788badabb3fe2a34cea0ffb3172dd5040c85af5efccefd", func := "purlieu/purlieulaw03.SpanAlgebra", spec := "spanAlgebra", apart := false }
def SpanAlgebraSaid : Prop := spanAlgebraRow.holds Try.pinned (OpenSpec.ofChange spanAlgebraSpec)

/-- ITS FALSE NEIGHBOUR: 'it returns false'. Refute it at one input. -/
def spanAlgebraWrong : ChangeSpec := { name := "spanAlgebra", fn := fun _ => fun
  | [d1, d2, d3] => { results := [.lit (.bool false)], args := [d1, d2, d3] }
  | _ => none }
def SpanAlgebraWrongFalsely : Prop := spanAlgebraRow.holds Try.pinned (OpenSpec.ofChange spanAlgebraWrong)

/-- 'purlieulaw03.SpanBack': WHATEVER THE INPUT: true; the input reads as it did. -/
def spanBackSpec : ChangeSpec := { name := "spanBack", fn := fun _ => fun
  | [d1, d2, d3] => { results := [.lit (.bool true)], args := [d1, d2, d3] }
  | _ => none }
def spanBackRow : OpenClaim := { program := "ytoeabdanldiccaa", sum := "280b066acd71c2ba6b788badabb3fe2a34cea0ffb3172dd5040c85af5efccefd", func := "purlieu/purlieulaw03.SpanBack", spec := "spanBack", apart := false }
def SpanBackSaid : Prop := spanBackRow.holds Try.pinned (OpenSpec.ofChange spanBackSpec)

/-- ITS FALSE NEIGHBOUR: 'it returns false'. Refute it at one input. -/
def spanBackWrong : ChangeSpec := { name := "spanBack", fn := fun _ => fun
  | [d1, d2, d3] => { results := [.lit (.bool false)], args := [d1, d2, d3] }
  | _ => none }
def SpanBackWrongFalsely : Prop := spanBackRow.holds Try.pinned (OpenSpec.ofChange spanBackWrong)

/- THE SECOND FORM. 'bulk': how many values and letters a reading holds, each counted each time it is reached (what is shared counts as often as it is met; a slice's spare places count too). A statement '..UptoSaid' is the law's where the arguments, and the package variables that the reading takes, are together of bulk at most 1048576: NARROWER than '..Said'. Prove '..Said' where nothing that the law and all that it calls make is longer than what came in: it says more and counts as full. Else prove '..UptoSaid'. A law counts once. -/
mutual
def uptoBulk {H : Type} : DataW H → Nat
  | .lit (.string bytes) => bytes.length + 1
  | .lit _ => 1
  | .nil => 1
  | .ptr d => uptoBulk d + 1
  | .slice elems spare => uptoBulkAll elems + uptoBulkAll spare + 1
  | .agg parts => uptoBulkAll parts + 1
  | .iface _ d => uptoBulk d + 1
  | .map entries => uptoBulkEntries entries + 1
  | .held _ => 1
def uptoBulkAll {H : Type} : List (DataW H) → Nat
  | [] => 0
  | d :: r => uptoBulk d + uptoBulkAll r
def uptoBulkEntries {H : Type} : List (Lit × DataW H) → Nat
  | [] => 0
  | x :: r => uptoBulkEntry x + uptoBulkEntries r
def uptoBulkEntry {H : Type} : Lit × DataW H → Nat
  | (.string bytes, d) => bytes.length + uptoBulk d + 1
  | (_, d) => uptoBulk d + 1
 end
def uptoSmall : (H : Type) → List (DataW H) → Bool := fun _ ds => decide (uptoBulkAll ds ≤ 1048576)
def OpenSpec.upto (s : _root_.Go.ChangeSpec) : _root_.Go.OpenSpec := { _root_.Go.OpenSpec.ofChange s with cond := some uptoSmall }

/-- 'purlieulaw03.SpanMembers', WHERE WHAT IT READS IS OF BULK AT MOST 1048576: true; the input reads as it did. -/
def spanMembersUptoRow : OpenClaim := { program := "ytoeabdanldiccaa", sum := "280b066acd71c2ba6b788badabb3fe2a34cea0ffb3172dd5040c85af5efccefd", func := "purlieu/purlieulaw03.SpanMembers", spec := "spanMembers", apart := false, narrowed := true }
def SpanMembersUptoSaid : Prop := spanMembersUptoRow.holds Try.pinned (OpenSpec.upto spanMembersSpec)

/-- 'purlieulaw03.SpanLists', WHERE WHAT IT READS IS OF BULK AT MOST 1048576: true; the input reads as it did. -/
def spanListsUptoRow : OpenClaim := { program := "ytoeabdanldiccaa", sum := "280b066acd71c2ba6b788badabb3fe2a34cea0ffb3172dd5040c85af5efccefd", func := "purlieu/purlieulaw03.SpanLists", spec := "spanLists", apart := false, narrowed := true }
def SpanListsUptoSaid : Prop := spanListsUptoRow.holds Try.pinned (OpenSpec.upto spanListsSpec)

/-- 'purlieulaw03.SpanMoves', WHERE WHAT IT READS IS OF BULK AT MOST 1048576: true; the input reads as it did. -/
def spanMovesUptoRow : OpenClaim := { program := "ytoeabdanldiccaa", sum := "280b066acd71c2ba6b788badabb3fe2a34cea0ffb3172dd5040c85af5efccefd", func := "purlieu/purlieulaw03.SpanMoves", spec := "spanMoves", apart := false, narrowed := true }
def SpanMovesUptoSaid : Prop := spanMovesUptoRow.holds Try.pinned (OpenSpec.upto spanMovesSpec)

/-- 'purlieulaw03.SpanParts', WHERE WHAT IT READS IS OF BULK AT MOST 1048576: true; the input reads as it did. -/
def spanPartsUptoRow : OpenClaim := { program := "ytoeabdanldiccaa", sum := "280b066acd71c2ba6b788badabb3fe2a34cea0ffb3172dd5040c85af5efccefd", func := "purlieu/purlieulaw03.SpanParts", spec := "spanParts", apart := false, narrowed := true }
def SpanPartsUptoSaid : Prop := spanPartsUptoRow.holds Try.pinned (OpenSpec.upto spanPartsSpec)

/-- 'purlieulaw03.SpanExpands', WHERE WHAT IT READS IS OF BULK AT MOST 1048576: true; the input reads as it did. -/
def spanExpandsUptoRow : OpenClaim := { program := "ytoeabdanldiccaa", sum := "280b066acd71c2ba6b788badabb3fe2a34cea0ffb3172dd5040c85af5efccefd", func := "purlieu/purlieulaw03.SpanExpands", spec := "spanExpands", apart := false, narrowed := true }
def SpanExpandsUptoSaid : Prop := spanExpandsUptoRow.holds Try.pinned (OpenSpec.upto spanExpandsSpec)

/-- 'purlieulaw03.SpanReads', WHERE WHAT IT READS IS OF BULK AT MOST 1048576: true; the input reads as it did. -/
def spanReadsUptoRow : OpenClaim := { program := "ytoeabdanldiccaa", sum := "280b066acd71c2ba6b788badabb3fe2a34cea0ffb3172dd5040c85af5efccefd", func := "purlieu/purlieulaw03.SpanReads", spec := "spanReads", apart := false, narrowed := true }
def SpanReadsUptoSaid : Prop := spanReadsUptoRow.holds Try.pinned (OpenSpec.upto spanReadsSpec)

/-- 'purlieulaw03.SpanTakes', WHERE WHAT IT READS IS OF BULK AT MOST 1048576: true; the input reads as it did. -/
def spanTakesUptoRow : OpenClaim := { program := "ytoeabdanldiccaa", sum := "280b066acd71c2ba6b788badabb3fe2a34cea0ffb3172dd5040c85af5efccefd", func := "purlieu/purlieulaw03.SpanTakes", spec := "spanTakes", apart := false, narrowed := true }
def SpanTakesUptoSaid : Prop := spanTakesUptoRow.holds Try.pinned (OpenSpec.upto spanTakesSpec)

/-- 'purlieulaw03.SpanMeets', WHERE WHAT IT READS IS OF BULK AT MOST 1048576: true; the input reads as it did. -/
def spanMeetsUptoRow : OpenClaim := { program := "ytoeabdanldiccaa", sum := "280b066acd71c2ba6b788badabb3fe2a34cea0ffb3172dd5040c85af5efccefd", func := "purlieu/purlieulaw03.SpanMeets", spec := "spanMeets", apart := false, narrowed := true }
def SpanMeetsUptoSaid : Prop := spanMeetsUptoRow.holds Try.pinned (OpenSpec.upto spanMeetsSpec)

/-- 'purlieulaw03.SpanAlgebra', WHERE WHAT IT READS IS OF BULK AT MOST 1048576: true; the input reads as it did. -/
def spanAlgebraUptoRow : OpenClaim := { program := "ytoeabdanldiccaa", sum := "280b066acd71c2ba6b788badabb3fe2a34cea0ffb3172dd5040c85af5efccefd", func := "purlieu/purlieulaw03.SpanAlgebra", spec := "spanAlgebra", apart := false, narrowed := true }
def SpanAlgebraUptoSaid : Prop := spanAlgebraUptoRow.holds Try.pinned (OpenSpec.upto spanAlgebraSpec)

/-- 'purlieulaw03.SpanBack', WHERE WHAT IT READS IS OF BULK AT MOST 1048576: true; the input reads as it did. -/
def spanBackUptoRow : OpenClaim := { program := "ytoeabdanldiccaa", sum := "280b066acd71c2ba6b788badabb3fe2a34cea0ffb3172dd5040c85af5efccefd", func := "purlieu/purlieulaw03.SpanBack", spec := "spanBack", apart := false, narrowed := true }
def SpanBackUptoSaid : Prop := spanBackUptoRow.holds Try.pinned (OpenSpec.upto spanBackSpec)

end Rows
end Go.Proofs.Ytoeabdanldiccaa
