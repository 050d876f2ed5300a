/-
  No cell of these rows narrows 'for every input' (looked for: loops, veiled, ifaces, maps, wideKeys, modest, calm, conditions, laid).
  DERIVED. THE GIVEN ROWS OF THIS SEAT. 8 by the template 'for every input the law returns true; each argument reads behind the call as it read before'; 0 by the template 'total and deterministic' (their statements: YtpcggfaohgemjaaTotals.lean).
  GIVEN WITH THE SEED: the statements are not yours to turn. If you find one false, say at which input.
  Laid BY PROGRAM, IN A SANDBOX (cutbox-rows.mjs): the forced cells as the released guide's own fill.sh prints them over the translation 3d0bc7dec2720e30… (all of the seat's roots in one cut). By AI agents, Wed Nov 11 2026. No macro, syntax, notation, axiom, sorry.
-/
import Derived.Test.YtpcggfaohgemjaaChecked
import GoSem.Claim
import GoSem.ClaimJoined
import GoSem.ClaimMapViews
import Derived.JoinedTies
import Derived.KernelRfl
namespace Go.Proofs.Ytpcggfaohgemjaa
/- THE CELL 'sum', in the pinned program and in every row, IS THE sha256 OF THE DUMP (.gsa) THAT YtpcggfaohgemjaaProg.lean LOADS. Nothing in Lean hashes anything: it is a label: what it is worth is what the hold of that sum in a sandbox is worth. -/
noncomputable def Try.pinned : Pinned := { name := "ytpcggfaohgemjaa", sum := "3d0bc7dec2720e30ed479e7eb7170cfa639f5f052372a996e51c58e304e87e60", checked := Try.checked }
namespace Rows
def none {H : Type} : Left H := { results := [], args := [] }

/-- 'purlieulaw25.StreamSubs': WHATEVER THE INPUT: true; the input reads as it did. -/
def streamSubsSpec : ChangeSpec := { name := "streamSubs", fn := fun _ => fun
  | [d1, d2, d3] => { results := [.lit (.bool true)], args := [d1, d2, d3] }
  | _ => none }
def streamSubsRow : OpenClaim := { program := "ytpcggfaohgemjaa", sum := "3d0bc7dec2720e30ed479e7eb7170cfa639f5f052372a996e51c58e304e87e60", func := "purlieu/purlieulaw25.StreamSubs", spec := "streamSubs", apart := false }
def StreamSubsSaid : Prop := streamSubsRow.holds Try.pinned (OpenSpec.ofChange streamSubsSpec)

/-- ITS FALSE NEIGHBOUR: 'it returns false'. Refute it at one input. -/
def streamSubsWrong : ChangeSpec := { name := "streamSubs", fn := fun _ => fun
  | [d1, d2, d3] => { results := [.lit (.bool false)], args := [d1, d2, d3] }
  | _ => none }
def StreamSubsWrongFalsely : Prop := streamSubsRow.holds Try.pinned (OpenSpec.ofChange streamSubsWrong)

/-- 'purlieulaw25.StreamRows': WHATEVER THE INPUT: true; the input reads as it did. -/
def streamRowsSpec : ChangeSpec := { name := "streamRows", fn := fun _ => fun
  | [d] => { results := [.lit (.bool true)], args := [d] }
  | _ => none }
def streamRowsRow : OpenClaim := { program := "ytpcggfaohgemjaa", sum := "3d0bc7dec2720e30ed479e7eb7170cfa639f5f052372a996e51c58e304e87e60", func := "purlieu/purlieulaw25.StreamRows", spec := "streamRows", apart := false }
def StreamRowsSaid : Prop := streamRowsRow.holds Try.pinned (OpenSpec.ofChange streamRowsSpec)

/-- ITS FALSE NEIGHBOUR: 'it returns false'. Refute it at one input. -/
def streamRowsWrong : ChangeSpec := { name := "streamRows", fn := fun _ => fun
  | [d] => { results := [.lit (.bool false)], args := [d] }
  | _ => none }
def StreamRowsWrongFalsely : Prop := streamRowsRow.holds Try.pinned (OpenSpec.ofChange streamRowsWrong)

/-- 'purlieulaw25.StreamSplit': WHATEVER THE INPUT: true; the input reads as it did. -/
def streamSplitSpec : ChangeSpec := { name := "streamSplit", fn := fun _ => fun
  | [d1, d2] => { results := [.lit (.bool true)], args := [d1, d2] }
  | _ => none }
def streamSplitRow : OpenClaim := { program := "ytpcggfaohgemjaa", sum := "3d0bc7dec2720e30ed479e7eb7170cfa639f5f052372a996e51c58e304e87e60", func := "purlieu/purlieulaw25.StreamSplit", spec := "streamSplit", apart := false }
def StreamSplitSaid : Prop := streamSplitRow.holds Try.pinned (OpenSpec.ofChange streamSplitSpec)

/-- ITS FALSE NEIGHBOUR: 'it returns false'. Refute it at one input. -/
def streamSplitWrong : ChangeSpec := { name := "streamSplit", fn := fun _ => fun
  | [d1, d2] => { results := [.lit (.bool false)], args := [d1, d2] }
  | _ => none }
def StreamSplitWrongFalsely : Prop := streamSplitRow.holds Try.pinned (OpenSpec.ofChange streamSplitWrong)

/-- 'purlieulaw25.StreamIth': WHATEVER THE INPUT: true; the input reads as it did. -/
def streamIthSpec : ChangeSpec := { name := "streamIth", fn := fun _ => fun
  | [d1, d2, d3] => { results := [.lit (.bool true)], args := [d1, d2, d3] }
  | _ => none }
def streamIthRow : OpenClaim := { program := "ytpcggfaohgemjaa", sum := "3d0bc7dec2720e30ed479e7eb7170cfa639f5f052372a996e51c58e304e87e60", func := "purlieu/purlieulaw25.StreamIth", spec := "streamIth", apart := false }
def StreamIthSaid : Prop := streamIthRow.holds Try.pinned (OpenSpec.ofChange streamIthSpec)

/-- ITS FALSE NEIGHBOUR: 'it returns false'. Refute it at one input. -/
def streamIthWrong : ChangeSpec := { name := "streamIth", fn := fun _ => fun
  | [d1, d2, d3] => { results := [.lit (.bool false)], args := [d1, d2, d3] }
  | _ => none }
def StreamIthWrongFalsely : Prop := streamIthRow.holds Try.pinned (OpenSpec.ofChange streamIthWrong)

/-- 'purlieulaw25.StreamSeeds': WHATEVER THE INPUT: true; the input reads as it did. -/
def streamSeedsSpec : ChangeSpec := { name := "streamSeeds", fn := fun _ => fun
  | [d1, d2] => { results := [.lit (.bool true)], args := [d1, d2] }
  | _ => none }
def streamSeedsRow : OpenClaim := { program := "ytpcggfaohgemjaa", sum := "3d0bc7dec2720e30ed479e7eb7170cfa639f5f052372a996e51c58e304e87e60", func := "purlieu/purlieulaw25.StreamSeeds", spec := "streamSeeds", apart := false }
def StreamSeedsSaid : Prop := streamSeedsRow.holds Try.pinned (OpenSpec.ofChange streamSeedsSpec)

/-- ITS FALSE NEIGHBOUR: 'it returns false'. Refute it at one input. -/
def streamSeedsWrong : ChangeSpec := { name := "streamSeeds", fn := fun _ => fun
  | [d1, d2] => { results := [.lit (.bool false)], args := [d1, d2] }
  | _ => none }
def StreamSeedsWrongFalsely : Prop := streamSeedsRow.holds Try.pinned (OpenSpec.ofChange streamSeedsWrong)

/-- 'purlieulaw25.StreamBack': WHATEVER THE INPUT: true; the input reads as it did. -/
def streamBackSpec : ChangeSpec := { name := "streamBack", fn := fun _ => fun
  | [d1, d2] => { results := [.lit (.bool true)], args := [d1, d2] }
  | _ => none }
def streamBackRow : OpenClaim := { program := "ytpcggfaohgemjaa", sum := "3d0bc7dec2720e30ed479e7eb7170cfa639f5f052372a996e51c58e304e87e60", func := "purlieu/purlieulaw25.StreamBack", spec := "streamBack", apart := false }
def StreamBackSaid : Prop := streamBackRow.holds Try.pinned (OpenSpec.ofChange streamBackSpec)

/-- ITS FALSE NEIGHBOUR: 'it returns false'. Refute it at one input. -/
def streamBackWrong : ChangeSpec := { name := "streamBack", fn := fun _ => fun
  | [d1, d2] => { results := [.lit (.bool false)], args := [d1, d2] }
  | _ => none }
def StreamBackWrongFalsely : Prop := streamBackRow.holds Try.pinned (OpenSpec.ofChange streamBackWrong)

/-- 'purlieulaw25.StreamPerms': WHATEVER THE INPUT: true; the input reads as it did. -/
def streamPermsSpec : ChangeSpec := { name := "streamPerms", fn := fun _ => fun
  | [d1, d2, d3] => { results := [.lit (.bool true)], args := [d1, d2, d3] }
  | _ => none }
def streamPermsRow : OpenClaim := { program := "ytpcggfaohgemjaa", sum := "3d0bc7dec2720e30ed479e7eb7170cfa639f5f052372a996e51c58e304e87e60", func := "purlieu/purlieulaw25.StreamPerms", spec := "streamPerms", apart := false }
def StreamPermsSaid : Prop := streamPermsRow.holds Try.pinned (OpenSpec.ofChange streamPermsSpec)

/-- ITS FALSE NEIGHBOUR: 'it returns false'. Refute it at one input. -/
def streamPermsWrong : ChangeSpec := { name := "streamPerms", fn := fun _ => fun
  | [d1, d2, d3] => { results := [.lit (.bool false)], args := [d1, d2, d3] }
  | _ => none }
def StreamPermsWrongFalsely : Prop := streamPermsRow.holds Try.pinned (OpenSpec.ofChange streamPermsWrong)

/-- 'purlieulaw25.StreamOnce': WHATEVER THE INPUT: true; the input reads as it did. -/
def streamOnceSpec : ChangeSpec := { name := "streamOnce", fn := fun _ => fun
  | [d1, d2, d3] => { results := [.lit (.bool true)], args := [d1, d2, d3] }
  | _ => none }
def streamOnceRow : OpenClaim := { program := "ytpcggfaohgemjaa", sum := "3d0bc7dec2720e30ed479e7eb7170cfa639f5f052372a996e51c58e304e87e60", func := "purlieu/purlieulaw25.StreamOnce", spec := "streamOnce", apart := false }
def StreamOnceSaid : Prop := streamOnceRow.holds Try.pinned (OpenSpec.ofChange streamOnceSpec)

/-- ITS FALSE NEIGHBOUR: 'it returns false'. Refute it at one input. -/
def streamOnceWrong : ChangeSpec := { name := "streamOnce", fn := fun _ => fun
  | [d1, d2, d3] => { results := [.lit (.bool false)], args := [d1, d2, d3] }
  | _ => none }
def StreamOnceWrongFalsely : Prop := streamOnceRow.holds Try.pinned (OpenSpec.ofChange streamOnceWrong)

/- THE SECOND FORM. 'bulk': how many values and letters a reading holds, each counted each time it is reached (what is shared counts as often as it is met; a slice's spare places count too). A statement '..UptoSaid' is the law's where the arguments, and the package variables that the reading takes, are together of bulk at most 1048576: NARROWER than '..Said'. Prove '..Said' where nothing that the law and all that it calls make is longer than what came in: it says more and counts as full. Else prove '..UptoSaid'. A law counts once. -/
mutual
def uptoBulk {H : Type} : DataW H → Nat
  | .lit (.string bytes) => bytes.length + 1
  | .lit _ => 1
  | .nil => 1
  | .ptr d => uptoBulk d + 1
  | .slice elems spare => uptoBulkAll elems + uptoBulkAll spare + 1
  | .agg parts => uptoBulkAll parts + 1
  | .iface _ d => uptoBulk d + 1
  | .map entries => uptoBulkEntries entries + 1
  | .held _ => 1
def uptoBulkAll {H : Type} : List (DataW H) → Nat
  | [] => 0
  | d :: r => uptoBulk d + uptoBulkAll r
def uptoBulkEntries {H : Type} : List (Lit × DataW H) → Nat
  | [] => 0
  | x :: r => uptoBulkEntry x + uptoBulkEntries r
def uptoBulkEntry {H : Type} : Lit × DataW H → Nat
  | (.string bytes, d) => bytes.length + uptoBulk d + 1
  | (_, d) => uptoBulk d + 1
 end
def uptoSmall : (H : Type) → List (DataW H) → Bool := fun _ ds => decide (uptoBulkAll ds ≤ 1048576)
def OpenSpec.upto (s : _root_.Go.ChangeSpec) : _root_.Go.OpenSpec := { _root_.Go.OpenSpec.ofChange s with cond := some uptoSmall }

/-- 'purlieulaw25.StreamSubs', WHERE WHAT IT READS IS OF BULK AT MOST 1048576: true; the input reads as it did. -/
def streamSubsUptoRow : OpenClaim := { program := "ytpcggfaohgemjaa", sum := "3d0bc7dec2720e30ed479e7eb7170cfa639f5f052372a996e51c58e304e87e60", func := "purlieu/purlieulaw25.StreamSubs", spec := "streamSubs", apart := false, narrowed := true }
def StreamSubsUptoSaid : Prop := streamSubsUptoRow.holds Try.pinned (OpenSpec.upto streamSubsSpec)

/-- 'purlieulaw25.StreamRows', WHERE WHAT IT READS IS OF BULK AT MOST 1048576: true; the input reads as it did. -/
def streamRowsUptoRow : OpenClaim := { program := "ytpcggfaohgemjaa", sum := "3d0bc7dec2720e30ed479e7eb7170cfa639f5f052372a996e51c58e304e87e60", func := "purlieu/purlieulaw25.StreamRows", spec := "streamRows", apart := false, narrowed := true }
def StreamRowsUptoSaid : Prop := streamRowsUptoRow.holds Try.pinned (OpenSpec.upto streamRowsSpec)

/-- 'purlieulaw25.StreamSplit', WHERE WHAT IT READS IS OF BULK AT MOST 1048576: true; the input reads as it did. -/
def streamSplitUptoRow : OpenClaim := { program := "ytpcggfaohgemjaa", sum := "3d0bc7dec2720e30ed479e7eb7170cfa639f5f052372a996e51c58e304e87e60", func := "purlieu/purlieulaw25.StreamSplit", spec := "streamSplit", apart := false, narrowed := true }
def StreamSplitUptoSaid : Prop := streamSplitUptoRow.holds Try.pinned (OpenSpec.upto streamSplitSpec)

/-- 'purlieulaw25.StreamIth', WHERE WHAT IT READS IS OF BULK AT MOST 1048576: true; the input reads as it did. -/
def streamIthUptoRow : OpenClaim := { program := "ytpcggfaohgemjaa", sum := "3d0bc7dec2720e30ed479e7eb7170cfa639f5f052372a996e51c58e304e87e60", func := "purlieu/purlieulaw25.StreamIth", spec := "streamIth", apart := false, narrowed := true }
def StreamIthUptoSaid : Prop := streamIthUptoRow.holds Try.pinned (OpenSpec.upto streamIthSpec)

/-- 'purlieulaw25.StreamSeeds', WHERE WHAT IT READS IS OF BULK AT MOST 1048576: true; the input reads as it did. -/
def streamSeedsUptoRow : OpenClaim := { program := "ytpcggfaohgemjaa", sum := "3d0bc7dec2720e30ed479e7eb7170cfa639f5f052372a996e51c58e304e87e60", func := "purlieu/purlieulaw25.StreamSeeds", spec := "streamSeeds", apart := false, narrowed := true }
def StreamSeedsUptoSaid : Prop := streamSeedsUptoRow.holds Try.pinned (OpenSpec.upto streamSeedsSpec)

/-- 'purlieulaw25.StreamBack', WHERE WHAT IT READS IS OF BULK AT MOST 1048576: true; the input reads as it did. -/
def streamBackUptoRow : OpenClaim := { program := "ytpcggfaohgemjaa", sum := "3d0bc7dec2720e30ed479e7eb7170cfa639f5f052372a996e51c58e304e87e60", func := "purlieu/purlieulaw25.StreamBack", spec := "streamBack", apart := false, narrowed := true }
def StreamBackUptoSaid : Prop := streamBackUptoRow.holds Try.pinned (OpenSpec.upto streamBackSpec)

/-- 'purlieulaw25.StreamPerms', WHERE WHAT IT READS IS OF BULK AT MOST 1048576: true; the input reads as it did. -/
def streamPermsUptoRow : OpenClaim := { program := "ytpcggfaohgemjaa", sum := "3d0bc7dec2720e30ed479e7eb7170cfa639f5f052372a996e51c58e304e87e60", func := "purlieu/purlieulaw25.StreamPerms", spec := "streamPerms", apart := false, narrowed := true }
def StreamPermsUptoSaid : Prop := streamPermsUptoRow.holds Try.pinned (OpenSpec.upto streamPermsSpec)

/-- 'purlieulaw25.StreamOnce', WHERE WHAT IT READS IS OF BULK AT MOST 1048576: true; the input reads as it did. -/
def streamOnceUptoRow : OpenClaim := { program := "ytpcggfaohgemjaa", sum := "3d0bc7dec2720e30ed479e7eb7170cfa639f5f052372a996e51c58e304e87e60", func := "purlieu/purlieulaw25.StreamOnce", spec := "streamOnce", apart := false, narrowed := true }
def StreamOnceUptoSaid : Prop := streamOnceUptoRow.holds Try.pinned (OpenSpec.upto streamOnceSpec)

end Rows
end Go.Proofs.Ytpcggfaohgemjaa
