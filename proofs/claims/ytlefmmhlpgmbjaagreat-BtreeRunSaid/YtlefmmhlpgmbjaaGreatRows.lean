/-
  No cell of these rows narrows 'for every input' (looked for: loops, veiled, ifaces, maps, wideKeys, modest, calm, conditions, laid).
  DERIVED. THE GIVEN ROWS OF THIS SEAT. 9 by the template 'for every input the law returns true; each argument reads behind the call as it read before'; 0 by the template 'total and deterministic' (their statements: YtlefmmhlpgmbjaaGreatTotals.lean).
  GIVEN WITH THE SEED: the statements are not yours to turn. If you find one false, say at which input.
  Laid BY PROGRAM, IN A SANDBOX (cutbox-rows.mjs): the forced cells as the released guide's own fill.sh prints them over the translation 9312caef7561ec57… (all of the seat's roots in one cut). By AI agents, Wed Nov 11 2026. No macro, syntax, notation, axiom, sorry.
-/
import Derived.Test.YtlefmmhlpgmbjaaGreatChecked
import GoSem.Claim
import GoSem.ClaimJoined
import GoSem.ClaimMapViews
import Derived.JoinedTies
import Derived.KernelRfl
namespace Go.Proofs.YtlefmmhlpgmbjaaGreat
/- THE CELL 'sum', in the pinned program and in every row, IS THE sha256 OF THE DUMP (.gsa) THAT YtlefmmhlpgmbjaaGreatProg.lean LOADS. Nothing in Lean hashes anything: it is a label: what it is worth is what the hold of that sum in a sandbox is worth. -/
noncomputable def Tryz.pinned : Pinned := { name := "ytlefmmhlpgmbjaagreat", sum := "9312caef7561ec577c9202e75ed0009f41c7145a7ef15cd82aac92b79be48e10", checked := Tryz.checked }
namespace Rows
def none {H : Type} : Left H := { results := [], args := [] }

/-- 'quiltlaw42.BtreeOpen': WHATEVER THE INPUT: true; the input reads as it did. -/
def btreeOpenSpec : ChangeSpec := { name := "btreeOpen", fn := fun _ => fun
  | [d1, d2, d3] => { results := [.lit (.bool true)], args := [d1, d2, d3] }
  | _ => none }
def btreeOpenRow : OpenClaim := { program := "ytlefmmhlpgmbjaagreat", sum := "9312caef7561ec577c9202e75ed0009f41c7145a7ef15cd82aac92b79be48e10", func := "quilt/quiltlaw42.BtreeOpen", spec := "btreeOpen", inPlace := ["internal/abi.NoEscape", "internal/bytealg.MakeNoZero", "internal/bytealg.abigen_runtime_cmpstring", "slices.overlaps[quilt/api.Pair]", "slices.overlaps[*quilt/btree.node]"], unfollowed := true, recurses := true, apart := false }
def BtreeOpenSaid : Prop := btreeOpenRow.holds Tryz.pinned (OpenSpec.ofChange btreeOpenSpec)

/-- ITS FALSE NEIGHBOUR: 'it returns false'. Refute it at one input. -/
def btreeOpenWrong : ChangeSpec := { name := "btreeOpen", fn := fun _ => fun
  | [d1, d2, d3] => { results := [.lit (.bool false)], args := [d1, d2, d3] }
  | _ => none }
def BtreeOpenWrongFalsely : Prop := btreeOpenRow.holds Tryz.pinned (OpenSpec.ofChange btreeOpenWrong)

/-- 'quiltlaw42.BtreeReads': WHATEVER THE INPUT: true; the input reads as it did. -/
def btreeReadsSpec : ChangeSpec := { name := "btreeReads", fn := fun _ => fun
  | [d1, d2, d3] => { results := [.lit (.bool true)], args := [d1, d2, d3] }
  | _ => none }
def btreeReadsRow : OpenClaim := { program := "ytlefmmhlpgmbjaagreat", sum := "9312caef7561ec577c9202e75ed0009f41c7145a7ef15cd82aac92b79be48e10", func := "quilt/quiltlaw42.BtreeReads", spec := "btreeReads", inPlace := ["internal/abi.NoEscape", "internal/bytealg.MakeNoZero", "internal/bytealg.abigen_runtime_cmpstring", "slices.overlaps[quilt/api.Pair]", "slices.overlaps[*quilt/btree.node]"], unfollowed := true, recurses := true, apart := false }
def BtreeReadsSaid : Prop := btreeReadsRow.holds Tryz.pinned (OpenSpec.ofChange btreeReadsSpec)

/-- ITS FALSE NEIGHBOUR: 'it returns false'. Refute it at one input. -/
def btreeReadsWrong : ChangeSpec := { name := "btreeReads", fn := fun _ => fun
  | [d1, d2, d3] => { results := [.lit (.bool false)], args := [d1, d2, d3] }
  | _ => none }
def BtreeReadsWrongFalsely : Prop := btreeReadsRow.holds Tryz.pinned (OpenSpec.ofChange btreeReadsWrong)

/-- 'quiltlaw42.BtreeRun': WHATEVER THE INPUT: true; the input reads as it did. -/
def btreeRunSpec : ChangeSpec := { name := "btreeRun", fn := fun _ => fun
  | [d] => { results := [.lit (.bool true)], args := [d] }
  | _ => none }
def btreeRunRow : OpenClaim := { program := "ytlefmmhlpgmbjaagreat", sum := "9312caef7561ec577c9202e75ed0009f41c7145a7ef15cd82aac92b79be48e10", func := "quilt/quiltlaw42.BtreeRun", spec := "btreeRun", inPlace := ["internal/abi.NoEscape", "internal/bytealg.MakeNoZero", "internal/bytealg.abigen_runtime_cmpstring", "slices.overlaps[quilt/api.Pair]", "slices.overlaps[*quilt/btree.node]"], unfollowed := true, recurses := true, apart := false }
def BtreeRunSaid : Prop := btreeRunRow.holds Tryz.pinned (OpenSpec.ofChange btreeRunSpec)

/-- ITS FALSE NEIGHBOUR: 'it returns false'. Refute it at one input. -/
def btreeRunWrong : ChangeSpec := { name := "btreeRun", fn := fun _ => fun
  | [d] => { results := [.lit (.bool false)], args := [d] }
  | _ => none }
def BtreeRunWrongFalsely : Prop := btreeRunRow.holds Tryz.pinned (OpenSpec.ofChange btreeRunWrong)

/-- 'quiltlaw42.BtreeDurable': WHATEVER THE INPUT: true; the input reads as it did. -/
def btreeDurableSpec : ChangeSpec := { name := "btreeDurable", fn := fun _ => fun
  | [d1, d2] => { results := [.lit (.bool true)], args := [d1, d2] }
  | _ => none }
def btreeDurableRow : OpenClaim := { program := "ytlefmmhlpgmbjaagreat", sum := "9312caef7561ec577c9202e75ed0009f41c7145a7ef15cd82aac92b79be48e10", func := "quilt/quiltlaw42.BtreeDurable", spec := "btreeDurable", inPlace := ["internal/abi.NoEscape", "internal/bytealg.MakeNoZero", "internal/bytealg.abigen_runtime_cmpstring", "slices.overlaps[quilt/api.Pair]", "slices.overlaps[*quilt/btree.node]"], unfollowed := true, recurses := true, apart := false }
def BtreeDurableSaid : Prop := btreeDurableRow.holds Tryz.pinned (OpenSpec.ofChange btreeDurableSpec)

/-- ITS FALSE NEIGHBOUR: 'it returns false'. Refute it at one input. -/
def btreeDurableWrong : ChangeSpec := { name := "btreeDurable", fn := fun _ => fun
  | [d1, d2] => { results := [.lit (.bool false)], args := [d1, d2] }
  | _ => none }
def BtreeDurableWrongFalsely : Prop := btreeDurableRow.holds Tryz.pinned (OpenSpec.ofChange btreeDurableWrong)

/-- 'quiltlaw42.BtreeAtomic': WHATEVER THE INPUT: true; the input reads as it did. -/
def btreeAtomicSpec : ChangeSpec := { name := "btreeAtomic", fn := fun _ => fun
  | [d1, d2, d3, d4] => { results := [.lit (.bool true)], args := [d1, d2, d3, d4] }
  | _ => none }
def btreeAtomicRow : OpenClaim := { program := "ytlefmmhlpgmbjaagreat", sum := "9312caef7561ec577c9202e75ed0009f41c7145a7ef15cd82aac92b79be48e10", func := "quilt/quiltlaw42.BtreeAtomic", spec := "btreeAtomic", inPlace := ["internal/abi.NoEscape", "internal/bytealg.MakeNoZero", "internal/bytealg.abigen_runtime_cmpstring", "slices.overlaps[quilt/api.Pair]", "slices.overlaps[*quilt/btree.node]"], unfollowed := true, recurses := true, apart := false }
def BtreeAtomicSaid : Prop := btreeAtomicRow.holds Tryz.pinned (OpenSpec.ofChange btreeAtomicSpec)

/-- ITS FALSE NEIGHBOUR: 'it returns false'. Refute it at one input. -/
def btreeAtomicWrong : ChangeSpec := { name := "btreeAtomic", fn := fun _ => fun
  | [d1, d2, d3, d4] => { results := [.lit (.bool false)], args := [d1, d2, d3, d4] }
  | _ => none }
def BtreeAtomicWrongFalsely : Prop := btreeAtomicRow.holds Tryz.pinned (OpenSpec.ofChange btreeAtomicWrong)

/-- 'quiltlaw42.BtreeRoom': WHATEVER THE INPUT: true; the input reads as it did. -/
def btreeRoomSpec : ChangeSpec := { name := "btreeRoom", fn := fun _ => fun
  | [d1, d2] => { results := [.lit (.bool true)], args := [d1, d2] }
  | _ => none }
def btreeRoomRow : OpenClaim := { program := "ytlefmmhlpgmbjaagreat", sum := "9312caef7561ec577c9202e75ed0009f41c7145a7ef15cd82aac92b79be48e10", func := "quilt/quiltlaw42.BtreeRoom", spec := "btreeRoom", inPlace := ["internal/abi.NoEscape", "internal/bytealg.MakeNoZero", "internal/bytealg.abigen_runtime_cmpstring", "slices.overlaps[quilt/api.Pair]", "slices.overlaps[*quilt/btree.node]"], unfollowed := true, recurses := true, apart := false }
def BtreeRoomSaid : Prop := btreeRoomRow.holds Tryz.pinned (OpenSpec.ofChange btreeRoomSpec)

/-- ITS FALSE NEIGHBOUR: 'it returns false'. Refute it at one input. -/
def btreeRoomWrong : ChangeSpec := { name := "btreeRoom", fn := fun _ => fun
  | [d1, d2] => { results := [.lit (.bool false)], args := [d1, d2] }
  | _ => none }
def BtreeRoomWrongFalsely : Prop := btreeRoomRow.holds Tryz.pinned (OpenSpec.ofChange btreeRoomWrong)

/-- 'quiltlaw42.BtreeCompares': WHATEVER THE INPUT: true; the input reads as it did. -/
def btreeComparesSpec : ChangeSpec := { name := "btreeCompares", fn := fun _ => fun
  | [d1, d2, d3, d4] => { results := [.lit (.bool true)], args := [d1, d2, d3, d4] }
  | _ => none }
def btreeComparesRow : OpenClaim := { program := "ytlefmmhlpgmbjaagreat", sum := "9312caef7561ec577c9202e75ed0009f41c7145a7ef15cd82aac92b79be48e10", func := "quilt/quiltlaw42.BtreeCompares", spec := "btreeCompares", inPlace := ["internal/abi.NoEscape", "internal/bytealg.MakeNoZero", "internal/bytealg.abigen_runtime_cmpstring", "slices.overlaps[quilt/api.Pair]", "slices.overlaps[*quilt/btree.node]"], unfollowed := true, recurses := true, apart := false }
def BtreeComparesSaid : Prop := btreeComparesRow.holds Tryz.pinned (OpenSpec.ofChange btreeComparesSpec)

/-- ITS FALSE NEIGHBOUR: 'it returns false'. Refute it at one input. -/
def btreeComparesWrong : ChangeSpec := { name := "btreeCompares", fn := fun _ => fun
  | [d1, d2, d3, d4] => { results := [.lit (.bool false)], args := [d1, d2, d3, d4] }
  | _ => none }
def BtreeComparesWrongFalsely : Prop := btreeComparesRow.holds Tryz.pinned (OpenSpec.ofChange btreeComparesWrong)

/-- 'quiltlaw42.BtreeElsewhere': WHATEVER THE INPUT: true; the input reads as it did. -/
def btreeElsewhereSpec : ChangeSpec := { name := "btreeElsewhere", fn := fun _ => fun
  | [d] => { results := [.lit (.bool true)], args := [d] }
  | _ => none }
def btreeElsewhereRow : OpenClaim := { program := "ytlefmmhlpgmbjaagreat", sum := "9312caef7561ec577c9202e75ed0009f41c7145a7ef15cd82aac92b79be48e10", func := "quilt/quiltlaw42.BtreeElsewhere", spec := "btreeElsewhere", inPlace := ["internal/abi.NoEscape", "internal/bytealg.MakeNoZero", "internal/bytealg.abigen_runtime_cmpstring", "slices.overlaps[quilt/api.Pair]", "slices.overlaps[*quilt/btree.node]"], unfollowed := true, recurses := true, apart := false }
def BtreeElsewhereSaid : Prop := btreeElsewhereRow.holds Tryz.pinned (OpenSpec.ofChange btreeElsewhereSpec)

/-- ITS FALSE NEIGHBOUR: 'it returns false'. Refute it at one input. -/
def btreeElsewhereWrong : ChangeSpec := { name := "btreeElsewhere", fn := fun _ => fun
  | [d] => { results := [.lit (.bool false)], args := [d] }
  | _ => none }
def BtreeElsewhereWrongFalsely : Prop := btreeElsewhereRow.holds Tryz.pinned (OpenSpec.ofChange btreeElsewhereWrong)

/-- 'quiltlaw42.BtreeContents': WHATEVER THE INPUT: true; the input reads as it did. -/
def btreeContentsSpec : ChangeSpec := { name := "btreeContents", fn := fun _ => fun
  | [d1, d2] => { results := [.lit (.bool true)], args := [d1, d2] }
  | _ => none }
def btreeContentsRow : OpenClaim := { program := "ytlefmmhlpgmbjaagreat", sum := "9312caef7561ec577c9202e75ed0009f41c7145a7ef15cd82aac92b79be48e10", func := "quilt/quiltlaw42.BtreeContents", spec := "btreeContents", inPlace := ["internal/abi.NoEscape", "internal/bytealg.MakeNoZero", "internal/bytealg.abigen_runtime_cmpstring", "slices.overlaps[quilt/api.Pair]", "slices.overlaps[*quilt/btree.node]"], unfollowed := true, recurses := true, apart := false }
def BtreeContentsSaid : Prop := btreeContentsRow.holds Tryz.pinned (OpenSpec.ofChange btreeContentsSpec)

/-- ITS FALSE NEIGHBOUR: 'it returns false'. Refute it at one input. -/
def btreeContentsWrong : ChangeSpec := { name := "btreeContents", fn := fun _ => fun
  | [d1, d2] => { results := [.lit (.bool false)], args := [d1, d2] }
  | _ => none }
def BtreeContentsWrongFalsely : Prop := btreeContentsRow.holds Tryz.pinned (OpenSpec.ofChange btreeContentsWrong)

/- THE SECOND FORM. 'bulk': how many values and letters a reading holds, each counted each time it is reached (what is shared counts as often as it is met; a slice's spare places count too). A statement '..UptoSaid' is the law's where the arguments, and the package variables that the reading takes, are together of bulk at most 1048576: NARROWER than '..Said'. Prove '..Said' where nothing that the law and all that it calls make is longer than what came in: it says more and counts as full. Else prove '..UptoSaid'. A law counts once. -/
mutual
def uptoBulk {H : Type} : DataW H → Nat
  | .lit (.string bytes) => bytes.length + 1
  | .lit _ => 1
  | .nil => 1
  | .ptr d => uptoBulk d + 1
  | .slice elems spare => uptoBulkAll elems + uptoBulkAll spare + 1
  | .agg parts => uptoBulkAll parts + 1
  | .iface _ d => uptoBulk d + 1
  | .map entries => uptoBulkEntries entries + 1
  | .held _ => 1
def uptoBulkAll {H : Type} : List (DataW H) → Nat
  | [] => 0
  | d :: r => uptoBulk d + uptoBulkAll r
def uptoBulkEntries {H : Type} : List (Lit × DataW H) → Nat
  | [] => 0
  | x :: r => uptoBulkEntry x + uptoBulkEntries r
def uptoBulkEntry {H : Type} : Lit × DataW H → Nat
  | (.string bytes, d) => bytes.length + uptoBulk d + 1
  | (_, d) => uptoBulk d + 1
 end
def uptoSmall : (H : Type) → List (DataW H) → Bool := fun _ ds => decide (uptoBulkAll ds ≤ 1048576)
def OpenSpec.upto (s : _root_.Go.ChangeSpec) : _root_.Go.OpenSpec := { _root_.Go.OpenSpec.ofChange s with cond := some uptoSmall }

/-- 'quiltlaw42.BtreeOpen', WHERE WHAT IT READS IS OF BULK AT MOST 1048576: true; the input reads as it did. -/
def btreeOpenUptoRow : OpenClaim := { program := "ytlefmmhlpgmbjaagreat", sum := "9312caef7561ec577c9202e75ed0009f41c7145a7ef15cd82aac92b79be48e10", func := "quilt/quiltlaw42.BtreeOpen", spec := "btreeOpen", inPlace := ["internal/abi.NoEscape", "internal/bytealg.MakeNoZero", "internal/bytealg.abigen_runtime_cmpstring", "slices.overlaps[quilt/api.Pair]", "slices.overlaps[*quilt/btree.node]"], unfollowed := true, recurses := true, apart := false, narrowed := true }
def BtreeOpenUptoSaid : Prop := btreeOpenUptoRow.holds Tryz.pinned (OpenSpec.upto btreeOpenSpec)

/-- 'quiltlaw42.BtreeReads', WHERE WHAT IT READS IS OF BULK AT MOST 1048576: true; the input reads as it did. -/
def btreeReadsUptoRow : OpenClaim := { program := "ytlefmmhlpgmbjaagreat", sum := "9312caef7561ec577c9202e75ed0009f41c7145a7ef15cd82aac92b79be48e10", func := "quilt/quiltlaw42.BtreeReads", spec := "btreeReads", inPlace := ["internal/abi.NoEscape", "internal/bytealg.MakeNoZero", "internal/bytealg.abigen_runtime_cmpstring", "slices.overlaps[quilt/api.Pair]", "slices.overlaps[*quilt/btree.node]"], unfollowed := true, recurses := true, apart := false, narrowed := true }
def BtreeReadsUptoSaid : Prop := btreeReadsUptoRow.holds Tryz.pinned (OpenSpec.upto btreeReadsSpec)

/-- 'quiltlaw42.BtreeRun', WHERE WHAT IT READS IS OF BULK AT MOST 1048576: true; the input reads as it did. -/
def btreeRunUptoRow : OpenClaim := { program := "ytlefmmhlpgmbjaagreat", sum := "9312caef7561ec577c9202e75ed0009f41c7145a7ef15cd82aac92b79be48e10", func := "quilt/quiltlaw42.BtreeRun", spec := "btreeRun", inPlace := ["internal/abi.NoEscape", "internal/bytealg.MakeNoZero", "internal/bytealg.abigen_runtime_cmpstring", "slices.overlaps[quilt/api.Pair]", "slices.overlaps[*quilt/btree.node]"], unfollowed := true, recurses := true, apart := false, narrowed := true }
def BtreeRunUptoSaid : Prop := btreeRunUptoRow.holds Tryz.pinned (OpenSpec.upto btreeRunSpec)

/-- 'quiltlaw42.BtreeDurable', WHERE WHAT IT READS IS OF BULK AT MOST 1048576: true; the input reads as it did. -/
def btreeDurableUptoRow : OpenClaim := { program := "ytlefmmhlpgmbjaagreat", sum := "9312caef7561ec577c9202e75ed0009f41c7145a7ef15cd82aac92b79be48e10", func := "quilt/quiltlaw42.BtreeDurable", spec := "btreeDurable", inPlace := ["internal/abi.NoEscape", "internal/bytealg.MakeNoZero", "internal/bytealg.abigen_runtime_cmpstring", "slices.overlaps[quilt/api.Pair]", "slices.overlaps[*quilt/btree.node]"], unfollowed := true, recurses := true, apart := false, narrowed := true }
def BtreeDurableUptoSaid : Prop := btreeDurableUptoRow.holds Tryz.pinned (OpenSpec.upto btreeDurableSpec)

/-- 'quiltlaw42.BtreeAtomic', WHERE WHAT IT READS IS OF BULK AT MOST 1048576: true; the input reads as it did. -/
def btreeAtomicUptoRow : OpenClaim := { program := "ytlefmmhlpgmbjaagreat", sum := "9312caef7561ec577c9202e75ed0009f41c7145a7ef15cd82aac92b79be48e10", func := "quilt/quiltlaw42.BtreeAtomic", spec := "btreeAtomic", inPlace := ["internal/abi.NoEscape", "internal/bytealg.MakeNoZero", "internal/bytealg.abigen_runtime_cmpstring", "slices.overlaps[quilt/api.Pair]", "slices.overlaps[*quilt/btree.node]"], unfollowed := true, recurses := true, apart := false, narrowed := true }
def BtreeAtomicUptoSaid : Prop := btreeAtomicUptoRow.holds Tryz.pinned (OpenSpec.upto btreeAtomicSpec)

/-- 'quiltlaw42.BtreeRoom', WHERE WHAT IT READS IS OF BULK AT MOST 1048576: true; the input reads as it did. -/
def btreeRoomUptoRow : OpenClaim := { program := "ytlefmmhlpgmbjaagreat", sum := "9312caef7561ec577c9202e75ed0009f41c7145a7ef15cd82aac92b79be48e10", func := "quilt/quiltlaw42.BtreeRoom", spec := "btreeRoom", inPlace := ["internal/abi.NoEscape", "internal/bytealg.MakeNoZero", "internal/bytealg.abigen_runtime_cmpstring", "slices.overlaps[quilt/api.Pair]", "slices.overlaps[*quilt/btree.node]"], unfollowed := true, recurses := true, apart := false, narrowed := true }
def BtreeRoomUptoSaid : Prop := btreeRoomUptoRow.holds Tryz.pinned (OpenSpec.upto btreeRoomSpec)

/-- 'quiltlaw42.BtreeCompares', WHERE WHAT IT READS IS OF BULK AT MOST 1048576: true; the input reads as it did. -/
def btreeComparesUptoRow : OpenClaim := { program := "ytlefmmhlpgmbjaagreat", sum := "9312caef7561ec577c9202e75ed0009f41c7145a7ef15cd82aac92b79be48e10", func := "quilt/quiltlaw42.BtreeCompares", spec := "btreeCompares", inPlace := ["internal/abi.NoEscape", "internal/bytealg.MakeNoZero", "internal/bytealg.abigen_runtime_cmpstring", "slices.overlaps[quilt/api.Pair]", "slices.overlaps[*quilt/btree.node]"], unfollowed := true, recurses := true, apart := false, narrowed := true }
def BtreeComparesUptoSaid : Prop := btreeComparesUptoRow.holds Tryz.pinned (OpenSpec.upto btreeComparesSpec)

/-- 'quiltlaw42.BtreeElsewhere', WHERE WHAT IT READS IS OF BULK AT MOST 1048576: true; the input reads as it did. -/
def btreeElsewhereUptoRow : OpenClaim := { program := "ytlefmmhlpgmbjaagreat", sum := "9312caef7561ec577c9202e75ed0009f41c7145a7ef15cd82aac92b79be48e10", func := "quilt/quiltlaw42.BtreeElsewhere", spec := "btreeElsewhere", inPlace := ["internal/abi.NoEscape", "internal/bytealg.MakeNoZero", "internal/bytealg.abigen_runtime_cmpstring", "slices.overlaps[quilt/api.Pair]", "slices.overlaps[*quilt/btree.node]"], unfollowed := true, recurses := true, apart := false, narrowed := true }
def BtreeElsewhereUptoSaid : Prop := btreeElsewhereUptoRow.holds Tryz.pinned (OpenSpec.upto btreeElsewhereSpec)

/-- 'quiltlaw42.BtreeContents', WHERE WHAT IT READS IS OF BULK AT MOST 1048576: true; the input reads as it did. -/
def btreeContentsUptoRow : OpenClaim := { program := "ytlefmmhlpgmbjaagreat", sum := "9312caef7561ec577c9202e75ed0009f41c7145a7ef15cd82aac92b79be48e10", func := "quilt/quiltlaw42.BtreeContents", spec := "btreeContents", inPlace := ["internal/abi.NoEscape", "internal/bytealg.MakeNoZero", "internal/bytealg.abigen_runtime_cmpstring", "slices.overlaps[quilt/api.Pair]", "slices.overlaps[*quilt/btree.node]"], unfollowed := true, recurses := true, apart := false, narrowed := true }
def BtreeContentsUptoSaid : Prop := btreeContentsUptoRow.holds Tryz.pinned (OpenSpec.upto btreeContentsSpec)

end Rows
end Go.Proofs.YtlefmmhlpgmbjaaGreat
