/-
  No cell of these rows narrows 'for every input' (looked for: loops, veiled, ifaces, maps, wideKeys, modest, calm, conditions, laid).
  DERIVED. THE GIVEN ROWS OF THIS SEAT. 7 by the template 'for every input the law returns true; each argument reads behind the call as it read before'; 0 by the template 'total and deterministic' (their statements: YtfligkncdlocaaaTotals.lean).
  GIVEN WITH THE SEED: the statements are not yours to turn. If you find one false, say at which input.
  Laid BY PROGRAM, IN A SANDBOX (cutbox-rows.mjs): the forced cells as the released guide's own fill.sh prints them over the translation c77387159859a9fa… (all of the seat's roots in one cut). By AI agents, Wed Nov 11 2026. No macro, syntax, notation, axiom, sorry.
-/
import Derived.Test.YtfligkncdlocaaaChecked
import GoSem.Claim
import GoSem.ClaimJoined
import GoSem.ClaimMapViews
import Derived.JoinedTies
import Derived.KernelRfl
namespace Go.Proofs.Ytfligkncdlocaaa
/- THE CELL 'sum', in the pinned program and in every row, IS THE sha256 OF THE DUMP (.gsa) THAT YtfligkncdlocaaaProg.lean LOADS. Nothing in Lean hashes anything: it is a label: what it is worth is what the hold of that sum in a sandbox is worth. -/
noncomputable def Try.pinned : Pinned := { name := "ytfligkncdlocaaa", sum := "c77387159859a9fa819548222dadcf6e46e8c92f3ef2238b58625ec87b4fbec0", checked := Try.checked }
namespace Rows
def none {H : Type} : Left H := { results := [], args := [] }

/-- 'quiltlaw47.IbltPeel': WHATEVER THE INPUT: true; the input reads as it did. -/
def ibltPeelSpec : ChangeSpec := { name := "ibltPeel", fn := fun _ => fun
  | [d] => { results := [.lit (.bool true)], args := [d] }
  | _ => none }
def ibltPeelRow : OpenClaim := { program := "ytfligkncdlocaaa", sum := "c77387159859a9fa819548222dadcf6e46e8c92f3ef2238b58625ec87b4fbec0", func := "quilt/quiltlaw47.IbltPeel", spec := "ibltPeel", inPlace := ["internal/bytealg.Compare"], unfollowed := true, recurses := true, apart := false }
def IbltPeelSaid : Prop := ibltPeelRow.holds Try.pinned (OpenSpec.ofChange ibltPeelSpec)

/-- ITS FALSE NEIGHBOUR: 'it returns false'. Refute it at one input. -/
def ibltPeelWrong : ChangeSpec := { name := "ibltPeel", fn := fun _ => fun
  | [d] => { results := [.lit (.bool false)], args := [d] }
  | _ => none }
def IbltPeelWrongFalsely : Prop := ibltPeelRow.holds Try.pinned (OpenSpec.ofChange ibltPeelWrong)

/-- 'quiltlaw47.IbltCells': WHATEVER THE INPUT: true; the input reads as it did. -/
def ibltCellsSpec : ChangeSpec := { name := "ibltCells", fn := fun _ => fun
  | [d1, d2, d3] => { results := [.lit (.bool true)], args := [d1, d2, d3] }
  | _ => none }
def ibltCellsRow : OpenClaim := { program := "ytfligkncdlocaaa", sum := "c77387159859a9fa819548222dadcf6e46e8c92f3ef2238b58625ec87b4fbec0", func := "quilt/quiltlaw47.IbltCells", spec := "ibltCells", inPlace := ["internal/bytealg.Compare"], unfollowed := true, recurses := true, apart := false }
def IbltCellsSaid : Prop := ibltCellsRow.holds Try.pinned (OpenSpec.ofChange ibltCellsSpec)

/-- ITS FALSE NEIGHBOUR: 'it returns false'. Refute it at one input. -/
def ibltCellsWrong : ChangeSpec := { name := "ibltCells", fn := fun _ => fun
  | [d1, d2, d3] => { results := [.lit (.bool false)], args := [d1, d2, d3] }
  | _ => none }
def IbltCellsWrongFalsely : Prop := ibltCellsRow.holds Try.pinned (OpenSpec.ofChange ibltCellsWrong)

/-- 'quiltlaw47.IbltDifference': WHATEVER THE INPUT: true; the input reads as it did. -/
def ibltDifferenceSpec : ChangeSpec := { name := "ibltDifference", fn := fun _ => fun
  | [d1, d2, d3, d4] => { results := [.lit (.bool true)], args := [d1, d2, d3, d4] }
  | _ => none }
def ibltDifferenceRow : OpenClaim := { program := "ytfligkncdlocaaa", sum := "c77387159859a9fa819548222dadcf6e46e8c92f3ef2238b58625ec87b4fbec0", func := "quilt/quiltlaw47.IbltDifference", spec := "ibltDifference", inPlace := ["internal/bytealg.Compare"], unfollowed := true, recurses := true, apart := false }
def IbltDifferenceSaid : Prop := ibltDifferenceRow.holds Try.pinned (OpenSpec.ofChange ibltDifferenceSpec)

/-- ITS FALSE NEIGHBOUR: 'it returns false'. Refute it at one input. -/
def ibltDifferenceWrong : ChangeSpec := { name := "ibltDifference", fn := fun _ => fun
  | [d1, d2, d3, d4] => { results := [.lit (.bool false)], args := [d1, d2, d3, d4] }
  | _ => none }
def IbltDifferenceWrongFalsely : Prop := ibltDifferenceRow.holds Try.pinned (OpenSpec.ofChange ibltDifferenceWrong)

/-- 'quiltlaw47.IbltRestores': WHATEVER THE INPUT: true; the input reads as it did. -/
def ibltRestoresSpec : ChangeSpec := { name := "ibltRestores", fn := fun _ => fun
  | [d] => { results := [.lit (.bool true)], args := [d] }
  | _ => none }
def ibltRestoresRow : OpenClaim := { program := "ytfligkncdlocaaa", sum := "c77387159859a9fa819548222dadcf6e46e8c92f3ef2238b58625ec87b4fbec0", func := "quilt/quiltlaw47.IbltRestores", spec := "ibltRestores", inPlace := ["internal/bytealg.Compare"], unfollowed := true, recurses := true, apart := false }
def IbltRestoresSaid : Prop := ibltRestoresRow.holds Try.pinned (OpenSpec.ofChange ibltRestoresSpec)

/-- ITS FALSE NEIGHBOUR: 'it returns false'. Refute it at one input. -/
def ibltRestoresWrong : ChangeSpec := { name := "ibltRestores", fn := fun _ => fun
  | [d] => { results := [.lit (.bool false)], args := [d] }
  | _ => none }
def IbltRestoresWrongFalsely : Prop := ibltRestoresRow.holds Try.pinned (OpenSpec.ofChange ibltRestoresWrong)

/-- 'quiltlaw47.IbltSingle': WHATEVER THE INPUT: true; the input reads as it did. -/
def ibltSingleSpec : ChangeSpec := { name := "ibltSingle", fn := fun _ => fun
  | [d1, d2] => { results := [.lit (.bool true)], args := [d1, d2] }
  | _ => none }
def ibltSingleRow : OpenClaim := { program := "ytfligkncdlocaaa", sum := "c77387159859a9fa819548222dadcf6e46e8c92f3ef2238b58625ec87b4fbec0", func := "quilt/quiltlaw47.IbltSingle", spec := "ibltSingle", inPlace := ["internal/bytealg.Compare"], unfollowed := true, recurses := true, apart := false }
def IbltSingleSaid : Prop := ibltSingleRow.holds Try.pinned (OpenSpec.ofChange ibltSingleSpec)

/-- ITS FALSE NEIGHBOUR: 'it returns false'. Refute it at one input. -/
def ibltSingleWrong : ChangeSpec := { name := "ibltSingle", fn := fun _ => fun
  | [d1, d2] => { results := [.lit (.bool false)], args := [d1, d2] }
  | _ => none }
def IbltSingleWrongFalsely : Prop := ibltSingleRow.holds Try.pinned (OpenSpec.ofChange ibltSingleWrong)

/-- 'quiltlaw47.IbltSides': WHATEVER THE INPUT: true; the input reads as it did. -/
def ibltSidesSpec : ChangeSpec := { name := "ibltSides", fn := fun _ => fun
  | [d1, d2] => { results := [.lit (.bool true)], args := [d1, d2] }
  | _ => none }
def ibltSidesRow : OpenClaim := { program := "ytfligkncdlocaaa", sum := "c77387159859a9fa819548222dadcf6e46e8c92f3ef2238b58625ec87b4fbec0", func := "quilt/quiltlaw47.IbltSides", spec := "ibltSides", inPlace := ["internal/bytealg.Compare"], unfollowed := true, recurses := true, apart := false }
def IbltSidesSaid : Prop := ibltSidesRow.holds Try.pinned (OpenSpec.ofChange ibltSidesSpec)

/-- ITS FALSE NEIGHBOUR: 'it returns false'. Refute it at one input. -/
def ibltSidesWrong : ChangeSpec := { name := "ibltSides", fn := fun _ => fun
  | [d1, d2] => { results := [.lit (.bool false)], args := [d1, d2] }
  | _ => none }
def IbltSidesWrongFalsely : Prop := ibltSidesRow.holds Try.pinned (OpenSpec.ofChange ibltSidesWrong)

/-- 'quiltlaw47.IbltOrder': WHATEVER THE INPUT: true; the input reads as it did. -/
def ibltOrderSpec : ChangeSpec := { name := "ibltOrder", fn := fun _ => fun
  | [d1, d2] => { results := [.lit (.bool true)], args := [d1, d2] }
  | _ => none }
def ibltOrderRow : OpenClaim := { program := "ytfligkncdlocaaa", sum := "c77387159859a9fa819548222dadcf6e46e8c92f3ef2238b58625ec87b4fbec0", func := "quilt/quiltlaw47.IbltOrder", spec := "ibltOrder", inPlace := ["internal/bytealg.Compare"], unfollowed := true, recurses := true, apart := false }
def IbltOrderSaid : Prop := ibltOrderRow.holds Try.pinned (OpenSpec.ofChange ibltOrderSpec)

/-- ITS FALSE NEIGHBOUR: 'it returns false'. Refute it at one input. -/
def ibltOrderWrong : ChangeSpec := { name := "ibltOrder", fn := fun _ => fun
  | [d1, d2] => { results := [.lit (.bool false)], args := [d1, d2] }
  | _ => none }
def IbltOrderWrongFalsely : Prop := ibltOrderRow.holds Try.pinned (OpenSpec.ofChange ibltOrderWrong)

/- THE SECOND FORM. 'bulk': how many values and letters a reading holds, each counted each time it is reached (what is shared counts as often as it is met; a slice's spare places count too). A statement '..UptoSaid' is the law's where the arguments, and the package variables that the reading takes, are together of bulk at most 1048576: NARROWER than '..Said'. Prove '..Said' where nothing that the law and all that it calls make is longer than what came in: it says more and counts as full. Else prove '..UptoSaid'. A law counts once. -/
mutual
def uptoBulk {H : Type} : DataW H → Nat
  | .lit (.string bytes) => bytes.length + 1
  | .lit _ => 1
  | .nil => 1
  | .ptr d => uptoBulk d + 1
  | .slice elems spare => uptoBulkAll elems + uptoBulkAll spare + 1
  | .agg parts => uptoBulkAll parts + 1
  | .iface _ d => uptoBulk d + 1
  | .map entries => uptoBulkEntries entries + 1
  | .held _ => 1
def uptoBulkAll {H : Type} : List (DataW H) → Nat
  | [] => 0
  | d :: r => uptoBulk d + uptoBulkAll r
def uptoBulkEntries {H : Type} : List (Lit × DataW H) → Nat
  | [] => 0
  | x :: r => uptoBulkEntry x + uptoBulkEntries r
def uptoBulkEntry {H : Type} : Lit × DataW H → Nat
  | (.string bytes, d) => bytes.length + uptoBulk d + 1
  | (_, d) => uptoBulk d + 1
 end
def uptoSmall : (H : Type) → List (DataW H) → Bool := fun _ ds => decide (uptoBulkAll ds ≤ 1048576)
def OpenSpec.upto (s : _root_.Go.ChangeSpec) : _root_.Go.OpenSpec := { _root_.Go.OpenSpec.ofChange s with cond := some uptoSmall }

/-- 'quiltlaw47.IbltPeel', WHERE WHAT IT READS IS OF BULK AT MOST 1048576: true; the input reads as it did. -/
def ibltPeelUptoRow : OpenClaim := { program := "ytfligkncdlocaaa", sum := "c77387159859a9fa819548222dadcf6e46e8c92f3ef2238b58625ec87b4fbec0", func := "quilt/quiltlaw47.IbltPeel", spec := "ibltPeel", inPlace := ["internal/bytealg.Compare"], unfollowed := true, recurses := true, apart := false, narrowed := true }
def IbltPeelUptoSaid : Prop := ibltPeelUptoRow.holds Try.pinned (OpenSpec.upto ibltPeelSpec)

/-- 'quiltlaw47.IbltCells', WHERE WHAT IT READS IS OF BULK AT MOST 1048576: true; the input reads as it did. -/
def ibltCellsUptoRow : OpenClaim := { program := "ytfligkncdlocaaa", sum := "c77387159859a9fa819548222dadcf6e46e8c92f3ef2238b58625ec87b4fbec0", func := "quilt/quiltlaw47.IbltCells", spec := "ibltCells", inPlace := ["internal/bytealg.Compare"], unfollowed := true, recurses := true, apart := false, narrowed := true }
def IbltCellsUptoSaid : Prop := ibltCellsUptoRow.holds Try.pinned (OpenSpec.upto ibltCellsSpec)

/-- 'quiltlaw47.IbltDifference', WHERE WHAT IT READS IS OF BULK AT MOST 1048576: true; the input reads as it did. -/
def ibltDifferenceUptoRow : OpenClaim := { program := "ytfligkncdlocaaa", sum := "c77387159859a9fa819548222dadcf6e46e8c92f3ef2238b58625ec87b4fbec0", func := "quilt/quiltlaw47.IbltDifference", spec := "ibltDifference", inPlace := ["internal/bytealg.Compare"], unfollowed := true, recurses := true, apart := false, narrowed := true }
def IbltDifferenceUptoSaid : Prop := ibltDifferenceUptoRow.holds Try.pinned (OpenSpec.upto ibltDifferenceSpec)

/-- 'quiltlaw47.IbltRestores', WHERE WHAT IT READS IS OF BULK AT MOST 1048576: true; the input reads as it did. -/
def ibltRestoresUptoRow : OpenClaim := { program := "ytfligkncdlocaaa", sum := "c77387159859a9fa819548222dadcf6e46e8c92f3ef2238b58625ec87b4fbec0", func := "quilt/quiltlaw47.IbltRestores", spec := "ibltRestores", inPlace := ["internal/bytealg.Compare"], unfollowed := true, recurses := true, apart := false, narrowed := true }
def IbltRestoresUptoSaid : Prop := ibltRestoresUptoRow.holds Try.pinned (OpenSpec.upto ibltRestoresSpec)

/-- 'quiltlaw47.IbltSingle', WHERE WHAT IT READS IS OF BULK AT MOST 1048576: true; the input reads as it did. -/
def ibltSingleUptoRow : OpenClaim := { program := "ytfligkncdlocaaa", sum := "c77387159859a9fa819548222dadcf6e46e8c92f3ef2238b58625ec87b4fbec0", func := "quilt/quiltlaw47.IbltSingle", spec := "ibltSingle", inPlace := ["internal/bytealg.Compare"], unfollowed := true, recurses := true, apart := false, narrowed := true }
def IbltSingleUptoSaid : Prop := ibltSingleUptoRow.holds Try.pinned (OpenSpec.upto ibltSingleSpec)

/-- 'quiltlaw47.IbltSides', WHERE WHAT IT READS IS OF BULK AT MOST 1048576: true; the input reads as it did. -/
def ibltSidesUptoRow : OpenClaim := { program := "ytfligkncdlocaaa", sum := "c77387159859a9fa819548222dadcf6e46e8c92f3ef2238b58625ec87b4fbec0", func := "quilt/quiltlaw47.IbltSides", spec := "ibltSides", inPlace := ["internal/bytealg.Compare"], unfollowed := true, recurses := true, apart := false, narrowed := true }
def IbltSidesUptoSaid : Prop := ibltSidesUptoRow.holds Try.pinned (OpenSpec.upto ibltSidesSpec)

/-- 'quiltlaw47.IbltOrder', WHERE WHAT IT READS IS OF BULK AT MOST 1048576: true; the input reads as it did. -/
def ibltOrderUptoRow : OpenClaim := { program := "ytfligkncdlocaaa", sum := "c77387159859a9fa819548222dadcf6e46e8c92f3ef2238b58625ec87b4fbec0", func := "quilt/quiltlaw47.IbltOrder", spec := "ibltOrder", inPlace := ["internal/bytealg.Compare"], unfollowed := true, recurses := true, apart := false, narrowed := true }
def IbltOrderUptoSaid : Prop := ibltOrderUptoRow.holds Try.pinned (OpenSpec.upto ibltOrderSpec)

end Rows
end Go.Proofs.Ytfligkncdlocaaa
