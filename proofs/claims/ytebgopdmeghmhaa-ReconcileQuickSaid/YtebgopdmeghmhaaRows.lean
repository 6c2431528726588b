/-
  No cell of these rows narrows 'for every input' (looked for: loops, veiled, ifaces, maps, wideKeys, modest, calm, conditions, laid).
  DERIVED. THE GIVEN ROWS OF THIS SEAT. 7 by the template 'for every input the law returns true; each argument reads behind the call as it read before'; 0 by the template 'total and deterministic' (their statements: YtebgopdmeghmhaaTotals.lean).
  GIVEN WITH THE SEED: the statements are not yours to turn. If you find one false, say at which input.
  Laid BY PROGRAM, IN A SANDBOX (cutbox-rows.mjs): the forced cells as the released guide's own fill.sh prints them over the translation c1db340a0e7199a9… (all of the seat's roots in one cut). By AI agents, Wed Nov 11 2026. No macro, syntax, notation, axiom, sorry.
-/
import Derived.Test.YtebgopdmeghmhaaChecked
import GoSem.Claim
import GoSem.ClaimJoined
import GoSem.ClaimMapViews
import Derived.JoinedTies
import Derived.KernelRfl
namespace Go.Proofs.Ytebgopdmeghmhaa
/- THE CELL 'sum', in the pinned program and in every row, IS THE sha256 OF THE DUMP (.gsa) THAT YtebgopdmeghmhaaProg.lean LOADS. Nothing in Lean hashes anything: it is a label: what it is worth is what the hold of that sum in a sandbox is worth. -/
noncomputable def Try.pinned : Pinned := { name := "ytebgopdmeghmhaa", sum := "c1db340a0e7199a9600030a807d40cccef761f50c41d8d9bf3a51ee27c862773", checked := Try.checked }
namespace Rows
def none {H : Type} : Left H := { results := [], args := [] }

/-- 'quiltlaw48.ReconcileCheck': WHATEVER THE INPUT: true; the input reads as it did. -/
def reconcileCheckSpec : ChangeSpec := { name := "reconcileCheck", fn := fun _ => fun
  | [d1, d2] => { results := [.lit (.bool true)], args := [d1, d2] }
  | _ => none }
def reconcileCheckRow : OpenClaim := { program := "ytebgopdmeghmhaa", sum := "c1db340a0e7199a9600030a807d40cccef761f50c41d8d9bf3a51ee27c862773", func := "quilt/quiltlaw48.ReconcileCheck", spec := "reconcileCheck", inPlace := ["internal/bytealg.Compare", "internal/abi.NoEscape"], unfollowed := true, recurses := true, plainKeys := false, apart := false }
def ReconcileCheckSaid : Prop := reconcileCheckRow.holds Try.pinned (OpenSpec.ofChange reconcileCheckSpec)

/-- ITS FALSE NEIGHBOUR: 'it returns false'. Refute it at one input. -/
def reconcileCheckWrong : ChangeSpec := { name := "reconcileCheck", fn := fun _ => fun
  | [d1, d2] => { results := [.lit (.bool false)], args := [d1, d2] }
  | _ => none }
def ReconcileCheckWrongFalsely : Prop := reconcileCheckRow.holds Try.pinned (OpenSpec.ofChange reconcileCheckWrong)

/-- 'quiltlaw48.ReconcileAnswer': WHATEVER THE INPUT: true; the input reads as it did. -/
def reconcileAnswerSpec : ChangeSpec := { name := "reconcileAnswer", fn := fun _ => fun
  | [d1, d2] => { results := [.lit (.bool true)], args := [d1, d2] }
  | _ => none }
def reconcileAnswerRow : OpenClaim := { program := "ytebgopdmeghmhaa", sum := "c1db340a0e7199a9600030a807d40cccef761f50c41d8d9bf3a51ee27c862773", func := "quilt/quiltlaw48.ReconcileAnswer", spec := "reconcileAnswer", inPlace := ["internal/bytealg.Compare", "internal/abi.NoEscape"], unfollowed := true, recurses := true, plainKeys := false, apart := false }
def ReconcileAnswerSaid : Prop := reconcileAnswerRow.holds Try.pinned (OpenSpec.ofChange reconcileAnswerSpec)

/-- ITS FALSE NEIGHBOUR: 'it returns false'. Refute it at one input. -/
def reconcileAnswerWrong : ChangeSpec := { name := "reconcileAnswer", fn := fun _ => fun
  | [d1, d2] => { results := [.lit (.bool false)], args := [d1, d2] }
  | _ => none }
def ReconcileAnswerWrongFalsely : Prop := reconcileAnswerRow.holds Try.pinned (OpenSpec.ofChange reconcileAnswerWrong)

/-- 'quiltlaw48.ReconcileFinds': WHATEVER THE INPUT: true; the input reads as it did. -/
def reconcileFindsSpec : ChangeSpec := { name := "reconcileFinds", fn := fun _ => fun
  | [d1, d2] => { results := [.lit (.bool true)], args := [d1, d2] }
  | _ => none }
def reconcileFindsRow : OpenClaim := { program := "ytebgopdmeghmhaa", sum := "c1db340a0e7199a9600030a807d40cccef761f50c41d8d9bf3a51ee27c862773", func := "quilt/quiltlaw48.ReconcileFinds", spec := "reconcileFinds", inPlace := ["internal/bytealg.Compare", "internal/abi.NoEscape"], unfollowed := true, recurses := true, plainKeys := false, apart := false }
def ReconcileFindsSaid : Prop := reconcileFindsRow.holds Try.pinned (OpenSpec.ofChange reconcileFindsSpec)

/-- ITS FALSE NEIGHBOUR: 'it returns false'. Refute it at one input. -/
def reconcileFindsWrong : ChangeSpec := { name := "reconcileFinds", fn := fun _ => fun
  | [d1, d2] => { results := [.lit (.bool false)], args := [d1, d2] }
  | _ => none }
def ReconcileFindsWrongFalsely : Prop := reconcileFindsRow.holds Try.pinned (OpenSpec.ofChange reconcileFindsWrong)

/-- 'quiltlaw48.ReconcileNever': WHATEVER THE INPUT: true; the input reads as it did. -/
def reconcileNeverSpec : ChangeSpec := { name := "reconcileNever", fn := fun _ => fun
  | [d1, d2] => { results := [.lit (.bool true)], args := [d1, d2] }
  | _ => none }
def reconcileNeverRow : OpenClaim := { program := "ytebgopdmeghmhaa", sum := "c1db340a0e7199a9600030a807d40cccef761f50c41d8d9bf3a51ee27c862773", func := "quilt/quiltlaw48.ReconcileNever", spec := "reconcileNever", inPlace := ["internal/bytealg.Compare", "internal/abi.NoEscape"], unfollowed := true, recurses := true, plainKeys := false, apart := false }
def ReconcileNeverSaid : Prop := reconcileNeverRow.holds Try.pinned (OpenSpec.ofChange reconcileNeverSpec)

/-- ITS FALSE NEIGHBOUR: 'it returns false'. Refute it at one input. -/
def reconcileNeverWrong : ChangeSpec := { name := "reconcileNever", fn := fun _ => fun
  | [d1, d2] => { results := [.lit (.bool false)], args := [d1, d2] }
  | _ => none }
def ReconcileNeverWrongFalsely : Prop := reconcileNeverRow.holds Try.pinned (OpenSpec.ofChange reconcileNeverWrong)

/-- 'quiltlaw48.ReconcileMessages': WHATEVER THE INPUT: true; the input reads as it did. -/
def reconcileMessagesSpec : ChangeSpec := { name := "reconcileMessages", fn := fun _ => fun
  | [d1, d2] => { results := [.lit (.bool true)], args := [d1, d2] }
  | _ => none }
def reconcileMessagesRow : OpenClaim := { program := "ytebgopdmeghmhaa", sum := "c1db340a0e7199a9600030a807d40cccef761f50c41d8d9bf3a51ee27c862773", func := "quilt/quiltlaw48.ReconcileMessages", spec := "reconcileMessages", inPlace := ["internal/bytealg.Compare", "internal/abi.NoEscape"], unfollowed := true, recurses := true, plainKeys := false, apart := false }
def ReconcileMessagesSaid : Prop := reconcileMessagesRow.holds Try.pinned (OpenSpec.ofChange reconcileMessagesSpec)

/-- ITS FALSE NEIGHBOUR: 'it returns false'. Refute it at one input. -/
def reconcileMessagesWrong : ChangeSpec := { name := "reconcileMessages", fn := fun _ => fun
  | [d1, d2] => { results := [.lit (.bool false)], args := [d1, d2] }
  | _ => none }
def ReconcileMessagesWrongFalsely : Prop := reconcileMessagesRow.holds Try.pinned (OpenSpec.ofChange reconcileMessagesWrong)

/-- 'quiltlaw48.ReconcileAnswers': WHATEVER THE INPUT: true; the input reads as it did. -/
def reconcileAnswersSpec : ChangeSpec := { name := "reconcileAnswers", fn := fun _ => fun
  | [d1, d2] => { results := [.lit (.bool true)], args := [d1, d2] }
  | _ => none }
def reconcileAnswersRow : OpenClaim := { program := "ytebgopdmeghmhaa", sum := "c1db340a0e7199a9600030a807d40cccef761f50c41d8d9bf3a51ee27c862773", func := "quilt/quiltlaw48.ReconcileAnswers", spec := "reconcileAnswers", inPlace := ["internal/bytealg.Compare", "internal/abi.NoEscape"], unfollowed := true, recurses := true, plainKeys := false, apart := false }
def ReconcileAnswersSaid : Prop := reconcileAnswersRow.holds Try.pinned (OpenSpec.ofChange reconcileAnswersSpec)

/-- ITS FALSE NEIGHBOUR: 'it returns false'. Refute it at one input. -/
def reconcileAnswersWrong : ChangeSpec := { name := "reconcileAnswers", fn := fun _ => fun
  | [d1, d2] => { results := [.lit (.bool false)], args := [d1, d2] }
  | _ => none }
def ReconcileAnswersWrongFalsely : Prop := reconcileAnswersRow.holds Try.pinned (OpenSpec.ofChange reconcileAnswersWrong)

/-- 'quiltlaw48.ReconcileQuick': WHATEVER THE INPUT: true; the input reads as it did. -/
def reconcileQuickSpec : ChangeSpec := { name := "reconcileQuick", fn := fun _ => fun
  | [d1, d2, d3] => { results := [.lit (.bool true)], args := [d1, d2, d3] }
  | _ => none }
def reconcileQuickRow : OpenClaim := { program := "ytebgopdmeghmhaa", sum := "c1db340a0e7199a9600030a807d40cccef761f50c41d8d9bf3a51ee27c862773", func := "quilt/quiltlaw48.ReconcileQuick", spec := "reconcileQuick", inPlace := ["internal/bytealg.Compare", "internal/abi.NoEscape"], unfollowed := true, recurses := true, plainKeys := false, apart := false }
def ReconcileQuickSaid : Prop := reconcileQuickRow.holds Try.pinned (OpenSpec.ofChange reconcileQuickSpec)

/-- ITS FALSE NEIGHBOUR: 'it returns false'. Refute it at one input. -/
def reconcileQuickWrong : ChangeSpec := { name := "reconcileQuick", fn := fun _ => fun
  | [d1, d2, d3] => { results := [.lit (.bool false)], args := [d1, d2, d3] }
  | _ => none }
def ReconcileQuickWrongFalsely : Prop := reconcileQuickRow.holds Try.pinned (OpenSpec.ofChange reconcileQuickWrong)

/- THE SECOND FORM. 'bulk': how many values and letters a reading holds, each counted each time it is reached (what is shared counts as often as it is met; a slice's spare places count too). A statement '..UptoSaid' is the law's where the arguments, and the package variables that the reading takes, are together of bulk at most 1048576: NARROWER than '..Said'. Prove '..Said' where nothing that the law and all that it calls make is longer than what came in: it says more and counts as full. Else prove '..UptoSaid'. A law counts once. -/
mutual
def uptoBulk {H : Type} : DataW H → Nat
  | .lit (.string bytes) => bytes.length + 1
  | .lit _ => 1
  | .nil => 1
  | .ptr d => uptoBulk d + 1
  | .slice elems spare => uptoBulkAll elems + uptoBulkAll spare + 1
  | .agg parts => uptoBulkAll parts + 1
  | .iface _ d => uptoBulk d + 1
  | .map entries => uptoBulkEntries entries + 1
  | .held _ => 1
def uptoBulkAll {H : Type} : List (DataW H) → Nat
  | [] => 0
  | d :: r => uptoBulk d + uptoBulkAll r
def uptoBulkEntries {H : Type} : List (Lit × DataW H) → Nat
  | [] => 0
  | x :: r => uptoBulkEntry x + uptoBulkEntries r
def uptoBulkEntry {H : Type} : Lit × DataW H → Nat
  | (.string bytes, d) => bytes.length + uptoBulk d + 1
  | (_, d) => uptoBulk d + 1
 end
def uptoSmall : (H : Type) → List (DataW H) → Bool := fun _ ds => decide (uptoBulkAll ds ≤ 1048576)
def OpenSpec.upto (s : _root_.Go.ChangeSpec) : _root_.Go.OpenSpec := { _root_.Go.OpenSpec.ofChange s with cond := some uptoSmall }

/-- 'quiltlaw48.ReconcileCheck', WHERE WHAT IT READS IS OF BULK AT MOST 1048576: true; the input reads as it did. -/
def reconcileCheckUptoRow : OpenClaim := { program := "ytebgopdmeghmhaa", sum := "c1db340a0e7199a9600030a807d40cccef761f50c41d8d9bf3a51ee27c862773", func := "quilt/quiltlaw48.ReconcileCheck", spec := "reconcileCheck", inPlace := ["internal/bytealg.Compare", "internal/abi.NoEscape"], unfollowed := true, recurses := true, plainKeys := false, apart := false, narrowed := true }
def ReconcileCheckUptoSaid : Prop := reconcileCheckUptoRow.holds Try.pinned (OpenSpec.upto reconcileCheckSpec)

/-- 'quiltlaw48.ReconcileAnswer', WHERE WHAT IT READS IS OF BULK AT MOST 1048576: true; the input reads as it did. -/
def reconcileAnswerUptoRow : OpenClaim := { program := "ytebgopdmeghmhaa", sum := "c1db340a0e7199a9600030a807d40cccef761f50c41d8d9bf3a51ee27c862773", func := "quilt/quiltlaw48.ReconcileAnswer", spec := "reconcileAnswer", inPlace := ["internal/bytealg.Compare", "internal/abi.NoEscape"], unfollowed := true, recurses := true, plainKeys := false, apart := false, narrowed := true }
def ReconcileAnswerUptoSaid : Prop := reconcileAnswerUptoRow.holds Try.pinned (OpenSpec.upto reconcileAnswerSpec)

/-- 'quiltlaw48.ReconcileFinds', WHERE WHAT IT READS IS OF BULK AT MOST 1048576: true; the input reads as it did. -/
def reconcileFindsUptoRow : OpenClaim := { program := "ytebgopdmeghmhaa", sum := "c1db340a0e7199a9600030a807d40cccef761f50c41d8d9bf3a51ee27c862773", func := "quilt/quiltlaw48.ReconcileFinds", spec := "reconcileFinds", inPlace := ["internal/bytealg.Compare", "internal/abi.NoEscape"], unfollowed := true, recurses := true, plainKeys := false, apart := false, narrowed := true }
def ReconcileFindsUptoSaid : Prop := reconcileFindsUptoRow.holds Try.pinned (OpenSpec.upto reconcileFindsSpec)

/-- 'quiltlaw48.ReconcileNever', WHERE WHAT IT READS IS OF BULK AT MOST 1048576: true; the input reads as it did. -/
def reconcileNeverUptoRow : OpenClaim := { program := "ytebgopdmeghmhaa", sum := "c1db340a0e7199a9600030a807d40cccef761f50c41d8d9bf3a51ee27c862773", func := "quilt/quiltlaw48.ReconcileNever", spec := "reconcileNever", inPlace := ["internal/bytealg.Compare", "internal/abi.NoEscape"], unfollowed := true, recurses := true, plainKeys := false, apart := false, narrowed := true }
def ReconcileNeverUptoSaid : Prop := reconcileNeverUptoRow.holds Try.pinned (OpenSpec.upto reconcileNeverSpec)

/-- 'quiltlaw48.ReconcileMessages', WHERE WHAT IT READS IS OF BULK AT MOST 1048576: true; the input reads as it did. -/
def reconcileMessagesUptoRow : OpenClaim := { program := "ytebgopdmeghmhaa", sum := "c1db340a0e7199a9600030a807d40cccef761f50c41d8d9bf3a51ee27c862773", func := "quilt/quiltlaw48.ReconcileMessages", spec := "reconcileMessages", inPlace := ["internal/bytealg.Compare", "internal/abi.NoEscape"], unfollowed := true, recurses := true, plainKeys := false, apart := false, narrowed := true }
def ReconcileMessagesUptoSaid : Prop := reconcileMessagesUptoRow.holds Try.pinned (OpenSpec.upto reconcileMessagesSpec)

/-- 'quiltlaw48.ReconcileAnswers', WHERE WHAT IT READS IS OF BULK AT MOST 1048576: true; the input reads as it did. -/
def reconcileAnswersUptoRow : OpenClaim := { program := "ytebgopdmeghmhaa", sum := "c1db340a0e7199a9600030a807d40cccef761f50c41d8d9bf3a51ee27c862773", func := "quilt/quiltlaw48.ReconcileAnswers", spec := "reconcileAnswers", inPlace := ["internal/bytealg.Compare", "internal/abi.NoEscape"], unfollowed := true, recurses := true, plainKeys := false, apart := false, narrowed := true }
def ReconcileAnswersUptoSaid : Prop := reconcileAnswersUptoRow.holds Try.pinned (OpenSpec.upto reconcileAnswersSpec)

/-- 'quiltlaw48.ReconcileQuick', WHERE WHAT IT READS IS OF BULK AT MOST 1048576: true; the input reads as it did. -/
def reconcileQuickUptoRow : OpenClaim := { program := "ytebgopdmeghmhaa", sum := "c1db340a0e7199a9600030a807d40cccef761f50c41d8d9bf3a51ee27c862773", func := "quilt/quiltlaw48.ReconcileQuick", spec := "reconcileQuick", inPlace := ["internal/bytealg.Compare", "internal/abi.NoEscape"], unfollowed := true, recurses := true, plainKeys := false, apart := false, narrowed := true }
def ReconcileQuickUptoSaid : Prop := reconcileQuickUptoRow.holds Try.pinned (OpenSpec.upto reconcileQuickSpec)

end Rows
end Go.Proofs.Ytebgopdmeghmhaa
