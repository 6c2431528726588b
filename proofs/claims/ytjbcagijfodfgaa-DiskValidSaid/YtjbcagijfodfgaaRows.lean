/-
  No cell of these rows narrows 'for every input' (looked for: loops, veiled, ifaces, maps, wideKeys, modest, calm, conditions, laid).
  DERIVED. THE GIVEN ROWS OF THIS SEAT. 8 by the template 'for every input the law returns true; each argument reads behind the call as it read before'; 0 by the template 'total and deterministic' (their statements: YtjbcagijfodfgaaTotals.lean).
  GIVEN WITH THE SEED: the statements are not yours to turn. If you find one false, say at which input.
  Laid BY PROGRAM, IN A SANDBOX (cutbox-rows.mjs): the forced cells as the released guide's own fill.sh prints them over the translation 158a09f75b592128… (all of the seat's roots in one cut). By AI agents, Wed Nov 11 2026. No macro, syntax, notation, axiom, sorry.
-/
import Derived.Test.YtjbcagijfodfgaaChecked
import GoSem.Claim
import GoSem.ClaimJoined
import GoSem.ClaimMapViews
import Derived.JoinedTies
import Derived.KernelRfl
namespace Go.Proofs.Ytjbcagijfodfgaa
/- THE CELL 'sum', in the pinned program and in every row, IS THE sha256 OF THE DUMP (.gsa) THAT YtjbcagijfodfgaaProg.lean LOADS. Nothing in Lean hashes anything: it is a label: what it is worth is what the hold of that sum in a sandbox is worth. -/
noncomputable def Try.pinned : Pinned := { name := "ytjbcagijfodfgaa", sum := "158a09f75b5921283d532d53b2e17f094ed9b8ef74eea9801a517370aa3b1bcc", checked := Try.checked }
namespace Rows
def none {H : Type} : Left H := { results := [], args := [] }

/-- 'quiltlaw40.DiskNew': WHATEVER THE INPUT: true; the input reads as it did. -/
def diskNewSpec : ChangeSpec := { name := "diskNew", fn := fun _ => fun
  | [d1, d2, d3] => { results := [.lit (.bool true)], args := [d1, d2, d3] }
  | _ => none }
def diskNewRow : OpenClaim := { program := "ytjbcagijfodfgaa", sum := "158a09f75b5921283d532d53b2e17f094ed9b8ef74eea9801a517370aa3b1bcc", func := "quilt/quiltlaw40.DiskNew", spec := "diskNew", inPlace := ["internal/abi.NoEscape", "internal/bytealg.MakeNoZero"], unfollowed := true, recurses := true, apart := false }
def DiskNewSaid : Prop := diskNewRow.holds Try.pinned (OpenSpec.ofChange diskNewSpec)

/-- ITS FALSE NEIGHBOUR: 'it returns false'. Refute it at one input. -/
def diskNewWrong : ChangeSpec := { name := "diskNew", fn := fun _ => fun
  | [d1, d2, d3] => { results := [.lit (.bool false)], args := [d1, d2, d3] }
  | _ => none }
def DiskNewWrongFalsely : Prop := diskNewRow.holds Try.pinned (OpenSpec.ofChange diskNewWrong)

/-- 'quiltlaw40.DiskCrash': WHATEVER THE INPUT: true; the input reads as it did. -/
def diskCrashSpec : ChangeSpec := { name := "diskCrash", fn := fun _ => fun
  | [d1, d2] => { results := [.lit (.bool true)], args := [d1, d2] }
  | _ => none }
def diskCrashRow : OpenClaim := { program := "ytjbcagijfodfgaa", sum := "158a09f75b5921283d532d53b2e17f094ed9b8ef74eea9801a517370aa3b1bcc", func := "quilt/quiltlaw40.DiskCrash", spec := "diskCrash", inPlace := ["internal/abi.NoEscape", "internal/bytealg.MakeNoZero"], unfollowed := true, recurses := true, apart := false }
def DiskCrashSaid : Prop := diskCrashRow.holds Try.pinned (OpenSpec.ofChange diskCrashSpec)

/-- ITS FALSE NEIGHBOUR: 'it returns false'. Refute it at one input. -/
def diskCrashWrong : ChangeSpec := { name := "diskCrash", fn := fun _ => fun
  | [d1, d2] => { results := [.lit (.bool false)], args := [d1, d2] }
  | _ => none }
def DiskCrashWrongFalsely : Prop := diskCrashRow.holds Try.pinned (OpenSpec.ofChange diskCrashWrong)

/-- 'quiltlaw40.DiskLoss': WHATEVER THE INPUT: true; the input reads as it did. -/
def diskLossSpec : ChangeSpec := { name := "diskLoss", fn := fun _ => fun
  | [d1, d2] => { results := [.lit (.bool true)], args := [d1, d2] }
  | _ => none }
def diskLossRow : OpenClaim := { program := "ytjbcagijfodfgaa", sum := "158a09f75b5921283d532d53b2e17f094ed9b8ef74eea9801a517370aa3b1bcc", func := "quilt/quiltlaw40.DiskLoss", spec := "diskLoss", inPlace := ["internal/abi.NoEscape", "internal/bytealg.MakeNoZero"], unfollowed := true, recurses := true, apart := false }
def DiskLossSaid : Prop := diskLossRow.holds Try.pinned (OpenSpec.ofChange diskLossSpec)

/-- ITS FALSE NEIGHBOUR: 'it returns false'. Refute it at one input. -/
def diskLossWrong : ChangeSpec := { name := "diskLoss", fn := fun _ => fun
  | [d1, d2] => { results := [.lit (.bool false)], args := [d1, d2] }
  | _ => none }
def DiskLossWrongFalsely : Prop := diskLossRow.holds Try.pinned (OpenSpec.ofChange diskLossWrong)

/-- 'quiltlaw40.DiskWrite': WHATEVER THE INPUT: true; the input reads as it did. -/
def diskWriteSpec : ChangeSpec := { name := "diskWrite", fn := fun _ => fun
  | [d1, d2, d3] => { results := [.lit (.bool true)], args := [d1, d2, d3] }
  | _ => none }
def diskWriteRow : OpenClaim := { program := "ytjbcagijfodfgaa", sum := "158a09f75b5921283d532d53b2e17f094ed9b8ef74eea9801a517370aa3b1bcc", func := "quilt/quiltlaw40.DiskWrite", spec := "diskWrite", inPlace := ["internal/abi.NoEscape", "internal/bytealg.MakeNoZero"], unfollowed := true, recurses := true, apart := false }
def DiskWriteSaid : Prop := diskWriteRow.holds Try.pinned (OpenSpec.ofChange diskWriteSpec)

/-- ITS FALSE NEIGHBOUR: 'it returns false'. Refute it at one input. -/
def diskWriteWrong : ChangeSpec := { name := "diskWrite", fn := fun _ => fun
  | [d1, d2, d3] => { results := [.lit (.bool false)], args := [d1, d2, d3] }
  | _ => none }
def DiskWriteWrongFalsely : Prop := diskWriteRow.holds Try.pinned (OpenSpec.ofChange diskWriteWrong)

/-- 'quiltlaw40.DiskContents': WHATEVER THE INPUT: true; the input reads as it did. -/
def diskContentsSpec : ChangeSpec := { name := "diskContents", fn := fun _ => fun
  | [d1, d2, d3] => { results := [.lit (.bool true)], args := [d1, d2, d3] }
  | _ => none }
def diskContentsRow : OpenClaim := { program := "ytjbcagijfodfgaa", sum := "158a09f75b5921283d532d53b2e17f094ed9b8ef74eea9801a517370aa3b1bcc", func := "quilt/quiltlaw40.DiskContents", spec := "diskContents", inPlace := ["internal/abi.NoEscape", "internal/bytealg.MakeNoZero"], unfollowed := true, recurses := true, apart := false }
def DiskContentsSaid : Prop := diskContentsRow.holds Try.pinned (OpenSpec.ofChange diskContentsSpec)

/-- ITS FALSE NEIGHBOUR: 'it returns false'. Refute it at one input. -/
def diskContentsWrong : ChangeSpec := { name := "diskContents", fn := fun _ => fun
  | [d1, d2, d3] => { results := [.lit (.bool false)], args := [d1, d2, d3] }
  | _ => none }
def DiskContentsWrongFalsely : Prop := diskContentsRow.holds Try.pinned (OpenSpec.ofChange diskContentsWrong)

/-- 'quiltlaw40.DiskDurable': WHATEVER THE INPUT: true; the input reads as it did. -/
def diskDurableSpec : ChangeSpec := { name := "diskDurable", fn := fun _ => fun
  | [d1, d2] => { results := [.lit (.bool true)], args := [d1, d2] }
  | _ => none }
def diskDurableRow : OpenClaim := { program := "ytjbcagijfodfgaa", sum := "158a09f75b5921283d532d53b2e17f094ed9b8ef74eea9801a517370aa3b1bcc", func := "quilt/quiltlaw40.DiskDurable", spec := "diskDurable", inPlace := ["internal/abi.NoEscape", "internal/bytealg.MakeNoZero"], unfollowed := true, recurses := true, apart := false }
def DiskDurableSaid : Prop := diskDurableRow.holds Try.pinned (OpenSpec.ofChange diskDurableSpec)

/-- ITS FALSE NEIGHBOUR: 'it returns false'. Refute it at one input. -/
def diskDurableWrong : ChangeSpec := { name := "diskDurable", fn := fun _ => fun
  | [d1, d2] => { results := [.lit (.bool false)], args := [d1, d2] }
  | _ => none }
def DiskDurableWrongFalsely : Prop := diskDurableRow.holds Try.pinned (OpenSpec.ofChange diskDurableWrong)

/-- 'quiltlaw40.DiskPower': WHATEVER THE INPUT: true; the input reads as it did. -/
def diskPowerSpec : ChangeSpec := { name := "diskPower", fn := fun _ => fun
  | [d1, d2] => { results := [.lit (.bool true)], args := [d1, d2] }
  | _ => none }
def diskPowerRow : OpenClaim := { program := "ytjbcagijfodfgaa", sum := "158a09f75b5921283d532d53b2e17f094ed9b8ef74eea9801a517370aa3b1bcc", func := "quilt/quiltlaw40.DiskPower", spec := "diskPower", inPlace := ["internal/abi.NoEscape", "internal/bytealg.MakeNoZero"], unfollowed := true, recurses := true, apart := false }
def DiskPowerSaid : Prop := diskPowerRow.holds Try.pinned (OpenSpec.ofChange diskPowerSpec)

/-- ITS FALSE NEIGHBOUR: 'it returns false'. Refute it at one input. -/
def diskPowerWrong : ChangeSpec := { name := "diskPower", fn := fun _ => fun
  | [d1, d2] => { results := [.lit (.bool false)], args := [d1, d2] }
  | _ => none }
def DiskPowerWrongFalsely : Prop := diskPowerRow.holds Try.pinned (OpenSpec.ofChange diskPowerWrong)

/-- 'quiltlaw40.DiskValid': WHATEVER THE INPUT: true; the input reads as it did. -/
def diskValidSpec : ChangeSpec := { name := "diskValid", fn := fun _ => fun
  | [d1, d2, d3, d4] => { results := [.lit (.bool true)], args := [d1, d2, d3, d4] }
  | _ => none }
def diskValidRow : OpenClaim := { program := "ytjbcagijfodfgaa", sum := "158a09f75b5921283d532d53b2e17f094ed9b8ef74eea9801a517370aa3b1bcc", func := "quilt/quiltlaw40.DiskValid", spec := "diskValid", inPlace := ["internal/abi.NoEscape", "internal/bytealg.MakeNoZero"], unfollowed := true, recurses := true, apart := false }
def DiskValidSaid : Prop := diskValidRow.holds Try.pinned (OpenSpec.ofChange diskValidSpec)

/-- ITS FALSE NEIGHBOUR: 'it returns false'. Refute it at one input. -/
def diskValidWrong : ChangeSpec := { name := "diskValid", fn := fun _ => fun
  | [d1, d2, d3, d4] => { results := [.lit (.bool false)], args := [d1, d2, d3, d4] }
  | _ => none }
def DiskValidWrongFalsely : Prop := diskValidRow.holds Try.pinned (OpenSpec.ofChange diskValidWrong)

/- THE SECOND FORM. 'bulk': how many values and letters a reading holds, each counted each time it is reached (what is shared counts as often as it is met; a slice's spare places count too). A statement '..UptoSaid' is the law's where the arguments, and the package variables that the reading takes, are together of bulk at most 1048576: NARROWER than '..Said'. Prove '..Said' where nothing that the law and all that it calls make is longer than what came in: it says more and counts as full. Else prove '..UptoSaid'. A law counts once. -/
mutual
def uptoBulk {H : Type} : DataW H → Nat
  | .lit (.string bytes) => bytes.length + 1
  | .lit _ => 1
  | .nil => 1
  | .ptr d => uptoBulk d + 1
  | .slice elems spare => uptoBulkAll elems + uptoBulkAll spare + 1
  | .agg parts => uptoBulkAll parts + 1
  | .iface _ d => uptoBulk d + 1
  | .map entries => uptoBulkEntries entries + 1
  | .held _ => 1
def uptoBulkAll {H : Type} : List (DataW H) → Nat
  | [] => 0
  | d :: r => uptoBulk d + uptoBulkAll r
def uptoBulkEntries {H : Type} : List (Lit × DataW H) → Nat
  | [] => 0
  | x :: r => uptoBulkEntry x + uptoBulkEntries r
def uptoBulkEntry {H : Type} : Lit × DataW H → Nat
  | (.string bytes, d) => bytes.length + uptoBulk d + 1
  | (_, d) => uptoBulk d + 1
 end
def uptoSmall : (H : Type) → List (DataW H) → Bool := fun _ ds => decide (uptoBulkAll ds ≤ 1048576)
def OpenSpec.upto (s : _root_.Go.ChangeSpec) : _root_.Go.OpenSpec := { _root_.Go.OpenSpec.ofChange s with cond := some uptoSmall }

/-- 'quiltlaw40.DiskNew', WHERE WHAT IT READS IS OF BULK AT MOST 1048576: true; the input reads as it did. -/
def diskNewUptoRow : OpenClaim := { program := "ytjbcagijfodfgaa", sum := "158a09f75b5921283d532d53b2e17f094ed9b8ef74eea9801a517370aa3b1bcc", func := "quilt/quiltlaw40.DiskNew", spec := "diskNew", inPlace := ["internal/abi.NoEscape", "internal/bytealg.MakeNoZero"], unfollowed := true, recurses := true, apart := false, narrowed := true }
def DiskNewUptoSaid : Prop := diskNewUptoRow.holds Try.pinned (OpenSpec.upto diskNewSpec)

/-- 'quiltlaw40.DiskCrash', WHERE WHAT IT READS IS OF BULK AT MOST 1048576: true; the input reads as it did. -/
def diskCrashUptoRow : OpenClaim := { program := "ytjbcagijfodfgaa", sum := "158a09f75b5921283d532d53b2e17f094ed9b8ef74eea9801a517370aa3b1bcc", func := "quilt/quiltlaw40.DiskCrash", spec := "diskCrash", inPlace := ["internal/abi.NoEscape", "internal/bytealg.MakeNoZero"], unfollowed := true, recurses := true, apart := false, narrowed := true }
def DiskCrashUptoSaid : Prop := diskCrashUptoRow.holds Try.pinned (OpenSpec.upto diskCrashSpec)

/-- 'quiltlaw40.DiskLoss', WHERE WHAT IT READS IS OF BULK AT MOST 1048576: true; the input reads as it did. -/
def diskLossUptoRow : OpenClaim := { program := "ytjbcagijfodfgaa", sum := "158a09f75b5921283d532d53b2e17f094ed9b8ef74eea9801a517370aa3b1bcc", func := "quilt/quiltlaw40.DiskLoss", spec := "diskLoss", inPlace := ["internal/abi.NoEscape", "internal/bytealg.MakeNoZero"], unfollowed := true, recurses := true, apart := false, narrowed := true }
def DiskLossUptoSaid : Prop := diskLossUptoRow.holds Try.pinned (OpenSpec.upto diskLossSpec)

/-- 'quiltlaw40.DiskWrite', WHERE WHAT IT READS IS OF BULK AT MOST 1048576: true; the input reads as it did. -/
def diskWriteUptoRow : OpenClaim := { program := "ytjbcagijfodfgaa", sum := "158a09f75b5921283d532d53b2e17f094ed9b8ef74eea9801a517370aa3b1bcc", func := "quilt/quiltlaw40.DiskWrite", spec := "diskWrite", inPlace := ["internal/abi.NoEscape", "internal/bytealg.MakeNoZero"], unfollowed := true, recurses := true, apart := false, narrowed := true }
def DiskWriteUptoSaid : Prop := diskWriteUptoRow.holds Try.pinned (OpenSpec.upto diskWriteSpec)

/-- 'quiltlaw40.DiskContents', WHERE WHAT IT READS IS OF BULK AT MOST 1048576: true; the input reads as it did. -/
def diskContentsUptoRow : OpenClaim := { program := "ytjbcagijfodfgaa", sum := "158a09f75b5921283d532d53b2e17f094ed9b8ef74eea9801a517370aa3b1bcc", func := "quilt/quiltlaw40.DiskContents", spec := "diskContents", inPlace := ["internal/abi.NoEscape", "internal/bytealg.MakeNoZero"], unfollowed := true, recurses := true, apart := false, narrowed := true }
def DiskContentsUptoSaid : Prop := diskContentsUptoRow.holds Try.pinned (OpenSpec.upto diskContentsSpec)

/-- 'quiltlaw40.DiskDurable', WHERE WHAT IT READS IS OF BULK AT MOST 1048576: true; the input reads as it did. -/
def diskDurableUptoRow : OpenClaim := { program := "ytjbcagijfodfgaa", sum := "158a09f75b5921283d532d53b2e17f094ed9b8ef74eea9801a517370aa3b1bcc", func := "quilt/quiltlaw40.DiskDurable", spec := "diskDurable", inPlace := ["internal/abi.NoEscape", "internal/bytealg.MakeNoZero"], unfollowed := true, recurses := true, apart := false, narrowed := true }
def DiskDurableUptoSaid : Prop := diskDurableUptoRow.holds Try.pinned (OpenSpec.upto diskDurableSpec)

/-- 'quiltlaw40.DiskPower', WHERE WHAT IT READS IS OF BULK AT MOST 1048576: true; the input reads as it did. -/
def diskPowerUptoRow : OpenClaim := { program := "ytjbcagijfodfgaa", sum := "158a09f75b5921283d532d53b2e17f094ed9b8ef74eea9801a517370aa3b1bcc", func := "quilt/quiltlaw40.DiskPower", spec := "diskPower", inPlace := ["internal/abi.NoEscape", "internal/bytealg.MakeNoZero"], unfollowed := true, recurses := true, apart := false, narrowed := true }
def DiskPowerUptoSaid : Prop := diskPowerUptoRow.holds Try.pinned (OpenSpec.upto diskPowerSpec)

/-- 'quiltlaw40.DiskValid', WHERE WHAT IT READS IS OF BULK AT MOST 1048576: true; the input reads as it did. -/
def diskValidUptoRow : OpenClaim := { program := "ytjbcagijfodfgaa", sum := "158a09f75b5921283d532d53b2e17f094ed9b8ef74eea9801a517370aa3b1bcc", func := "quilt/quiltlaw40.DiskValid", spec := "diskValid", inPlace := ["internal/abi.NoEscape", "internal/bytealg.MakeNoZero"], unfollowed := true, recurses := true, apart := false, narrowed := true }
def DiskValidUptoSaid : Prop := diskValidUptoRow.holds Try.pinned (OpenSpec.upto diskValidSpec)

end Rows
end Go.Proofs.Ytjbcagijfodfgaa
