/-
  DERIVED. GIVEN WITH THE SEED: THE CARDS: each row of YtghikgjknhjjgaaGreatDoorRows.lean that lists a variable, with what it lists TIED to the program's text (the seventh form; the later family's looks); each row that meets fmt, with fmt's text TOLD by the authors' own Lean function (tested against real Go, not proved from fmt's source: count such statements apart). THE CARD IS WHAT COUNTS. Prove the row's statement (the work); the ties are given (YtghikgjknhjjgaaGreatDoorTie.lean); close each card by the builder's one call (the guide's Derived/Test/ToyasCard.lean, 'card_holds'). Laid BY PROGRAM, IN A SANDBOX (cutbox-door.mjs). By AI agents, Wed Nov 11 2026. No macro, syntax, notation, axiom, sorry.
-/
import Derived.Test.YtghikgjknhjjgaaGreatDoorRows
import GoSem.ClaimSeven
namespace Go.Proofs.YtghikgjknhjjgaaGreatDoor
namespace Rows

/-- THE TIED CARD OF 'quiltlaw41.PagelogLog'. -/
def pagelogLogCard : Claim7 := { stood := { row := pagelogLogRow, standIns := [], harness := (true, "f3f2cb9b1bf04f3c2a6a002676f7c8d634acd73957afd6f5b9da3c240e651fea"), looks := true }, kinds := [], alts := [], laidByText := true, laidKinds := [.data, .data, .data], laidTests := true, laidLooks := .later }
def PagelogLogCardSaid : Prop := Claim7.holds Tryz.pinned (.plain (OpenSpec.ofChange pagelogLogSpec)) pagelogLogCard

/-- THE TIED CARD OF 'quiltlaw41.PagelogRun'. -/
def pagelogRunCard : Claim7 := { stood := { row := pagelogRunRow, standIns := [], harness := (true, "f3f2cb9b1bf04f3c2a6a002676f7c8d634acd73957afd6f5b9da3c240e651fea"), looks := true }, kinds := [], alts := [], laidByText := true, laidKinds := [.data, .data, .data], laidTests := true, laidLooks := .later }
def PagelogRunCardSaid : Prop := Claim7.holds Tryz.pinned (.plain (OpenSpec.ofChange pagelogRunSpec)) pagelogRunCard

/-- THE SECOND FORM's CARD OF 'quiltlaw41.PagelogLog'. -/
def pagelogLogUptoCard : Claim7 := { stood := { row := pagelogLogUptoRow, standIns := [], harness := (true, "f3f2cb9b1bf04f3c2a6a002676f7c8d634acd73957afd6f5b9da3c240e651fea"), looks := true }, kinds := [], alts := [], laidByText := true, laidKinds := [.data, .data, .data], laidTests := true, laidLooks := .later }
def PagelogLogUptoCardSaid : Prop := Claim7.holds Tryz.pinned (.plain (OpenSpec.upto pagelogLogSpec)) pagelogLogUptoCard

/-- THE SECOND FORM's CARD OF 'quiltlaw41.PagelogRun'. -/
def pagelogRunUptoCard : Claim7 := { stood := { row := pagelogRunUptoRow, standIns := [], harness := (true, "f3f2cb9b1bf04f3c2a6a002676f7c8d634acd73957afd6f5b9da3c240e651fea"), looks := true }, kinds := [], alts := [], laidByText := true, laidKinds := [.data, .data, .data], laidTests := true, laidLooks := .later }
def PagelogRunUptoCardSaid : Prop := Claim7.holds Tryz.pinned (.plain (OpenSpec.upto pagelogRunSpec)) pagelogRunUptoCard
end Rows
end Go.Proofs.YtghikgjknhjjgaaGreatDoor
