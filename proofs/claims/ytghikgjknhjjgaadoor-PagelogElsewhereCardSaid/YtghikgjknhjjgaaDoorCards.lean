/-
  DERIVED. GIVEN WITH THE SEED: THE CARDS: each row of YtghikgjknhjjgaaDoorRows.lean that lists a variable, with what it lists TIED to the program's text (the seventh form; the later family's looks); each row that meets fmt, with fmt's text TOLD by the authors' own Lean function (tested against real Go, not proved from fmt's source: count such statements apart). THE CARD IS WHAT COUNTS. Prove the row's statement (the work); the ties are given (YtghikgjknhjjgaaDoorTie.lean); close each card by the builder's one call (the guide's Derived/Test/ToyasCard.lean, 'card_holds'). Laid BY PROGRAM, IN A SANDBOX (cutbox-door.mjs). By AI agents, Wed Nov 11 2026. No macro, syntax, notation, axiom, sorry.
-/
import Derived.Test.YtghikgjknhjjgaaDoorRows
import GoSem.ClaimSeven
namespace Go.Proofs.YtghikgjknhjjgaaDoor
namespace Rows

/-- THE TIED CARD OF 'quiltlaw41.PagelogRecords'. -/
def pagelogRecordsCard : Claim7 := { stood := { row := pagelogRecordsRow, standIns := [], harness := (true, "8ce2495ace584f39fd466237682d0edc7cd0b3e20b9ce26f7ce02c784d2d4c85"), looks := true }, kinds := [], alts := [], laidByText := true, laidKinds := [.data, .data, .data], laidTests := true, laidLooks := .later }
def PagelogRecordsCardSaid : Prop := Claim7.holds Tryd.pinned (.plain (OpenSpec.ofChange pagelogRecordsSpec)) pagelogRecordsCard

/-- THE TIED CARD OF 'quiltlaw41.PagelogDurable'. -/
def pagelogDurableCard : Claim7 := { stood := { row := pagelogDurableRow, standIns := [], harness := (true, "8ce2495ace584f39fd466237682d0edc7cd0b3e20b9ce26f7ce02c784d2d4c85"), looks := true }, kinds := [], alts := [], laidByText := true, laidKinds := [.data, .data, .data], laidTests := true, laidLooks := .later }
def PagelogDurableCardSaid : Prop := Claim7.holds Tryd.pinned (.plain (OpenSpec.ofChange pagelogDurableSpec)) pagelogDurableCard

/-- THE TIED CARD OF 'quiltlaw41.PagelogAtomic'. -/
def pagelogAtomicCard : Claim7 := { stood := { row := pagelogAtomicRow, standIns := [], harness := (true, "8ce2495ace584f39fd466237682d0edc7cd0b3e20b9ce26f7ce02c784d2d4c85"), looks := true }, kinds := [], alts := [], laidByText := true, laidKinds := [.data, .data, .data], laidTests := true, laidLooks := .later }
def PagelogAtomicCardSaid : Prop := Claim7.holds Tryd.pinned (.plain (OpenSpec.ofChange pagelogAtomicSpec)) pagelogAtomicCard

/-- THE TIED CARD OF 'quiltlaw41.PagelogRoom'. -/
def pagelogRoomCard : Claim7 := { stood := { row := pagelogRoomRow, standIns := [], harness := (true, "8ce2495ace584f39fd466237682d0edc7cd0b3e20b9ce26f7ce02c784d2d4c85"), looks := true }, kinds := [], alts := [], laidByText := true, laidKinds := [.data, .data, .data], laidTests := true, laidLooks := .later }
def PagelogRoomCardSaid : Prop := Claim7.holds Tryd.pinned (.plain (OpenSpec.ofChange pagelogRoomSpec)) pagelogRoomCard

/-- THE TIED CARD OF 'quiltlaw41.PagelogElsewhere'. -/
def pagelogElsewhereCard : Claim7 := { stood := { row := pagelogElsewhereRow, standIns := [], harness := (true, "8ce2495ace584f39fd466237682d0edc7cd0b3e20b9ce26f7ce02c784d2d4c85"), looks := true }, kinds := [], alts := [], laidByText := true, laidKinds := [.data, .data, .data], laidTests := true, laidLooks := .later }
def PagelogElsewhereCardSaid : Prop := Claim7.holds Tryd.pinned (.plain (OpenSpec.ofChange pagelogElsewhereSpec)) pagelogElsewhereCard

/-- THE SECOND FORM's CARD OF 'quiltlaw41.PagelogRecords'. -/
def pagelogRecordsUptoCard : Claim7 := { stood := { row := pagelogRecordsUptoRow, standIns := [], harness := (true, "8ce2495ace584f39fd466237682d0edc7cd0b3e20b9ce26f7ce02c784d2d4c85"), looks := true }, kinds := [], alts := [], laidByText := true, laidKinds := [.data, .data, .data], laidTests := true, laidLooks := .later }
def PagelogRecordsUptoCardSaid : Prop := Claim7.holds Tryd.pinned (.plain (OpenSpec.upto pagelogRecordsSpec)) pagelogRecordsUptoCard

/-- THE SECOND FORM's CARD OF 'quiltlaw41.PagelogDurable'. -/
def pagelogDurableUptoCard : Claim7 := { stood := { row := pagelogDurableUptoRow, standIns := [], harness := (true, "8ce2495ace584f39fd466237682d0edc7cd0b3e20b9ce26f7ce02c784d2d4c85"), looks := true }, kinds := [], alts := [], laidByText := true, laidKinds := [.data, .data, .data], laidTests := true, laidLooks := .later }
def PagelogDurableUptoCardSaid : Prop := Claim7.holds Tryd.pinned (.plain (OpenSpec.upto pagelogDurableSpec)) pagelogDurableUptoCard

/-- THE SECOND FORM's CARD OF 'quiltlaw41.PagelogAtomic'. -/
def pagelogAtomicUptoCard : Claim7 := { stood := { row := pagelogAtomicUptoRow, standIns := [], harness := (true, "8ce2495ace584f39fd466237682d0edc7cd0b3e20b9ce26f7ce02c784d2d4c85"), looks := true }, kinds := [], alts := [], laidByText := true, laidKinds := [.data, .data, .data], laidTests := true, laidLooks := .later }
def PagelogAtomicUptoCardSaid : Prop := Claim7.holds Tryd.pinned (.plain (OpenSpec.upto pagelogAtomicSpec)) pagelogAtomicUptoCard

/-- THE SECOND FORM's CARD OF 'quiltlaw41.PagelogRoom'. -/
def pagelogRoomUptoCard : Claim7 := { stood := { row := pagelogRoomUptoRow, standIns := [], harness := (true, "8ce2495ace584f39fd466237682d0edc7cd0b3e20b9ce26f7ce02c784d2d4c85"), looks := true }, kinds := [], alts := [], laidByText := true, laidKinds := [.data, .data, .data], laidTests := true, laidLooks := .later }
def PagelogRoomUptoCardSaid : Prop := Claim7.holds Tryd.pinned (.plain (OpenSpec.upto pagelogRoomSpec)) pagelogRoomUptoCard

/-- THE SECOND FORM's CARD OF 'quiltlaw41.PagelogElsewhere'. -/
def pagelogElsewhereUptoCard : Claim7 := { stood := { row := pagelogElsewhereUptoRow, standIns := [], harness := (true, "8ce2495ace584f39fd466237682d0edc7cd0b3e20b9ce26f7ce02c784d2d4c85"), looks := true }, kinds := [], alts := [], laidByText := true, laidKinds := [.data, .data, .data], laidTests := true, laidLooks := .later }
def PagelogElsewhereUptoCardSaid : Prop := Claim7.holds Tryd.pinned (.plain (OpenSpec.upto pagelogElsewhereSpec)) pagelogElsewhereUptoCard
end Rows
end Go.Proofs.YtghikgjknhjjgaaDoor
