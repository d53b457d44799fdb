/-
  DERIVED. GIVEN WITH THE SEED: THE CARDS: each row of YtdmmlkkemceifaaGreatDoorRows.lean that lists a variable, with what it lists TIED to the program's text (the seventh form; the later family's looks); each row that meets fmt, with fmt's text TOLD by the authors' own Lean function (tested against real Go, not proved from fmt's source: count such statements apart). THE CARD IS WHAT COUNTS. Prove the row's statement (the work); the ties are given (YtdmmlkkemceifaaGreatDoorTie.lean); close each card by the builder's one call (the guide's Derived/Test/ToyasCard.lean, 'card_holds'). Laid BY PROGRAM, IN A SANDBOX (cutbox-door.mjs). By AI agents, Wed Nov 11 2026. No macro, syntax, notation, axiom, sorry.
-/
import Derived.Test.YtdmmlkkemceifaaGreatDoorRows
import GoSem.ClaimSeven
namespace Go.Proofs.YtdmmlkkemceifaaGreatDoor
namespace Rows

/-- THE TIED CARD OF 'credenzalaw8.InodePieces'. -/
def inodePiecesCard : Claim7 := { stood := { row := inodePiecesRow, standIns := [], harness := (true, "bd34406d36a2ff9c6deaf03e8a267bb193f774380e3faa37a5274c9a68e26c56"), looks := true }, kinds := [], alts := [], laidByText := true, laidKinds := [.data, .data, .data], laidTests := true, laidLooks := .later }
def InodePiecesCardSaid : Prop := Claim7.holds Tryz.pinned (.plain (OpenSpec.ofChange inodePiecesSpec)) inodePiecesCard

/-- THE TIED CARD OF 'credenzalaw8.InodeSizes'. -/
def inodeSizesCard : Claim7 := { stood := { row := inodeSizesRow, standIns := [], harness := (true, "bd34406d36a2ff9c6deaf03e8a267bb193f774380e3faa37a5274c9a68e26c56"), looks := true }, kinds := [], alts := [], laidByText := true, laidKinds := [.data, .data, .data], laidTests := true, laidLooks := .later }
def InodeSizesCardSaid : Prop := Claim7.holds Tryz.pinned (.plain (OpenSpec.ofChange inodeSizesSpec)) inodeSizesCard

/-- THE TIED CARD OF 'credenzalaw8.InodeFull'. -/
def inodeFullCard : Claim7 := { stood := { row := inodeFullRow, standIns := [], harness := (true, "bd34406d36a2ff9c6deaf03e8a267bb193f774380e3faa37a5274c9a68e26c56"), looks := true }, kinds := [], alts := [], laidByText := true, laidKinds := [.data, .data, .data, .handle], laidTests := true, laidLooks := .later }
def InodeFullCardSaid : Prop := Claim7.holds Tryz.pinned (.plain (OpenSpec.ofChange inodeFullSpec)) inodeFullCard

/-- THE TIED CARD OF 'credenzalaw8.InodeMany'. -/
def inodeManyCard : Claim7 := { stood := { row := inodeManyRow, standIns := [], harness := (true, "bd34406d36a2ff9c6deaf03e8a267bb193f774380e3faa37a5274c9a68e26c56"), looks := true }, kinds := [], alts := [], laidByText := true, laidKinds := [.data, .data, .data, .handle], laidTests := true, laidLooks := .later }
def InodeManyCardSaid : Prop := Claim7.holds Tryz.pinned (.plain (OpenSpec.ofChange inodeManySpec)) inodeManyCard

/-- THE TIED CARD OF 'credenzalaw8.InodePlays'. -/
def inodePlaysCard : Claim7 := { stood := { row := inodePlaysRow, standIns := [], harness := (true, "bd34406d36a2ff9c6deaf03e8a267bb193f774380e3faa37a5274c9a68e26c56"), looks := true }, kinds := [], alts := [], laidByText := true, laidKinds := [.data, .data, .data, .handle], laidTests := true, laidLooks := .later }
def InodePlaysCardSaid : Prop := Claim7.holds Tryz.pinned (.plain (OpenSpec.ofChange inodePlaysSpec)) inodePlaysCard

/-- THE SECOND FORM's CARD OF 'credenzalaw8.InodePieces'. -/
def inodePiecesUptoCard : Claim7 := { stood := { row := inodePiecesUptoRow, standIns := [], harness := (true, "bd34406d36a2ff9c6deaf03e8a267bb193f774380e3faa37a5274c9a68e26c56"), looks := true }, kinds := [], alts := [], laidByText := true, laidKinds := [.data, .data, .data], laidTests := true, laidLooks := .later }
def InodePiecesUptoCardSaid : Prop := Claim7.holds Tryz.pinned (.plain (OpenSpec.upto inodePiecesSpec)) inodePiecesUptoCard

/-- THE SECOND FORM's CARD OF 'credenzalaw8.InodeSizes'. -/
def inodeSizesUptoCard : Claim7 := { stood := { row := inodeSizesUptoRow, standIns := [], harness := (true, "bd34406d36a2ff9c6deaf03e8a267bb193f774380e3faa37a5274c9a68e26c56"), looks := true }, kinds := [], alts := [], laidByText := true, laidKinds := [.data, .data, .data], laidTests := true, laidLooks := .later }
def InodeSizesUptoCardSaid : Prop := Claim7.holds Tryz.pinned (.plain (OpenSpec.upto inodeSizesSpec)) inodeSizesUptoCard

/-- THE SECOND FORM's CARD OF 'credenzalaw8.InodeFull'. -/
def inodeFullUptoCard : Claim7 := { stood := { row := inodeFullUptoRow, standIns := [], harness := (true, "bd34406d36a2ff9c6deaf03e8a267bb193f774380e3faa37a5274c9a68e26c56"), looks := true }, kinds := [], alts := [], laidByText := true, laidKinds := [.data, .data, .data, .handle], laidTests := true, laidLooks := .later }
def InodeFullUptoCardSaid : Prop := Claim7.holds Tryz.pinned (.plain (OpenSpec.upto inodeFullSpec)) inodeFullUptoCard

/-- THE SECOND FORM's CARD OF 'credenzalaw8.InodeMany'. -/
def inodeManyUptoCard : Claim7 := { stood := { row := inodeManyUptoRow, standIns := [], harness := (true, "bd34406d36a2ff9c6deaf03e8a267bb193f774380e3faa37a5274c9a68e26c56"), looks := true }, kinds := [], alts := [], laidByText := true, laidKinds := [.data, .data, .data, .handle], laidTests := true, laidLooks := .later }
def InodeManyUptoCardSaid : Prop := Claim7.holds Tryz.pinned (.plain (OpenSpec.upto inodeManySpec)) inodeManyUptoCard

/-- THE SECOND FORM's CARD OF 'credenzalaw8.InodePlays'. -/
def inodePlaysUptoCard : Claim7 := { stood := { row := inodePlaysUptoRow, standIns := [], harness := (true, "bd34406d36a2ff9c6deaf03e8a267bb193f774380e3faa37a5274c9a68e26c56"), looks := true }, kinds := [], alts := [], laidByText := true, laidKinds := [.data, .data, .data, .handle], laidTests := true, laidLooks := .later }
def InodePlaysUptoCardSaid : Prop := Claim7.holds Tryz.pinned (.plain (OpenSpec.upto inodePlaysSpec)) inodePlaysUptoCard
end Rows
end Go.Proofs.YtdmmlkkemceifaaGreatDoor
