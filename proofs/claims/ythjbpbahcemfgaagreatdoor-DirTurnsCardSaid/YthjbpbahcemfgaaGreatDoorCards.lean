/-
  DERIVED. GIVEN WITH THE SEED: THE CARDS: each row of YthjbpbahcemfgaaGreatDoorRows.lean that lists a variable, with what it lists TIED to the program's text (the seventh form; the later family's looks); each row that meets fmt, with fmt's text TOLD by the authors' own Lean function (tested against real Go, not proved from fmt's source: count such statements apart). THE CARD IS WHAT COUNTS. Prove the row's statement (the work); the ties are given (YthjbpbahcemfgaaGreatDoorTie.lean); close each card by the builder's one call (the guide's Derived/Test/ToyasCard.lean, 'card_holds'). Laid BY PROGRAM, IN A SANDBOX (cutbox-door.mjs). By AI agents, Wed Nov 11 2026. No macro, syntax, notation, axiom, sorry.
-/
import Derived.Test.YthjbpbahcemfgaaGreatDoorRows
import GoSem.ClaimSeven
namespace Go.Proofs.YthjbpbahcemfgaaGreatDoor
namespace Rows

/-- THE TIED CARD OF 'credenzalaw10.DirDrops'. -/
def dirDropsCard : Claim7 := { stood := { row := dirDropsRow, standIns := [], harness := (true, "44768ec69d937b8bfe496ca6d6e3bf87b3deceb4f79ca52ff733df7b47bf5d40"), looks := true }, kinds := [], alts := [], laidByText := true, laidKinds := [.data, .data, .data], laidTests := true, laidLooks := .later }
def DirDropsCardSaid : Prop := Claim7.holds Tryz.pinned (.plain (OpenSpec.ofChange dirDropsSpec)) dirDropsCard

/-- THE TIED CARD OF 'credenzalaw8.InodePlays'. -/
def inodePlaysCard : Claim7 := { stood := { row := inodePlaysRow, standIns := [], harness := (true, "44768ec69d937b8bfe496ca6d6e3bf87b3deceb4f79ca52ff733df7b47bf5d40"), looks := true }, kinds := [], alts := [], laidByText := true, laidKinds := [.data, .data, .data, .handle], laidTests := true, laidLooks := .later }
def InodePlaysCardSaid : Prop := Claim7.holds Tryz.pinned (.plain (OpenSpec.ofChange inodePlaysSpec)) inodePlaysCard

/-- THE TIED CARD OF 'credenzalaw10.DirOf'. -/
def dirOfCard : Claim7 := { stood := { row := dirOfRow, standIns := [], harness := (true, "44768ec69d937b8bfe496ca6d6e3bf87b3deceb4f79ca52ff733df7b47bf5d40"), looks := true }, kinds := [], alts := [], laidByText := true, laidKinds := [.data, .data, .data, .handle], laidTests := true, laidLooks := .later }
def DirOfCardSaid : Prop := Claim7.holds Tryz.pinned (.plain (OpenSpec.ofChange dirOfSpec)) dirOfCard

/-- THE TIED CARD OF 'credenzalaw10.DirTurns'. -/
def dirTurnsCard : Claim7 := { stood := { row := dirTurnsRow, standIns := [], harness := (true, "44768ec69d937b8bfe496ca6d6e3bf87b3deceb4f79ca52ff733df7b47bf5d40"), looks := true }, kinds := [], alts := [], laidByText := true, laidKinds := [.data, .data, .data, .handle], laidTests := true, laidLooks := .later }
def DirTurnsCardSaid : Prop := Claim7.holds Tryz.pinned (.plain (OpenSpec.ofChange dirTurnsSpec)) dirTurnsCard

/-- THE TIED CARD OF 'credenzalaw10.DirFills'. -/
def dirFillsCard : Claim7 := { stood := { row := dirFillsRow, standIns := [], harness := (true, "44768ec69d937b8bfe496ca6d6e3bf87b3deceb4f79ca52ff733df7b47bf5d40"), looks := true }, kinds := [], alts := [], laidByText := true, laidKinds := [.data, .data, .data, .handle], laidTests := true, laidLooks := .later }
def DirFillsCardSaid : Prop := Claim7.holds Tryz.pinned (.plain (OpenSpec.ofChange dirFillsSpec)) dirFillsCard

/-- THE SECOND FORM's CARD OF 'credenzalaw10.DirDrops'. -/
def dirDropsUptoCard : Claim7 := { stood := { row := dirDropsUptoRow, standIns := [], harness := (true, "44768ec69d937b8bfe496ca6d6e3bf87b3deceb4f79ca52ff733df7b47bf5d40"), looks := true }, kinds := [], alts := [], laidByText := true, laidKinds := [.data, .data, .data], laidTests := true, laidLooks := .later }
def DirDropsUptoCardSaid : Prop := Claim7.holds Tryz.pinned (.plain (OpenSpec.upto dirDropsSpec)) dirDropsUptoCard

/-- THE SECOND FORM's CARD OF 'credenzalaw8.InodePlays'. -/
def inodePlaysUptoCard : Claim7 := { stood := { row := inodePlaysUptoRow, standIns := [], harness := (true, "44768ec69d937b8bfe496ca6d6e3bf87b3deceb4f79ca52ff733df7b47bf5d40"), looks := true }, kinds := [], alts := [], laidByText := true, laidKinds := [.data, .data, .data, .handle], laidTests := true, laidLooks := .later }
def InodePlaysUptoCardSaid : Prop := Claim7.holds Tryz.pinned (.plain (OpenSpec.upto inodePlaysSpec)) inodePlaysUptoCard

/-- THE SECOND FORM's CARD OF 'credenzalaw10.DirOf'. -/
def dirOfUptoCard : Claim7 := { stood := { row := dirOfUptoRow, standIns := [], harness := (true, "44768ec69d937b8bfe496ca6d6e3bf87b3deceb4f79ca52ff733df7b47bf5d40"), looks := true }, kinds := [], alts := [], laidByText := true, laidKinds := [.data, .data, .data, .handle], laidTests := true, laidLooks := .later }
def DirOfUptoCardSaid : Prop := Claim7.holds Tryz.pinned (.plain (OpenSpec.upto dirOfSpec)) dirOfUptoCard

/-- THE SECOND FORM's CARD OF 'credenzalaw10.DirTurns'. -/
def dirTurnsUptoCard : Claim7 := { stood := { row := dirTurnsUptoRow, standIns := [], harness := (true, "44768ec69d937b8bfe496ca6d6e3bf87b3deceb4f79ca52ff733df7b47bf5d40"), looks := true }, kinds := [], alts := [], laidByText := true, laidKinds := [.data, .data, .data, .handle], laidTests := true, laidLooks := .later }
def DirTurnsUptoCardSaid : Prop := Claim7.holds Tryz.pinned (.plain (OpenSpec.upto dirTurnsSpec)) dirTurnsUptoCard

/-- THE SECOND FORM's CARD OF 'credenzalaw10.DirFills'. -/
def dirFillsUptoCard : Claim7 := { stood := { row := dirFillsUptoRow, standIns := [], harness := (true, "44768ec69d937b8bfe496ca6d6e3bf87b3deceb4f79ca52ff733df7b47bf5d40"), looks := true }, kinds := [], alts := [], laidByText := true, laidKinds := [.data, .data, .data, .handle], laidTests := true, laidLooks := .later }
def DirFillsUptoCardSaid : Prop := Claim7.holds Tryz.pinned (.plain (OpenSpec.upto dirFillsSpec)) dirFillsUptoCard
end Rows
end Go.Proofs.YthjbpbahcemfgaaGreatDoor
