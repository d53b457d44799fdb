/-
  DERIVED. GIVEN WITH THE SEED: THE CARDS: each row of YtinaolijnjoneaaDoorRows.lean that lists a variable, with what it lists TIED to the program's text (the seventh form; the later family's looks); each row that meets fmt, with fmt's text TOLD by the authors' own Lean function (tested against real Go, not proved from fmt's source: count such statements apart). THE CARD IS WHAT COUNTS. Prove the row's statement (the work); the ties are given (YtinaolijnjoneaaDoorTie.lean); close each card by the builder's one call (the guide's Derived/Test/ToyasCard.lean, 'card_holds'). Laid BY PROGRAM, IN A SANDBOX (cutbox-door.mjs). By AI agents, Wed Nov 11 2026. No macro, syntax, notation, axiom, sorry.
-/
import Derived.Test.YtinaolijnjoneaaDoorRows
import GoSem.ClaimSeven
namespace Go.Proofs.YtinaolijnjoneaaDoor
namespace Rows

/-- THE TIED CARD OF 'credenzalaw7.AllocTwo'. -/
def allocTwoCard : Claim7 := { stood := { row := allocTwoRow, standIns := [], harness := (true, "58c9efa7e9cad3a8e31b015862909125ca69ba7611caa36d8339c4956e0da49a"), looks := true }, kinds := [], alts := [], laidByText := true, laidKinds := [.data, .data, .data], laidTests := true, laidLooks := .later }
def AllocTwoCardSaid : Prop := Claim7.holds Tryd.pinned (.plain (OpenSpec.ofChange allocTwoSpec)) allocTwoCard

/-- THE TIED CARD OF 'credenzalaw7.AllocLeast'. -/
def allocLeastCard : Claim7 := { stood := { row := allocLeastRow, standIns := [], harness := (true, "58c9efa7e9cad3a8e31b015862909125ca69ba7611caa36d8339c4956e0da49a"), looks := true }, kinds := [], alts := [], laidByText := true, laidKinds := [.data, .data, .data, .handle], laidTests := true, laidLooks := .later }
def AllocLeastCardSaid : Prop := Claim7.holds Tryd.pinned (.plain (OpenSpec.ofChange allocLeastSpec)) allocLeastCard

/-- THE TIED CARD OF 'credenzalaw7.AllocBounds'. -/
def allocBoundsCard : Claim7 := { stood := { row := allocBoundsRow, standIns := [], harness := (true, "58c9efa7e9cad3a8e31b015862909125ca69ba7611caa36d8339c4956e0da49a"), looks := true }, kinds := [], alts := [], laidByText := true, laidKinds := [.data, .data, .data, .handle], laidTests := true, laidLooks := .later }
def AllocBoundsCardSaid : Prop := Claim7.holds Tryd.pinned (.plain (OpenSpec.ofChange allocBoundsSpec)) allocBoundsCard

/-- THE TIED CARD OF 'credenzalaw7.AllocFills'. -/
def allocFillsCard : Claim7 := { stood := { row := allocFillsRow, standIns := [], harness := (true, "58c9efa7e9cad3a8e31b015862909125ca69ba7611caa36d8339c4956e0da49a"), looks := true }, kinds := [], alts := [], laidByText := true, laidKinds := [.data, .data, .data, .handle], laidTests := true, laidLooks := .later }
def AllocFillsCardSaid : Prop := Claim7.holds Tryd.pinned (.plain (OpenSpec.ofChange allocFillsSpec)) allocFillsCard

/-- THE SECOND FORM's CARD OF 'credenzalaw7.AllocTwo'. -/
def allocTwoUptoCard : Claim7 := { stood := { row := allocTwoUptoRow, standIns := [], harness := (true, "58c9efa7e9cad3a8e31b015862909125ca69ba7611caa36d8339c4956e0da49a"), looks := true }, kinds := [], alts := [], laidByText := true, laidKinds := [.data, .data, .data], laidTests := true, laidLooks := .later }
def AllocTwoUptoCardSaid : Prop := Claim7.holds Tryd.pinned (.plain (OpenSpec.upto allocTwoSpec)) allocTwoUptoCard

/-- THE SECOND FORM's CARD OF 'credenzalaw7.AllocLeast'. -/
def allocLeastUptoCard : Claim7 := { stood := { row := allocLeastUptoRow, standIns := [], harness := (true, "58c9efa7e9cad3a8e31b015862909125ca69ba7611caa36d8339c4956e0da49a"), looks := true }, kinds := [], alts := [], laidByText := true, laidKinds := [.data, .data, .data, .handle], laidTests := true, laidLooks := .later }
def AllocLeastUptoCardSaid : Prop := Claim7.holds Tryd.pinned (.plain (OpenSpec.upto allocLeastSpec)) allocLeastUptoCard

/-- THE SECOND FORM's CARD OF 'credenzalaw7.AllocBounds'. -/
def allocBoundsUptoCard : Claim7 := { stood := { row := allocBoundsUptoRow, standIns := [], harness := (true, "58c9efa7e9cad3a8e31b015862909125ca69ba7611caa36d8339c4956e0da49a"), looks := true }, kinds := [], alts := [], laidByText := true, laidKinds := [.data, .data, .data, .handle], laidTests := true, laidLooks := .later }
def AllocBoundsUptoCardSaid : Prop := Claim7.holds Tryd.pinned (.plain (OpenSpec.upto allocBoundsSpec)) allocBoundsUptoCard

/-- THE SECOND FORM's CARD OF 'credenzalaw7.AllocFills'. -/
def allocFillsUptoCard : Claim7 := { stood := { row := allocFillsUptoRow, standIns := [], harness := (true, "58c9efa7e9cad3a8e31b015862909125ca69ba7611caa36d8339c4956e0da49a"), looks := true }, kinds := [], alts := [], laidByText := true, laidKinds := [.data, .data, .data, .handle], laidTests := true, laidLooks := .later }
def AllocFillsUptoCardSaid : Prop := Claim7.holds Tryd.pinned (.plain (OpenSpec.upto allocFillsSpec)) allocFillsUptoCard
end Rows
end Go.Proofs.YtinaolijnjoneaaDoor
