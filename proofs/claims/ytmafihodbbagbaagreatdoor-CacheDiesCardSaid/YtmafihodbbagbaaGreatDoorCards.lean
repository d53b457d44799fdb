/-
  DERIVED. GIVEN WITH THE SEED: THE CARDS: each row of YtmafihodbbagbaaGreatDoorRows.lean that lists a variable, with what it lists TIED to the program's text (the seventh form; the later family's looks); each row that meets fmt, with fmt's text TOLD by the authors' own Lean function (tested against real Go, not proved from fmt's source: count such statements apart). THE CARD IS WHAT COUNTS. Prove the row's statement (the work); the ties are given (YtmafihodbbagbaaGreatDoorTie.lean); close each card by the builder's one call (the guide's Derived/Test/ToyasCard.lean, 'card_holds'). Laid BY PROGRAM, IN A SANDBOX (cutbox-door.mjs). By AI agents, Wed Nov 11 2026. No macro, syntax, notation, axiom, sorry.
-/
import Derived.Test.YtmafihodbbagbaaGreatDoorRows
import GoSem.ClaimSeven
namespace Go.Proofs.YtmafihodbbagbaaGreatDoor
namespace Rows

/-- THE TIED CARD OF 'credenzalaw5.CachePlays'. -/
def cachePlaysCard : Claim7 := { stood := { row := cachePlaysRow, standIns := [], harness := (true, "e19cc2767c0c420dcfe5c190b566bc7a562dab9f8d08a1f25054104beef9f9ad"), looks := true }, kinds := [], alts := [], laidByText := true, laidKinds := [.data, .data, .data, .handle], laidTests := true, laidLooks := .later }
def CachePlaysCardSaid : Prop := Claim7.holds Tryz.pinned (.plain (OpenSpec.ofChange cachePlaysSpec)) cachePlaysCard

/-- THE TIED CARD OF 'credenzalaw5.CacheDies'. -/
def cacheDiesCard : Claim7 := { stood := { row := cacheDiesRow, standIns := [], harness := (true, "e19cc2767c0c420dcfe5c190b566bc7a562dab9f8d08a1f25054104beef9f9ad"), looks := true }, kinds := [], alts := [], laidByText := true, laidKinds := [.data, .data, .data, .handle], laidTests := true, laidLooks := .later }
def CacheDiesCardSaid : Prop := Claim7.holds Tryz.pinned (.plain (OpenSpec.ofChange cacheDiesSpec)) cacheDiesCard

/-- THE SECOND FORM's CARD OF 'credenzalaw5.CachePlays'. -/
def cachePlaysUptoCard : Claim7 := { stood := { row := cachePlaysUptoRow, standIns := [], harness := (true, "e19cc2767c0c420dcfe5c190b566bc7a562dab9f8d08a1f25054104beef9f9ad"), looks := true }, kinds := [], alts := [], laidByText := true, laidKinds := [.data, .data, .data, .handle], laidTests := true, laidLooks := .later }
def CachePlaysUptoCardSaid : Prop := Claim7.holds Tryz.pinned (.plain (OpenSpec.upto cachePlaysSpec)) cachePlaysUptoCard

/-- THE SECOND FORM's CARD OF 'credenzalaw5.CacheDies'. -/
def cacheDiesUptoCard : Claim7 := { stood := { row := cacheDiesUptoRow, standIns := [], harness := (true, "e19cc2767c0c420dcfe5c190b566bc7a562dab9f8d08a1f25054104beef9f9ad"), looks := true }, kinds := [], alts := [], laidByText := true, laidKinds := [.data, .data, .data, .handle], laidTests := true, laidLooks := .later }
def CacheDiesUptoCardSaid : Prop := Claim7.holds Tryz.pinned (.plain (OpenSpec.upto cacheDiesSpec)) cacheDiesUptoCard
end Rows
end Go.Proofs.YtmafihodbbagbaaGreatDoor
