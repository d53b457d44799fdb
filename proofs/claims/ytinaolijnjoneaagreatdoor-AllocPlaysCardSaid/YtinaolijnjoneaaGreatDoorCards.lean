/-
  DERIVED. GIVEN WITH THE SEED: THE CARDS: each row of YtinaolijnjoneaaGreatDoorRows.lean that lists a variable, with what it lists TIED to the program's text (the seventh form; the later family's looks); each row that meets fmt, with fmt's text TOLD by the authors' own Lean function (tested against real Go, not proved from fmt's source: count such statements apart). THE CARD IS WHAT COUNTS. Prove the row's statement (the work); the ties are given (YtinaolijnjoneaaGreatDoorTie.lean); close each card by the builder's one call (the guide's Derived/Test/ToyasCard.lean, 'card_holds'). Laid BY PROGRAM, IN A SANDBOX (cutbox-door.mjs). By AI agents, Wed Nov 11 2026. No macro, syntax, notation, axiom, sorry.
-/
import Derived.Test.YtinaolijnjoneaaGreatDoorRows
import GoSem.ClaimSeven
namespace Go.Proofs.YtinaolijnjoneaaGreatDoor
namespace Rows

/-- THE TIED CARD OF 'credenzalaw5.CacheFull'. -/
def cacheFullCard : Claim7 := { stood := { row := cacheFullRow, standIns := [], harness := (true, "c4be285a7c2b4b94ecf574547882cf23387140bd3376611b7426b321e97f343c"), looks := true }, kinds := [], alts := [], laidByText := true, laidKinds := [.data, .data, .data, .handle], laidTests := true, laidLooks := .later }
def CacheFullCardSaid : Prop := Claim7.holds Tryz.pinned (.plain (OpenSpec.ofChange cacheFullSpec)) cacheFullCard

/-- THE TIED CARD OF 'credenzalaw5.CacheFlushes'. -/
def cacheFlushesCard : Claim7 := { stood := { row := cacheFlushesRow, standIns := [], harness := (true, "c4be285a7c2b4b94ecf574547882cf23387140bd3376611b7426b321e97f343c"), looks := true }, kinds := [], alts := [], laidByText := true, laidKinds := [.data, .data, .data, .handle], laidTests := true, laidLooks := .later }
def CacheFlushesCardSaid : Prop := Claim7.holds Tryz.pinned (.plain (OpenSpec.ofChange cacheFlushesSpec)) cacheFlushesCard

/-- THE TIED CARD OF 'credenzalaw5.CachePlays'. -/
def cachePlaysCard : Claim7 := { stood := { row := cachePlaysRow, standIns := [], harness := (true, "c4be285a7c2b4b94ecf574547882cf23387140bd3376611b7426b321e97f343c"), looks := true }, kinds := [], alts := [], laidByText := true, laidKinds := [.data, .data, .data, .handle], laidTests := true, laidLooks := .later }
def CachePlaysCardSaid : Prop := Claim7.holds Tryz.pinned (.plain (OpenSpec.ofChange cachePlaysSpec)) cachePlaysCard

/-- THE TIED CARD OF 'credenzalaw5.CacheDies'. -/
def cacheDiesCard : Claim7 := { stood := { row := cacheDiesRow, standIns := [], harness := (true, "c4be285a7c2b4b94ecf574547882cf23387140bd3376611b7426b321e97f343c"), looks := true }, kinds := [], alts := [], laidByText := true, laidKinds := [.data, .data, .data, .handle], laidTests := true, laidLooks := .later }
def CacheDiesCardSaid : Prop := Claim7.holds Tryz.pinned (.plain (OpenSpec.ofChange cacheDiesSpec)) cacheDiesCard

/-- THE TIED CARD OF 'credenzalaw7.AllocPlays'. -/
def allocPlaysCard : Claim7 := { stood := { row := allocPlaysRow, standIns := [], harness := (true, "c4be285a7c2b4b94ecf574547882cf23387140bd3376611b7426b321e97f343c"), looks := true }, kinds := [], alts := [], laidByText := true, laidKinds := [.data, .data, .data, .handle], laidTests := true, laidLooks := .later }
def AllocPlaysCardSaid : Prop := Claim7.holds Tryz.pinned (.plain (OpenSpec.ofChange allocPlaysSpec)) allocPlaysCard

/-- THE SECOND FORM's CARD OF 'credenzalaw5.CacheFull'. -/
def cacheFullUptoCard : Claim7 := { stood := { row := cacheFullUptoRow, standIns := [], harness := (true, "c4be285a7c2b4b94ecf574547882cf23387140bd3376611b7426b321e97f343c"), looks := true }, kinds := [], alts := [], laidByText := true, laidKinds := [.data, .data, .data, .handle], laidTests := true, laidLooks := .later }
def CacheFullUptoCardSaid : Prop := Claim7.holds Tryz.pinned (.plain (OpenSpec.upto cacheFullSpec)) cacheFullUptoCard

/-- THE SECOND FORM's CARD OF 'credenzalaw5.CacheFlushes'. -/
def cacheFlushesUptoCard : Claim7 := { stood := { row := cacheFlushesUptoRow, standIns := [], harness := (true, "c4be285a7c2b4b94ecf574547882cf23387140bd3376611b7426b321e97f343c"), looks := true }, kinds := [], alts := [], laidByText := true, laidKinds := [.data, .data, .data, .handle], laidTests := true, laidLooks := .later }
def CacheFlushesUptoCardSaid : Prop := Claim7.holds Tryz.pinned (.plain (OpenSpec.upto cacheFlushesSpec)) cacheFlushesUptoCard

/-- THE SECOND FORM's CARD OF 'credenzalaw5.CachePlays'. -/
def cachePlaysUptoCard : Claim7 := { stood := { row := cachePlaysUptoRow, standIns := [], harness := (true, "c4be285a7c2b4b94ecf574547882cf23387140bd3376611b7426b321e97f343c"), looks := true }, kinds := [], alts := [], laidByText := true, laidKinds := [.data, .data, .data, .handle], laidTests := true, laidLooks := .later }
def CachePlaysUptoCardSaid : Prop := Claim7.holds Tryz.pinned (.plain (OpenSpec.upto cachePlaysSpec)) cachePlaysUptoCard

/-- THE SECOND FORM's CARD OF 'credenzalaw5.CacheDies'. -/
def cacheDiesUptoCard : Claim7 := { stood := { row := cacheDiesUptoRow, standIns := [], harness := (true, "c4be285a7c2b4b94ecf574547882cf23387140bd3376611b7426b321e97f343c"), looks := true }, kinds := [], alts := [], laidByText := true, laidKinds := [.data, .data, .data, .handle], laidTests := true, laidLooks := .later }
def CacheDiesUptoCardSaid : Prop := Claim7.holds Tryz.pinned (.plain (OpenSpec.upto cacheDiesSpec)) cacheDiesUptoCard

/-- THE SECOND FORM's CARD OF 'credenzalaw7.AllocPlays'. -/
def allocPlaysUptoCard : Claim7 := { stood := { row := allocPlaysUptoRow, standIns := [], harness := (true, "c4be285a7c2b4b94ecf574547882cf23387140bd3376611b7426b321e97f343c"), looks := true }, kinds := [], alts := [], laidByText := true, laidKinds := [.data, .data, .data, .handle], laidTests := true, laidLooks := .later }
def AllocPlaysUptoCardSaid : Prop := Claim7.holds Tryz.pinned (.plain (OpenSpec.upto allocPlaysSpec)) allocPlaysUptoCard
end Rows
end Go.Proofs.YtinaolijnjoneaaGreatDoor
