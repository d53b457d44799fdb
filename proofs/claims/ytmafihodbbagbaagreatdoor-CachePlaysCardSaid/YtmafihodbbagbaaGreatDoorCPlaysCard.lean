/- CachePlays, for every input: the call returns true, and the arguments read as before. No condition of our own; the listed package variables are tied to the program's text by the given tie. -/
import Derived.Test.YtmafihodbbagbaaGreatDoorCPlaysRow
namespace Go.Proofs.YtmafihodbbagbaaGreatDoor
open Go

theorem cachePlays_holds : Rows.CachePlaysCardSaid :=
  Claim7.holds_tied_plain_at .later [] [.data, .data, .data, .handle] true (true, Rows.cachePlaysCard.stood.harness.2) true
    CPlaysRow.over (fun _ h => by cases h) (by kernel_rfl) (fun _ h => by cases h) cachePlays_row_tie rfl ⟨rfl, rfl⟩ (by kernel_rfl) rfl
    (fun f fn hf hfn => by
      obtain rfl : f = 3 := Option.some.inj ((show Tryz.prog.funcNamed "credenza/credenzalaw5.CachePlays" = some 3 by kernel_rfl).symm.trans hf) |>.symm
      obtain rfl : fn = Tryz.f3 := (Option.some.inj (Tryz.func3.symm.trans hfn)).symm
      exact ⟨by kernel_rfl, fun j t ht => by
        rw [Tryz.params3] at ht
        rcases j with _ | _ | j
        · obtain rfl : t = 3 := by simpa using ht.symm
          exact (show Tryz.prog.wantsStandIn 3 = false by kernel_rfl)
        · obtain rfl : t = 22 := by simpa using ht.symm
          exact (show Tryz.prog.wantsStandIn 22 = false by kernel_rfl)
        · simp at ht⟩)
    (by kernel_rfl)
#print axioms cachePlays_holds
end Go.Proofs.YtmafihodbbagbaaGreatDoor
