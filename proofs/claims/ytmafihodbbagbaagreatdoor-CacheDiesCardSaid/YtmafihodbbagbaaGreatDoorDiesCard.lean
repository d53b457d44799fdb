/- CacheDies, for every input: the call returns true, and the arguments read as before. No condition of our own; the listed package variables are tied to the program's text by the given tie. -/
import Derived.Test.YtmafihodbbagbaaGreatDoorDiesRow
namespace Go.Proofs.YtmafihodbbagbaaGreatDoor
open Go

theorem cacheDies_holds : Rows.CacheDiesCardSaid :=
  Claim7.holds_tied_plain_at .later [] [.data, .data, .data, .handle] true (true, Rows.cacheDiesCard.stood.harness.2) true
    DiesRow.over (fun _ h => by cases h) (by kernel_rfl) (fun _ h => by cases h) cacheDies_row_tie rfl ⟨rfl, rfl⟩ (by kernel_rfl) rfl
    (fun f fn hf hfn => by
      obtain rfl : f = 4 := Option.some.inj ((show Tryz.prog.funcNamed "credenza/credenzalaw5.CacheDies" = some 4 by kernel_rfl).symm.trans hf) |>.symm
      obtain rfl : fn = Tryz.f4 := (Option.some.inj (Tryz.func4.symm.trans hfn)).symm
      exact ⟨by kernel_rfl, fun j t ht => by
        rw [Tryz.params4] at ht
        have h3 : t = 3 := by
          rcases j with _ | _ | _ | j
          · simpa using ht.symm
          · simpa using ht.symm
          · simpa using ht.symm
          · simp at ht
        subst h3
        exact (show Tryz.prog.wantsStandIn 3 = false by kernel_rfl)⟩)
    (by kernel_rfl)
#print axioms cacheDies_holds
end Go.Proofs.YtmafihodbbagbaaGreatDoor
