/- AllocPlays, for every input: the call returns true, and the arguments read as before. No condition of our own; the listed package variables are tied to the program's text by the given tie. -/
import Derived.Test.YtinaolijnjoneaaGreatDoorPlays7Row
namespace Go.Proofs.YtinaolijnjoneaaGreatDoor
open Go

theorem allocPlays_holds : Rows.AllocPlaysCardSaid :=
  Claim7.holds_tied_plain_at .later [] [.data, .data, .data, .handle] true (true, Rows.allocPlaysCard.stood.harness.2) true
    Plays7Row.over (fun _ h => by cases h) (by kernel_rfl) (fun _ h => by cases h) allocPlays_row_tie rfl ⟨rfl, rfl⟩ (by kernel_rfl) rfl
    (fun f fn hf hfn => by
      obtain rfl : f = 7 := Option.some.inj ((show Tryz.prog.funcNamed "credenza/credenzalaw7.AllocPlays" = some 7 by kernel_rfl).symm.trans hf) |>.symm
      obtain rfl : fn = Tryz.f7 := (Option.some.inj (Tryz.func7.symm.trans hfn)).symm
      exact ⟨by kernel_rfl, fun j t ht => by
        rw [Tryz.params7] at ht
        rcases j with _ | _ | j
        · obtain rfl : t = 3 := by simpa using ht.symm
          exact (show Tryz.prog.wantsStandIn 3 = false by kernel_rfl)
        · obtain rfl : t = 53 := by simpa using ht.symm
          exact (show Tryz.prog.wantsStandIn 53 = false by kernel_rfl)
        · simp at ht⟩)
    (by kernel_rfl)
#print axioms allocPlays_holds
end Go.Proofs.YtinaolijnjoneaaGreatDoor
