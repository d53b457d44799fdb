/- AllocFills, for every input: the call returns true, and the arguments read as before. No condition of our own; the listed package variables are tied to the program's text by the given tie. -/
import Derived.Test.YtinaolijnjoneaaDoorFillsRow
namespace Go.Proofs.YtinaolijnjoneaaDoor
open Go

theorem allocFills_holds : Rows.AllocFillsCardSaid :=
  Claim7.holds_tied_plain_at .later [] [.data, .data, .data, .handle] true (true, Rows.allocFillsCard.stood.harness.2) true
    FillsRow.over (fun _ h => by cases h) (by kernel_rfl) (fun _ h => by cases h) allocFills_row_tie rfl ⟨rfl, rfl⟩ (by kernel_rfl) rfl
    (fun f fn hf hfn => by
      obtain rfl : f = 6 := Option.some.inj ((show Tryd.prog.funcNamed "credenza/credenzalaw7.AllocFills" = some 6 by kernel_rfl).symm.trans hf) |>.symm
      obtain rfl : fn = Tryd.f6 := (Option.some.inj (Tryd.func6.symm.trans hfn)).symm
      exact ⟨by kernel_rfl, fun j t ht => by
        rw [Tryd.params6] at ht
        have h3 : t = 3 := by
          rcases j with _ | _ | j
          · simpa using ht.symm
          · simpa using ht.symm
          · simp at ht
        subst h3
        exact (show Tryd.prog.wantsStandIn 3 = false by kernel_rfl)⟩)
    (by kernel_rfl)
#print axioms allocFills_holds
end Go.Proofs.YtinaolijnjoneaaDoor
