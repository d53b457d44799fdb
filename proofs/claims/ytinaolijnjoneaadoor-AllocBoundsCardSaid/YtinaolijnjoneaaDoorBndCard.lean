/- AllocBounds, for every input: the call returns true, and the arguments read as before. No condition of our own; the listed package variables are tied to the program's text by the given tie. -/
import Derived.Test.YtinaolijnjoneaaDoorBndRow
namespace Go.Proofs.YtinaolijnjoneaaDoor
open Go

theorem allocBounds_holds : Rows.AllocBoundsCardSaid :=
  Claim7.holds_tied_plain_at .later [] [.data, .data, .data, .handle] true (true, Rows.allocBoundsCard.stood.harness.2) true
    BndRow.over (fun _ h => by cases h) (by kernel_rfl) (fun _ h => by cases h) allocBounds_row_tie rfl ⟨rfl, rfl⟩ (by kernel_rfl) rfl
    (fun f fn hf hfn => by
      obtain rfl : f = 5 := Option.some.inj ((show Tryd.prog.funcNamed "credenza/credenzalaw7.AllocBounds" = some 5 by kernel_rfl).symm.trans hf) |>.symm
      obtain rfl : fn = Tryd.f5 := (Option.some.inj (Tryd.func5.symm.trans hfn)).symm
      exact ⟨by kernel_rfl, fun j t ht => by
        rw [Tryd.params5] at ht
        have h3 : t = 3 := by
          rcases j with _ | _ | _ | j
          · simpa using ht.symm
          · simpa using ht.symm
          · simpa using ht.symm
          · simp at ht
        subst h3
        exact (show Tryd.prog.wantsStandIn 3 = false by kernel_rfl)⟩)
    (by kernel_rfl)
#print axioms allocBounds_holds
end Go.Proofs.YtinaolijnjoneaaDoor
