/- AllocLeast, for every input: the call returns true, and the argument reads as before. No condition of our own; the listed package variables are tied to the program's text by the given tie. -/
import Derived.Test.YtinaolijnjoneaaDoorLeastRow
namespace Go.Proofs.YtinaolijnjoneaaDoor
open Go

theorem allocLeast_holds : Rows.AllocLeastCardSaid :=
  Claim7.holds_tied_plain_at .later [] [.data, .data, .data, .handle] true (true, Rows.allocLeastCard.stood.harness.2) true
    LeastRow.over (fun _ h => by cases h) (by kernel_rfl) (fun _ h => by cases h) allocLeast_row_tie rfl ⟨rfl, rfl⟩ (by kernel_rfl) rfl
    (fun f fn hf hfn => by
      obtain rfl : f = 4 := Option.some.inj ((show Tryd.prog.funcNamed "credenza/credenzalaw7.AllocLeast" = some 4 by kernel_rfl).symm.trans hf) |>.symm
      obtain rfl : fn = Tryd.f4 := (Option.some.inj (Tryd.func4.symm.trans hfn)).symm
      exact ⟨by kernel_rfl, fun j t ht => by
        rw [Tryd.params4] at ht
        have h3 : t = 36 := by
          rcases j with _ | j
          · simpa using ht.symm
          · simp at ht
        subst h3
        exact (show Tryd.prog.wantsStandIn 36 = false by kernel_rfl)⟩)
    (by kernel_rfl)
#print axioms allocLeast_holds
end Go.Proofs.YtinaolijnjoneaaDoor
