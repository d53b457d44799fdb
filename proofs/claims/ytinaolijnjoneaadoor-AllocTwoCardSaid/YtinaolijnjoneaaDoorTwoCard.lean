/- AllocTwo, for every input: the call returns true, and the argument reads as before. No condition of our own; the listed package variables are tied to the program's text by the given tie. -/
import Derived.Test.YtinaolijnjoneaaDoorTwoRow
namespace Go.Proofs.YtinaolijnjoneaaDoor
open Go

theorem allocTwo_holds : Rows.AllocTwoCardSaid :=
  Claim7.holds_tied_plain_at .later [] [.data, .data, .data] true (true, Rows.allocTwoCard.stood.harness.2) true
    TwoRow.over (fun _ h => by cases h) (by kernel_rfl) (fun _ h => by cases h) allocTwo_row_tie rfl ⟨rfl, rfl⟩ (by kernel_rfl) rfl
    (fun f fn hf hfn => by
      obtain rfl : f = 3 := Option.some.inj ((show Tryd.prog.funcNamed "credenza/credenzalaw7.AllocTwo" = some 3 by kernel_rfl).symm.trans hf) |>.symm
      obtain rfl : fn = Tryd.f3 := (Option.some.inj (Tryd.func3.symm.trans hfn)).symm
      exact ⟨by kernel_rfl, fun j t ht => by
        rw [Tryd.params3] at ht
        have h3 : t = 22 := by
          rcases j with _ | j
          · simpa using ht.symm
          · simp at ht
        subst h3
        exact (show Tryd.prog.wantsStandIn 22 = false by kernel_rfl)⟩)
    (by kernel_rfl)
#print axioms allocTwo_holds
end Go.Proofs.YtinaolijnjoneaaDoor
