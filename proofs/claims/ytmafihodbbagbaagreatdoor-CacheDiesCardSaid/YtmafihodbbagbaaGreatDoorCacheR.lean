/- The cache: Read refused; the statements' Fill. -/
import Derived.Test.YtmafihodbbagbaaGreatDoorCacheF
namespace Go.Proofs.YtmafihodbbagbaaGreatDoor
open Go.RowKit
set_option maxHeartbeats 1000000
set_option maxRecDepth 20000

theorem cache_Read_bad {w : World} {bc bj bm bd : Nat} {C : CSt} {F : Nat → Prop} (h : CRep w bc bj bm bd C F) (no : Int) (h0 : no < 0 ∨ (C.blocks : Int) ≤ no) (hr0 : -9223372036854775808 ≤ no) (hr : no ≤ 9223372036854775807) :
    Calls Tryz.prog 11 #[.pointer (some ⟨bc, 0, none⟩), .int .i64 no] w fun e w' => ∃ v, e = .returned (.tuple #[.slice none 0 0, v]) ∧ IsErr w' v [(tx [99, 97, 99, 104, 101], tx (Lib.itoa no))] 1 ∧ Kp (fun _ => False) w w' := by
  have H := Lib.hid h
  clear h
  go_enter Tryz.func11, Tryz.ntmps11
  go_wp2_with fail
  refine (cache_there_no H.out no h0).mono ?_
  rintro e w1 ⟨rfl, rfl⟩
  go_wp2_with fail
  refine (cache_wrong _ _ _ H.out.disk.gl hr0 hr (by decide)).mono ?_
  rintro e w1 ⟨v5, rfl, hv5, hk5⟩
  replace hv5 := Lib.hid hv5
  replace hk5 := Lib.hid hk5
  go_wp2_with fail
  go_ret2
  exact ⟨v5, rfl, hv5.out, hk5.out⟩
end Go.Proofs.YtmafihodbbagbaaGreatDoor
