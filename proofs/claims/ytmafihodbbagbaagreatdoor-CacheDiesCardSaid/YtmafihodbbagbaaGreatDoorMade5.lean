/- The law's own helpers of layer 5: made (a cache of 12 blocks over a disk of 60). -/
import Derived.Test.YtmafihodbbagbaaGreatDoorCacheR
import Derived.Test.YtmafihodbbagbaaGreatDoorNewC
namespace Go.Proofs.YtmafihodbbagbaaGreatDoor
open Go.RowKit
set_option maxHeartbeats 1000000
set_option maxRecDepth 20000

/-- The cache that made makes. -/
def CSt.five (most : Nat) : CSt := CSt.new (DSt.new 60) 20 most 12
theorem made5_ok {w : World} (hg : Gl w) (hng : NG ≤ w.heap.size) (most : Nat) (h0 : 1 ≤ most) (h1 : most ≤ 8) :
    Calls Tryz.prog 5 #[.int .i64 most] w fun e w' => ∃ bd bc bj bm F, e = .returned (.tuple #[.pointer (some ⟨bd, 0, none⟩), .pointer (some ⟨bc, 0, none⟩)]) ∧ CRep w' bc bj bm bd (CSt.five most) F ∧ Kp (fun _ => False) w w' ∧ (∀ k, F k → w.heap.size ≤ k) := by
  have hn80 : 20 + need most ≤ 60 := by unfold need; omega
  have HD := Lib.hid (disk_New_ok (w := w) hg hng 60 (by omega) (by omega))
  have HN := Lib.hid hn80
  have Hng := Lib.hid hng
  clear hg hng hn80
  go_enter Tryz.func5, Tryz.ntmps5
  go_wp2_with fail
  refine HD.out.mono ?_
  rintro e w1 ⟨bd, F, rfl, hr, hk, hf⟩
  have hr : DRep w1 bd (DSt.new 60) F := hr
  have Hr := Lib.hid hr
  have Hk := Lib.hid hk
  have Hf := Lib.hid hf
  have HO := Lib.hid (journal_Open_blank (at_ := 20) (most := most) hr h0 (by omega) HN.out rfl (show Blank (zs 128) from blank_zs))
  clear hr hk hf
  go_wp2_with fail
  refine HO.out.mono ?_
  rintro e w2 ⟨bj, rfl, hj, hk2, hbj⟩
  have Hr2 := Lib.hid (Hr.out.kp0 hk2)
  have Hj := Lib.hid hj
  have Hk2 := Lib.hid (Hk.out.trans hk2 (Gr.refl _ _))
  have Hbj := Lib.hid hbj
  have hs1 := Hk.out.size
  clear hj hk2 hbj
  have HC := Lib.hid (cache_New_ok Hr2.out Hj.out (by have := Hbj.out; have := Hng.out; omega) 12 (by omega) (by have : (DSt.new 60).n = 60 := rfl; rw [this]; omega) (by omega))
  go_wp2_with fail
  refine HC.out.mono ?_
  rintro e w3 ⟨bc, bm, F', rfl, hc, hk3, hf3⟩
  have Hc := Lib.hid hc
  have Hk3 := Lib.hid hk3
  have Hf3 := Lib.hid hf3
  clear hc hk3 hf3
  go_wp2_with fail
  go_ret2
  refine ⟨bd, bc, bj, bm, F', rfl, Hc.out, Hk2.out.trans Hk3.out (Gr.refl _ _), fun k hk => ?_⟩
  have := Hk2.out.size
  have := Hbj.out
  rcases Hf3.out k hk with h | rfl | h
  · exact Hf.out k h
  · omega
  · omega
theorem cache_New_nil {w : World} (n : Nat) (hn : (n : Int) ≤ 9223372036854775807) (hg : Gl w) :
    Calls Tryz.prog 22 #[.pointer none, .int .i64 n] w fun e w' => ∃ v, e = .returned (.tuple #[.pointer none, v]) ∧ IsErr w' v [(tx [99, 97, 99, 104, 101], tx (Lib.itoa n))] 1 ∧ Kp (fun _ => False) w w' := by
  have HG := Lib.hid hg
  clear hg
  go_enter Tryz.func22, Tryz.ntmps22
  go_wp2_with fail
  refine (cache_wrong _ _ _ HG.out (by omega) hn (by decide)).mono ?_
  rintro e w1 ⟨v5, rfl, hv5, hk5⟩
  replace hv5 := Lib.hid hv5
  replace hk5 := Lib.hid hk5
  go_wp2_with fail
  go_ret2
  exact ⟨v5, rfl, hv5.out, hk5.out⟩
end Go.Proofs.YtmafihodbbagbaaGreatDoor
