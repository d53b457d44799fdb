/- The law's own helper Made: a cache over a new disk. -/
import Derived.Test.YthjbpbahcemfgaaGreatDoorNew
namespace Go.Proofs.YthjbpbahcemfgaaGreatDoor
open Go.RowKit
set_option maxHeartbeats 1000000
set_option maxRecDepth 20000

/-- The cache that Made makes. -/
def CSt.made (n : Nat) : CSt := CSt.new (DSt.new (n + 100)) n 80 n
theorem made7_ok {w : World} (hg : Gl w) (hng : NG ≤ w.heap.size) (n : Int) (h0 : 1 ≤ n) (h1 : n ≤ 1000) :
    Calls Tryz.prog 34 #[.int .i64 n] w fun e w' => ∃ bd bc bj bm F, e = .returned (.tuple #[.pointer (some ⟨bd, 0, none⟩), .pointer (some ⟨bc, 0, none⟩)]) ∧ CRep w' bc bj bm bd (CSt.made n.toNat) F ∧ Kp (fun _ => False) w w' ∧ (∀ k, F k → w.heap.size ≤ k) := by
  have e100 : (n + 100).toNat = n.toNat + 100 := by omega
  have hn80 : n.toNat + need 80 ≤ n.toNat + 100 := by unfold need; omega
  have hnn : ((n.toNat : Nat) : Int) = n := by omega
  have HD := Lib.hid (disk_New_ok (w := w) hg hng (n + 100) (by omega) (by omega))
  have E := Lib.hid e100
  have HN := Lib.hid hn80
  have HNN := Lib.hid hnn
  have Hng := Lib.hid hng
  clear hg hng e100 hn80 hnn
  go_enter Tryz.func34, Tryz.ntmps34
  go_wp2_with fail
  refine HD.out.mono ?_
  rintro e w1 ⟨bd, F, rfl, hr, hk, hf⟩
  rw [E.out] at hr
  have Hr := Lib.hid hr
  have Hk := Lib.hid hk
  have Hf := Lib.hid hf
  have HO := Lib.hid (journal_Open_blank (most := 80) hr (by omega) (by omega) HN.out rfl (show Blank (zs 128) from blank_zs))
  rw [HNN.out] at HO
  clear hr hk hf
  go_wp2_with fail
  refine HO.out.mono ?_
  rintro e w2 ⟨bj, rfl, hj, hk2, hbj⟩
  have Hr2 := Lib.hid (Hr.out.kp0 hk2)
  have Hj := Lib.hid hj
  have Hk2 := Lib.hid (Hk.out.trans hk2 (Gr.refl _ _))
  have Hbj := Lib.hid hbj
  have hs1 := Hk.out.size
  clear hj hk2 hbj
  have HC := Lib.hid (cache_New_ok Hr2.out Hj.out (by have := Hbj.out; have := Hng.out; omega) n h0 (by have : (DSt.new (n.toNat + 100)).n = n.toNat + 100 := rfl; rw [this]; omega) (by omega))
  go_wp2_with fail
  refine HC.out.mono ?_
  rintro e w3 ⟨bc, bm, F', rfl, hc, hk3, hf3⟩
  have Hc := Lib.hid hc
  have Hk3 := Lib.hid hk3
  have Hf3 := Lib.hid hf3
  clear hc hk3 hf3
  go_wp2_with fail
  go_ret2
  refine ⟨bd, bc, bj, bm, F', rfl, Hc.out, Hk2.out.trans Hk3.out (Gr.refl _ _), fun k hk => ?_⟩
  have := Hk2.out.size
  have := Hbj.out
  rcases Hf3.out k hk with h | rfl | h
  · exact Hf.out k h
  · omega
  · omega

theorem made_map {w w' : World} {bx bc bj bm bd at_ from_ n : Nat} {F : Nat → Prop} {m : Nat} (h : CRep w bc bj bm bd (CSt.made m) F) (hk : Kp (fun _ => False) w w') (hb : MBlk w' bx bc at_ from_ n) (hx : w.heap.size ≤ bx) (h1 : 1 ≤ n) (h2 : n ≤ 2048) (h3 : at_ + nb n ≤ m) (h4 : (from_ : Int) + n ≤ 9223372036854775807) : MapOn w' bx bc bj bm bd at_ from_ n (CSt.made m) F :=
  mapOn_new h hk hb hx rfl new_vb h1 h2 h3 h4
end Go.Proofs.YthjbpbahcemfgaaGreatDoor
