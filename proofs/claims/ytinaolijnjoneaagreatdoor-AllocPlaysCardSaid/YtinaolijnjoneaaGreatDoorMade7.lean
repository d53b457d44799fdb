/- The law's own helpers: Made (a cache over a new disk), awake. -/
import Derived.Test.YtinaolijnjoneaaGreatDoorNew
namespace Go.Proofs.YtinaolijnjoneaaGreatDoor
open Go.RowKit
set_option maxHeartbeats 1000000
set_option maxRecDepth 20000

/-- The cache that Made makes. -/
def CSt.made (n : Nat) : CSt := CSt.new (DSt.new (n + 100)) n 80 n
theorem made7_ok {w : World} (hg : Gl w) (hng : NG ≤ w.heap.size) (n : Int) (h0 : 1 ≤ n) (h1 : n ≤ 1000) :
    Calls Tryz.prog 26 #[.int .i64 n] w fun e w' => ∃ bd bc bj bm F, e = .returned (.tuple #[.pointer (some ⟨bd, 0, none⟩), .pointer (some ⟨bc, 0, none⟩)]) ∧ CRep w' bc bj bm bd (CSt.made n.toNat) F ∧ Kp (fun _ => False) w w' ∧ (∀ k, F k → w.heap.size ≤ k) := by
  have e100 : (n + 100).toNat = n.toNat + 100 := by omega
  have hn80 : n.toNat + need 80 ≤ n.toNat + 100 := by unfold need; omega
  have hnn : ((n.toNat : Nat) : Int) = n := by omega
  have HD := Lib.hid (disk_New_ok (w := w) hg hng (n + 100) (by omega) (by omega))
  have E := Lib.hid e100
  have HN := Lib.hid hn80
  have HNN := Lib.hid hnn
  have Hng := Lib.hid hng
  clear hg hng e100 hn80 hnn
  go_enter Tryz.func26, Tryz.ntmps26
  go_wp2_with fail
  refine HD.out.mono ?_
  rintro e w1 ⟨bd, F, rfl, hr, hk, hf⟩
  rw [E.out] at hr
  have Hr := Lib.hid hr
  have Hk := Lib.hid hk
  have Hf := Lib.hid hf
  have HO := Lib.hid (journal_Open_blank (most := 80) hr (by omega) (by omega) HN.out rfl (show Blank (zs 128) from blank_zs))
  rw [HNN.out] at HO
  clear hr hk hf
  go_wp2_with fail
  refine HO.out.mono ?_
  rintro e w2 ⟨bj, rfl, hj, hk2, hbj⟩
  have Hr2 := Lib.hid (Hr.out.kp0 hk2)
  have Hj := Lib.hid hj
  have Hk2 := Lib.hid (Hk.out.trans hk2 (Gr.refl _ _))
  have Hbj := Lib.hid hbj
  have hs1 := Hk.out.size
  clear hj hk2 hbj
  have HC := Lib.hid (cache_New_ok Hr2.out Hj.out (by have := Hbj.out; have := Hng.out; omega) n h0 (by have : (DSt.new (n.toNat + 100)).n = n.toNat + 100 := rfl; rw [this]; omega) (by omega))
  go_wp2_with fail
  refine HC.out.mono ?_
  rintro e w3 ⟨bc, bm, F', rfl, hc, hk3, hf3⟩
  have Hc := Lib.hid hc
  have Hk3 := Lib.hid hk3
  have Hf3 := Lib.hid hf3
  clear hc hk3 hf3
  go_wp2_with fail
  go_ret2
  refine ⟨bd, bc, bj, bm, F', rfl, Hc.out, Hk2.out.trans Hk3.out (Gr.refl _ _), fun k hk => ?_⟩
  have := Hk2.out.size
  have := Hbj.out
  rcases Hf3.out k hk with h | rfl | h
  · exact Hf.out k h
  · omega
  · omega

theorem made_map {w w' : World} {bx bc bj bm bd at_ from_ n : Nat} {F : Nat → Prop} {m : Nat} (h : CRep w bc bj bm bd (CSt.made m) F) (hk : Kp (fun _ => False) w w') (hb : MBlk w' bx bc at_ from_ n) (hx : w.heap.size ≤ bx) (h1 : 1 ≤ n) (h2 : n ≤ 2048) (h3 : at_ + nb n ≤ m) (h4 : (from_ : Int) + n ≤ 9223372036854775807) : MapOn w' bx bc bj bm bd at_ from_ n (CSt.made m) F :=
  mapOn_new h hk hb hx rfl new_vb h1 h2 h3 h4

theorem awake7_ok {w : World} (hg : Gl w) (hng : NG ≤ w.heap.size) :
    Calls Tryz.prog 27 #[] w fun e w' => e = .returned (.bool true) ∧ Kp (fun _ => False) w w' := by
  have HM := Lib.hid (made7_ok (w := w) hg hng 60 (by omega) (by omega))
  clear hg hng
  go_enter Tryz.func27, Tryz.ntmps27
  go_wp2_with fail
  refine HM.out.mono ?_
  rintro e w1 ⟨bd, bc, bj, bm, F, rfl, hr, hk1, hf⟩
  have Hr := Lib.hid (show CRep w1 bc bj bm bd (CSt.made 60) F from hr)
  have Hk1 := Lib.hid hk1
  have Hf := Lib.hid hf
  clear hr hk1 hf
  go_wp2_with fail
  refine (alloc_New_ok bc 0 10 40 (by omega) (by omega) (by omega) (by omega)).mono ?_
  rintro e w2 ⟨rfl, hb, hk2⟩
  have M0 := Lib.hid (made_map Hr.out hk2 (show MBlk w2 w1.heap.size bc 0 10 40 from hb) (Nat.le_refl _) (by omega) (by omega) (by unfold nb; omega) (by omega))
  have Hk2 := Lib.hid (Hk1.out.trans hk2 (Gr.refl _ _))
  generalize w1.heap.size = bx at *
  clear hb hk2
  go_wp2_with fail
  refine (alloc_Take_ok M0.out 0 (by omega) (new_bit _ _) (fun j hj => by omega) (.inr (by decide))).mono ?_
  rintro e w3 ⟨rfl, F1, hr1, hk3, hg3⟩
  have M1 := Lib.hid (M0.out.flip (by omega) hr1 hk3 hg3)
  have b1 : ∀ j, bitC ((CSt.made 60).flip 0 0) 0 j = decide (j < 1) := fun j => by
    rw [M0.out.bit (by omega)]
    by_cases h : j = 0
    · subst h; simp [CSt.made, new_bit]
    · rw [if_neg h, CSt.made, new_bit]; simp; omega
  have B1 := Lib.hid b1
  have Hk3 := Lib.hid hk3
  have Hg3 := Lib.hid hg3
  clear hr1 hk3 hg3 b1
  go_wp2_with fail
  refine (alloc_Take_ok M1.out 1 (by omega) (by rw [B1.out]; rfl) (fun j hj => by rw [B1.out]; simpa using hj) (.inr (by decide))).mono ?_
  rintro e w4 ⟨rfl, F2, hr2, hk4, hg4⟩
  have M2 := Lib.hid (M1.out.flip (by omega) hr2 hk4 hg4)
  have b2 : ∀ j, bitC (((CSt.made 60).flip 0 0).flip 0 1) 0 j = decide (j < 2) := fun j => by
    rw [M1.out.bit (by omega), B1.out, B1.out]
    by_cases h : j = 1
    · subst h; simp
    · rw [if_neg h]; simp; omega
  have B2 := Lib.hid b2
  have Hk4 := Lib.hid hk4
  have Hg4 := Lib.hid hg4
  clear hr2 hk4 hg4 b2
  go_wp2_with fail
  refine (alloc_Give_ok M2.out 0 (by omega) (by rw [B2.out]; rfl) (.inr (by decide))).mono ?_
  rintro e w5 ⟨rfl, F3, hr3, hk5, hg5⟩
  have M3 := Lib.hid (M2.out.flip (by omega) hr3 hk5 hg5)
  have b3 : ∀ j, bitC ((((CSt.made 60).flip 0 0).flip 0 1).flip 0 0) 0 j = decide (j = 1) := fun j => by
    rw [M2.out.bit (by omega), B2.out, B2.out]
    by_cases h : j = 0
    · subst h; simp
    · rw [if_neg h]; simp; omega
  have B3 := Lib.hid b3
  have Hk5 := Lib.hid hk5
  have Hg5 := Lib.hid hg5
  clear hr3 hk5 hg5 b3
  go_wp2_with fail
  refine (alloc_Take_ok M3.out 0 (by omega) (by rw [B3.out]; rfl) (fun j hj => by omega) (.inr (by decide))).mono ?_
  rintro e w6 ⟨rfl, F4, hr4, hk6, hg6⟩
  have Hk6 := Lib.hid hk6
  have Hf4 := Lib.hid hr4
  clear hr4 hk6 hg6
  go_wp2_with fail
  go_ret
  refine ⟨rfl, ?_⟩
  have g1 : Gr F F2 w2.heap.size := Hg3.out.trans Hg4.out Hk3.out.size
  have g2 : Gr F F3 w2.heap.size := g1.trans Hg5.out (Nat.le_trans Hk3.out.size Hk4.out.size)
  have ka : Kp F w2 w6 := ((Hk3.out.trans Hk4.out Hg3.out).trans Hk5.out g1).trans Hk6.out g2
  have s := Hk1.out.size
  exact ⟨ka.os.trans Hk2.out.os, ka.tape.trans Hk2.out.tape, ka.output.trans Hk2.out.output, Nat.le_trans Hk2.out.size ka.size, fun k hk _ => (ka.block k (Nat.lt_of_lt_of_le hk Hk2.out.size) (fun hF => by have := Hf.out k hF; omega)).trans (Hk2.out.block k hk (fun h => h))⟩
end Go.Proofs.YtinaolijnjoneaaGreatDoor
