/- InodeMany: the closure `long`. -/
/- InodeMany: the law's walk. -/
import Derived.Test.YtdmmlkkemceifaaGreatDoorITG
import Derived.Test.YtdmmlkkemceifaaGreatDoorLawIs
namespace Go.Proofs.YtdmmlkkemceifaaGreatDoor
open Go.RowKit
set_option maxHeartbeats 4000000
set_option maxRecDepth 20000

theorem long_in {w : World} {bl i len cap : Nat} {ad : Addr} {z : Int} {q : Nat} (hb : w.heap[bl]? = some (.cells #[.slice (some ad) len cap] 22 (0, 0))) (hi : i < len) (hl : len ≤ maxLen) (hz : w.cell? (ad.add i) = some (.int .i64 z)) (hq : bits .and .i64 z 511 = (q : Int)) :
    Calls Tryz.prog 22 #[.int .i64 i, .pointer (some ⟨bl, 0, none⟩)] w fun e w' => e = .returned (.int .i64 (q : Nat)) ∧ Kp (fun _ => False) w w' := by
  unfold maxLen at hl
  have cb := cell_of_one hb
  have hi' : (i : Int) < (len : Int) := by omega
  go_enter Tryz.func22, Tryz.ntmps22
  go_wp2_with fail
  go_ret
  exact ⟨rfl, Kp.refl _ _⟩
theorem long_out {w : World} {bl i len cap : Nat} {A : Option Addr} (hb : w.heap[bl]? = some (.cells #[.slice A len cap] 22 (0, 0))) (hi : ¬ i < len) (h6 : i ≤ 6) :
    Calls Tryz.prog 22 #[.int .i64 i, .pointer (some ⟨bl, 0, none⟩)] w fun e w' => e = .returned (.int .i64 ((50 * i : Nat) : Int)) ∧ Kp (fun _ => False) w w' := by
  have cb := cell_of_one hb
  have hi' : ¬ (i : Int) < (len : Int) := by omega
  go_enter Tryz.func22, Tryz.ntmps22
  go_wp2_with fail
  go_ret
  exact ⟨ret_int (by push_cast; rfl), Kp.refl _ _⟩
/-- The lengths: what `long` answers at 1 .. 6. -/
def Lens (w : World) (A : Option Addr) (len : Nat) (lg : Nat → Nat) : Prop :=
  (∀ i, lg i ≤ 511 ∨ 6 < i) ∧ ∀ i, (i < len → ∃ ad z, A = some ad ∧ w.cell? (ad.add i) = some (.int .i64 z) ∧ bits .and .i64 z 511 = ((lg i : Nat) : Int)) ∧ (¬ i < len → lg i = 50 * i)
theorem lens_of {w : World} {A : Option Addr} {len : Nat} (hA : 0 < len → ∃ ad, A = some ad ∧ ∀ j, j < len → ∃ z, w.cell? (ad.add j) = some (.int .i64 z)) : ∃ lg, Lens w A len lg := by
  classical
  have h : ∀ i, ∃ q : Nat, (q ≤ 511 ∨ 6 < i) ∧ (i < len → ∃ ad z, A = some ad ∧ w.cell? (ad.add i) = some (.int .i64 z) ∧ bits .and .i64 z 511 = (q : Int)) ∧ (¬ i < len → q = 50 * i) := by
    intro i
    by_cases hi : i < len
    · obtain ⟨ad, rfl, hc⟩ := hA (by omega)
      obtain ⟨z, hz⟩ := hc i hi
      obtain ⟨q, hq, h5⟩ := and_nat' z 511 (by decide)
      exact ⟨q, .inl h5, fun _ => ⟨ad, z, rfl, hz, hq⟩, fun h => absurd hi h⟩
    · exact ⟨50 * i, by omega, fun h => absurd h hi, fun _ => rfl⟩
  exact ⟨fun i => Classical.choose (h i), fun i => (Classical.choose_spec (h i)).1, fun i => (Classical.choose_spec (h i)).2⟩
theorem Lens.kp {w w' : World} {A : Option Addr} {len : Nat} {lg : Nat → Nat} (h : Lens w A len lg) (k : Kp (fun _ => False) w w') : Lens w' A len lg := by
  refine ⟨h.1, fun i => ⟨fun hi => ?_, (h.2 i).2⟩⟩
  obtain ⟨ad, z, e, hz, hq⟩ := (h.2 i).1 hi
  exact ⟨ad, z, e, k.cell hz (fun h => h), hq⟩
theorem long_ok {w : World} {bl i len cap : Nat} {A : Option Addr} {lg : Nat → Nat} (h : Lens w A len lg) (hb : w.heap[bl]? = some (.cells #[.slice A len cap] 22 (0, 0))) (hl : len ≤ maxLen) (h6 : i ≤ 6) :
    Calls Tryz.prog 22 #[.int .i64 i, .pointer (some ⟨bl, 0, none⟩)] w fun e w' => e = .returned (.int .i64 ((lg i : Nat) : Int)) ∧ Kp (fun _ => False) w w' := by
  by_cases hi : i < len
  · obtain ⟨ad, z, rfl, hz, hq⟩ := (h.2 i).1 hi
    exact long_in hb hi hl hz hq
  · rw [(h.2 i).2 hi]
    exact long_out hb hi h6
end Go.Proofs.YtdmmlkkemceifaaGreatDoor
namespace Go.Proofs.YtdmmlkkemceifaaGreatDoor
open Go.RowKit
set_option maxHeartbeats 4000000
set_option maxRecDepth 20000

/-- i inodes are made, with these kinds and texts of these lengths. -/
def RM (kd lg : Nat → Nat) (i : Nat) : Nat → Nat × List Int := fun k => if 1 ≤ k ∧ k ≤ i then (1 + kd k, textL k (lg k)) else (0, [])
theorem RM_zero (kd lg : Nat → Nat) : RM kd lg 0 = fun _ => (0, []) := by
  funext k; unfold RM; rw [if_neg (by omega)]
theorem RM_succ (kd lg : Nat → Nat) (i : Nat) : setR (RM kd lg i) (i + 1) (1 + kd (i + 1), textL (i + 1) (lg (i + 1))) = RM kd lg (i + 1) := by
  funext k; unfold setR RM
  by_cases e : k = i + 1
  · subst e; rw [if_pos rfl, if_pos (by omega)]
  · rw [if_neg e]
    by_cases h : 1 ≤ k ∧ k ≤ i
    · rw [if_pos h, if_pos (by omega)]
    · rw [if_neg h, if_neg (by omega)]
theorem RM_in (kd lg : Nat → Nat) {i k : Nat} (h1 : 1 ≤ k) (h2 : k ≤ i) : RM kd lg i k = (1 + kd k, textL k (lg k)) := by
  unfold RM; rw [if_pos ⟨h1, h2⟩]
theorem RM_out (kd lg : Nat → Nat) {i k : Nat} (h : i < k) : RM kd lg i k = (0, []) := by
  unfold RM; rw [if_neg (by omega)]
def totM (lg : Nat → Nat) : Nat → Nat
  | 0 => 0
  | i + 1 => totM lg i + bks (lg (i + 1))
theorem used_RM (kd lg : Nat → Nat) (i : Nat) (h : i ≤ 6) : usedR (RM kd lg i) 6 = totM lg i := by
  induction i with
  | zero => rw [RM_zero]; rfl
  | succ i ih =>
    have h1 := usedR_set (RM kd lg i) (i := i + 1) (n := 6) (1 + kd (i + 1), textL (i + 1) (lg (i + 1))) (by omega) h
    rw [RM_succ, RM_out kd lg (show i < i + 1 by omega), ih (by omega)] at h1
    have e1 : bks ([] : List Int).length = 0 := rfl
    have e2 : bks (textL (i + 1) (lg (i + 1))).length = bks (lg (i + 1)) := by rw [textL_length]
    rw [totM]
    show usedR (RM kd lg (i + 1)) 6 = _
    have h2 : usedR (RM kd lg (i + 1)) 6 + bks ([] : List Int).length = totM lg i + bks (textL (i + 1) (lg (i + 1))).length := h1
    omega
theorem bks_small {n : Nat} (h : n ≤ 511) : bks n ≤ 4 := by
  have hb : bks n = dat n + if 1024 < n then 1 else 0 := rfl
  rw [if_neg (by omega)] at hb
  unfold dat at hb; omega
theorem totM_le {lg : Nat → Nat} (h : ∀ i, lg i ≤ 511 ∨ 6 < i) (i : Nat) (hi : i ≤ 6) : totM lg i ≤ 4 * i := by
  induction i with
  | zero => exact Nat.le_refl _
  | succ i ih =>
    rw [totM]
    have := ih (by omega)
    have := bks_small (n := lg (i + 1)) (by rcases h (i + 1) with h1 | h1 <;> omega)
    omega

theorem kinds_of (z : Int) : ∃ kd : Nat → Nat, ∀ i, kd i ≤ 1 ∧ wrap64 (1 + bits .and .i64 (z / 2 ^ i) 1) = ((1 + kd i : Nat) : Int) := by
  classical
  have h : ∀ i : Nat, ∃ q : Nat, q ≤ 1 ∧ wrap64 (1 + bits .and .i64 (z / 2 ^ i) 1) = ((1 + q : Nat) : Int) := by
    intro i
    obtain ⟨q, hq, h5⟩ := and_nat' (z / 2 ^ i) 1 (by decide)
    refine ⟨q, h5, ?_⟩
    rw [show bits .and .i64 (z / 2 ^ i) 1 = (q : Int) from hq]
    unfold wrap64; omega
  exact ⟨fun i => Classical.choose (h i), fun i => Classical.choose_spec (h i)⟩

theorem many_walk {w : World} (hg : Gl w) (hge : Ge w) (hng : NG ≤ w.heap.size) (ki at_ : Int) (A : Option Addr) (len cap : Nat) (hlen : len ≤ cap) (hcap : cap ≤ maxLen)
    (hA : 0 < len → ∃ ad, A = some ad ∧ ∀ j, j < len → ∃ z, w.cell? (ad.add j) = some (.int .i64 z)) :
    Calls Tryz.prog 6 #[.int .i64 ki, .slice A len cap, .int .i64 at_] w fun e w' => e = .returned (.bool true) ∧ Kp (fun _ => False) w w' := by
  obtain ⟨lg, hlg⟩ := lens_of hA
  obtain ⟨kd, hkd⟩ := kinds_of ki
  have Hkd := Lib.hid hkd
  clear hkd
  have hll : len ≤ maxLen := by omega
  clear hA hlen hcap
  have Hg := Lib.hid hg
  have Hge := Lib.hid hge
  have Hng := Lib.hid hng
  have Hlg := Lib.hid hlg
  have Hll := Lib.hid hll
  clear hg hng hlg hll hge
  go_enter Tryz.func6, Tryz.ntmps6
  go_upto_region 1 with fail
  generalize hw0 : w.alloc _ = w0
  have hbx : w0.heap[w.heap.size]? = some (.cells #[.slice A len cap] 22 (0, 0)) := by rw [← hw0]; exact new_blk _ _
  have Hk0 := Lib.hid (show Kp (fun _ => False) w w0 by rw [← hw0]; exact (Kp.refl _ w).alloc _)
  have HM := Lib.hid (made8_ok (w := w0) (Hg.out.kp Hk0.out Hi.none) (Nat.le_trans Hng.out Hk0.out.size) 60 (by omega) (by omega))
  have Hlg0 := Lib.hid (Hlg.out.kp Hk0.out)
  have Hbx := Lib.hid hbx
  generalize hbl : w.heap.size = bl at *
  have Hge0 := Lib.hid (show Ge w0 from Hge.out.kp Hk0.out Hi.none)
  clear hbx hw0 hbl Hlg Hg Hng Hge
  go_wp2_with fail
  refine HM.out.mono ?_
  rintro e w1 ⟨bt, bx, bc, bj, bm, bd, F, rfl, hit⟩
  have HI := Lib.hid hit
  clear hit
  go_wp2_with fail
  go_loopw [10, 12] (fun s i wr => ∃ (k m : Nat) (Fc : Nat → Prop), k ≤ 6 ∧ m = k + 1 ∧ i = .int .i64 (m : Nat) ∧ s = .int .i64 (totM lg k : Nat) ∧ IT w0 bt bx bc bj bm bd 60 (RM kd lg k) Fc wr) (fun _ i _ => 7 - (intOf i).toNat)
  case atStart => exact ⟨0, 1, F, by omega, rfl, rfl, rfl, by rw [RM_zero]; exact HI.out⟩
  case round =>
    clear HI
    obtain ⟨k, m, Fc, hk6, hm, rfl, rfl, hit⟩ := hrel
    have HI := Lib.hid hit
    have Hm := Lib.hid hm
    clear hit
    by_cases hlt : m ≤ 6
    · have hlt' : (m : Int) ≤ 6 := by omega
      have hR0 : (RM kd lg k m).1 = 0 := by rw [RM_out kd lg (show k < m by omega)]
      have htot := totM_le Hlg0.out.1 k hk6
      clear hm
      go_wp2_with fail
      rw [show wrap64 (1 + bits .and .i64 (ki / 2 ^ m) 1) = ((1 + kd m : Nat) : Int) from (Hkd.out m).2]
      refine (it_make HI.out (i := m) (kd := 1 + kd m) (by have := Hm.out; omega) (by omega) hR0 (fun j j1 j2 => by have := Hm.out; rw [RM_in kd lg j1 (by omega)]; show 1 + kd j ≠ 0; omega) (by have := (Hkd.out m).1; omega)).mono ?_
      rintro e w2 ⟨rfl, F2, hit, -, -⟩
      have HI2 := Lib.hid hit
      clear hit HI
      have HL := Lib.hid (fun (W : World) (hk : Kp (fun _ => False) w0 W) => long_ok (i := m) (Hlg0.out.kp hk) (hk.blk Hbx.out (fun h => h)) Hll.out (by omega))
      have hlg5 : lg m ≤ 511 := by rcases Hlg0.out.1 m with h | h <;> omega
      have hbk := bks_small hlg5
      have Htl := Lib.hid (textL_length m (lg m))
      have Htb := Lib.hid (textL_byt m (lg m))
      have HT := Lib.hid (fun (W : World) => text_ok (w := W) m (lg m) (by omega) (by omega))
      have HB := Lib.hid (fun (W : World) => ref_Blocks (w := W) (lg m) (by omega))
      obtain ⟨g, hg⟩ : ∃ g, g = lg m := ⟨_, rfl⟩
      have Hg := Lib.hid hg
      rw [← hg] at hlg5 Htl Htb HT HB HL hbk
      clear hg
      go_wp2_with fail
      refine (HL.out _ HI2.out.kp).mono ?_
      rintro e w3 ⟨rfl, hk⟩
      have HI3 := Lib.hid (HI2.out.kp0 hk)
      clear hk HI2
      go_wp2_with fail
      refine (HT.out _).mono ?_
      rintro e w4 ⟨rfl, hk⟩
      have HI4 := Lib.hid (HI3.out.kp0 hk)
      clear hk HI3
      go_wp2_with (first | ((with_reducible refine at_convS rfl ?_); refine wpList_convSg rfl _ rfl (textL m g) g Htl.out rfl Htb.out (by unfold maxLen; omega) ?_; intro w5 c5 hk5 hs5; have HI5 := Lib.hid (HI4.out.kp0 hk5); have Hs5 := Lib.hid hs5; clear hk5 hs5))
      have HRm := Lib.hid (show setR (RM kd lg k) m (1 + kd m, []) m = (1 + kd m, []) from setR_same _ _ _)
      refine (it_write_new HI5.out (by have := Hm.out; omega) hlt HRm.out (by omega) _ (textL m g) Hs5.out Htb.out (by rw [Htl.out]; omega) (by
        have h1 := usedR_set (RM kd lg k) (i := m) (n := 6) (1 + kd m, []) (by have := Hm.out; omega) hlt
        rw [RM_out kd lg (show k < m by have := Hm.out; omega), used_RM kd lg k hk6] at h1
        rw [Htl.out]
        have h2 : usedR (setR (RM kd lg k) m (1 + kd m, [])) 6 = totM lg k := by have := h1; exact Nat.add_right_cancel this
        rw [h2]; omega)).mono ?_
      rintro e w6 ⟨rfl, F6, hit⟩
      rw [setR_setR] at hit
      have HI6 := Lib.hid (show IT w0 bt bx bc bj bm bd 60 (RM kd lg m) F6 w6 by
        rw [Hm.out, ← RM_succ, ← Hm.out, ← Hg.out]; exact hit)
      clear hit HI5 HI4 Hs5 HRm
      obtain ⟨s, hs⟩ : ∃ s, s = totM lg k := ⟨_, rfl⟩
      rw [← hs] at htot
      have Hs := Lib.hid hs
      clear hs
      have htg : totM lg k = s := Hs.out.symm
      rw [htg]
      clear htg
      go_wp2_with fail
      refine (HL.out _ HI6.out.kp).mono ?_
      rintro e w7 ⟨rfl, hk⟩
      have HI7 := Lib.hid (HI6.out.kp0 hk)
      clear hk HI6
      go_wp2_with fail
      refine (HB.out _).mono ?_
      rintro e w8 ⟨rfl, rfl⟩
      generalize hbg : bks g = q at *
      have Hbg := Lib.hid hbg
      clear hbg
      go_wp2_with fail
      go_roundw
      case rel => exact ⟨m, m + 1, F6, hlt, rfl, by go_num, by rw [Hm.out, totM, ← Hm.out, ← Hg.out, Hbg.out, ← Hs.out]; go_num, HI7.out⟩
      case measure => simp [intOf]; omega
    · obtain rfl : m = 7 := by omega
      obtain rfl : k = 6 := by omega
      have hall : ∀ j, 1 ≤ j → j ≤ 6 → (RM kd lg 6 j).1 ≠ 0 := fun j a b => by rw [RM_in kd lg a b]; show 1 + kd j ≠ 0; omega
      have htot := totM_le Hlg0.out.1 6 (by omega)
      have husd := Lib.hid (used_RM kd lg 6 (by omega))
      have hlgA := Hlg0.out.1
      clear hm hk6 hlt Hm
      go_wp2_with fail
      refine (it_makeFull HI.out (kd := 1) hall (.inl rfl)).mono ?_
      rintro e w2 ⟨v2, rfl, hv2, hk2⟩
      obtain ⟨t2, x2, rfl⟩ := hv2.iface
      have HI2 := Lib.hid (HI.out.kp0 hk2)
      have Hv2 := Lib.hid hv2
      clear hk2 hv2 HI
      go_wp2_with fail
      refine (law_Num Hv2.out (Hge0.out.kp HI2.out.kp Hi.none)).mono ?_
      rintro e w3 ⟨rfl, hk3⟩
      have HI3 := Lib.hid (HI2.out.kp0 hk3)
      clear hk3 HI2 Hv2
      go_wp2_with fail
      refine (it_flush HI3.out).mono ?_
      rintro e w4 ⟨rfl, F4, hit, -, -⟩
      have HI4 := Lib.hid hit
      clear hit HI3
      go_wp2_with fail
      refine (it_free HI4.out).mono ?_
      rintro e w5 ⟨rfl, hk5⟩
      have HI5 := Lib.hid (HI4.out.kp0 hk5)
      rw [husd.out]
      clear hk5 HI4
      obtain ⟨q, hq, hq5⟩ := and_nat' at_ 255 (by decide)
      simp only [Int.cast_ofNat_Int] at hq
      have e1 : ((q : Int).tmod 6) = ((q % 6 : Nat) : Int) := by rw [Int.tmod_eq_emod_of_nonneg (by omega)]; omega
      have hr5 : q % 6 < 6 := Nat.mod_lt _ (by omega)
      generalize q % 6 = r at *
      generalize htt : totM lg 6 = tt at *
      have e2 : IntKind.i64.wrap ((60 : Int) - (tt : Int)) = (60 : Int) - (tt : Int) := IntWalk.i64_in _ (by omega)
      obtain ⟨kk, hkk⟩ : ∃ kk, kk = r + 1 := ⟨_, rfl⟩
      have e3 : (r : Int) + 1 = (kk : Int) := by omega
      have hk1 : 1 ≤ kk := by omega
      have hk2 : kk ≤ 6 := by omega
      have hkI : (kk : Int) ≤ 6 := by omega
      have Hkk := Lib.hid hkk
      clear hkk
      have hdif : ∀ R0 : Nat × List Int, ∀ j, j ≠ kk → setR (RM kd lg 6) kk R0 j = RM kd lg 6 j := fun _ j h => setR_other _ _ h
      have Hdif := Lib.hid hdif
      clear hdif
      go_wp2_with fail
      refine (it_freeIno HI5.out hk1 hk2 (hall kk hk1 hk2)).mono ?_
      rintro e w6 ⟨rfl, F6, hit, -, -⟩
      have HI6 := Lib.hid hit
      clear hit HI5
      go_wp2_with fail
      refine (it_freeNone HI6.out hk1 hk2 (by rw [setR_same])).mono ?_
      rintro e w7 ⟨v7, rfl, hv7, hk7⟩
      obtain ⟨t7, x7, rfl⟩ := hv7.iface
      have HI7 := Lib.hid (HI6.out.kp0 hk7)
      have Hv7 := Lib.hid hv7
      clear hk7 hv7 HI6
      go_wp2_with fail
      refine (law_Num Hv7.out (Hge0.out.kp HI7.out.kp Hi.none)).mono ?_
      rintro e w8 ⟨rfl, hk8⟩
      have HI8 := Lib.hid (HI7.out.kp0 hk8)
      clear hk8 HI7 Hv7
      go_wp2_with fail
      refine (it_make HI8.out (i := kk) (kd := 2) hk1 hk2 (by rw [setR_same]) (fun j j1 j2 => by rw [Hdif.out _ j (by omega)]; exact hall j j1 (by omega)) (.inr rfl)).mono ?_
      rintro e w9 ⟨rfl, F9, hit, -, -⟩
      rw [setR_setR] at hit
      have HI9 := Lib.hid hit
      clear hit HI8
      go_wp2_with fail
      refine (it_size HI9.out hk1 hk2 (by rw [setR_same]; show (2 : Nat) ≠ 0; decide)).mono ?_
      rintro e w10 ⟨rfl, hk10⟩
      have HI10 := Lib.hid (HI9.out.kp0 hk10)
      rw [setR_same, show ((2, ([] : List Int)) : Nat × List Int).2.length = 0 from rfl]
      clear hk10 HI9
      go_wp2_with fail
      obtain ⟨Rd, hRd⟩ : ∃ Rd, Rd = setR (RM kd lg 6) kk (2, []) := ⟨_, rfl⟩
      rw [← hRd] at HI10
      have hRs : Rd kk = (2, []) := by rw [hRd, setR_same]
      have hRo : ∀ j, 1 ≤ j → j ≤ 6 → j ≠ kk → Rd j = (1 + kd j, textL j (lg j)) := fun j a b c => by rw [hRd, setR_other _ _ c, RM_in kd lg a b]
      have HRs := Lib.hid hRs
      have HRo := Lib.hid hRo
      clear hRd hRs hRo hq hq5 e1 hr5 htt htot husd e2 e3 Hkk Hdif hall
      go_loopw [24] (fun i wr => ∃ (m : Nat), 1 ≤ m ∧ m ≤ 7 ∧ i = .int .i64 (m : Nat) ∧ IT w0 bt bx bc bj bm bd 60 Rd F9 wr) (fun i _ => 7 - (intOf i).toNat)
      case atStart => exact ⟨1, by omega, by omega, rfl, HI10.out⟩
      case round =>
        clear HI10
        obtain ⟨m, hm1, hm7, rfl, hit⟩ := hrel
        have HI := Lib.hid hit
        clear hit
        by_cases hlt : m ≤ 6
        · have hlt' : (m : Int) ≤ 6 := by omega
          have HL := Lib.hid (fun (W : World) (hk : Kp (fun _ => False) w0 W) => long_ok (i := m) (Hlg0.out.kp hk) (hk.blk Hbx.out (fun h => h)) Hll.out (by omega))
          have hlg5 : lg m ≤ 511 := by rcases Hlg0.out.1 m with h | h <;> omega
          have HT := Lib.hid (fun (W : World) => text_ok (w := W) m (lg m) (by omega) (by omega))
          obtain ⟨D, kc, hD, hDk, hDl, hDD⟩ : ∃ D kc, Rd m = (kc, D) ∧ kc ≠ 0 ∧ D.length ≤ 511 ∧ ((m = kk ∧ D = []) ∨ (m ≠ kk ∧ D = textL m (lg m))) := by
            by_cases e : m = kk
            · exact ⟨[], 2, by rw [e]; exact HRs.out, by decide, by simp, .inl ⟨e, rfl⟩⟩
            · exact ⟨_, _, HRo.out m hm1 hlt e, by omega, by rw [textL_length]; exact hlg5, .inr ⟨e, rfl⟩⟩
          have HD := Lib.hid hD
          have HDD := Lib.hid hDD
          have Hra := Lib.hid (readAt_all D 1000 (by omega))
          obtain ⟨g, hg⟩ : ∃ g, g = lg m := ⟨_, rfl⟩
          rw [← hg] at HL HT HDD
          clear hg hD hDD hlg5
          go_wp2_with fail
          refine (it_read HI.out (ino := m) (p := 0) (m := 1000) hm1 hlt (by rw [HD.out]; exact hDk) (by omega) (by omega)).mono ?_
          rintro e w2 ⟨v2, rfl, hs2, hk2⟩
          rw [HD.out, show ((kc, D) : Nat × List Int).2 = D from rfl, Hra.out] at hs2
          obtain ⟨A2, c2, ev2, -, -, -⟩ := id hs2
          subst ev2
          have Hs2 := Lib.hid hs2
          have HI2 := Lib.hid (HI.out.kp0 hk2)
          clear hs2 hk2 HI
          go_wp2_with fail
          refine (HL.out _ HI2.out.kp).mono ?_
          rintro e w3 ⟨rfl, hk3⟩
          have HI3 := Lib.hid (HI2.out.kp0 hk3)
          have Hs3 := Lib.hid (Hs2.out.kp hk3 (fun _ _ h => h))
          clear hk3 HI2 Hs2
          go_wp2_with fail
          refine (HT.out _).mono ?_
          rintro e w4 ⟨rfl, hk4⟩
          have HI4 := Lib.hid (HI3.out.kp0 hk4)
          have hcv := conv_str (Hs3.out.kp hk4 (fun _ _ h => h))
          clear hk4 HI3 Hs3
          rcases HDD.out with ⟨he, hd⟩ | ⟨he, hd⟩
          · have he' : (m : Int) = (kk : Int) := by omega
            subst hd
            have hst : str [] = ({ data := #[] } : ByteArray) := rfl
            rw [hst] at hcv
            clear HDD hst
            simp only [List.length_nil] at hcv hDl ⊢
            go_wp2_with fail
            go_roundw
            case rel => exact ⟨m + 1, by omega, by omega, by go_num, HI4.out⟩
            case measure => simp [intOf]; omega
          · have he' : ¬ (m : Int) = (kk : Int) := by omega
            rw [hd] at hcv
            rw [hd]
            have hls := textL_length m g
            have hss := str_size (textL m g)
            rw [hls] at hss hcv
            rw [hls]
            generalize str (textL m g) = tx1 at *
            clear HDD hd hls Hra
            go_wp2_with fail
            go_roundw
            case rel => exact ⟨m + 1, by omega, by omega, by go_num, HI4.out⟩
            case measure => simp [intOf]; omega
        · have hlt' : ¬ (m : Int) ≤ 6 := by omega
          go_wp2_with fail
          refine (awake8_ok HI.out.gl HI.out.ngr).mono ?_
          rintro e w8 ⟨rfl, hk8⟩
          have HK := Lib.hid (HI.out.kp.trans hk8 (Gr.refl _ _))
          clear hk8
          go_wp2_with fail
          go_ret
          exact ⟨by simp, Hk0.out.trans HK.out (Gr.refl _ _)⟩
end Go.Proofs.YtdmmlkkemceifaaGreatDoor
