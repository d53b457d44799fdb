/- InodeFull: the law's walk. -/
import Derived.Test.YtdmmlkkemceifaaGreatDoorITG
import Derived.Test.YtdmmlkkemceifaaGreatDoorLawIs
namespace Go.Proofs.YtdmmlkkemceifaaGreatDoor
open Go.RowKit
set_option maxHeartbeats 4000000
set_option maxRecDepth 20000

/-- How many of free blocks a Write may have for its bytes. -/
def mostI (f : Nat) : Nat := if 8 < f then f - 1 else f
theorem mostI_over (f : Nat) (h : f ≤ 25) : f < bks (128 * mostI f + 1) := by
  have h1 : ∀ k, k ≤ 25 → k < bks (128 * mostI k + 1) := by decide
  exact h1 f h
theorem mostI_fit (f : Nat) (h : f ≤ 25) : bks (128 * mostI f) ≤ f := by
  have h1 : ∀ k, k ≤ 25 → bks (128 * mostI k) ≤ k := by decide
  exact h1 f h
theorem mostI_le (f : Nat) : mostI f ≤ f := by unfold mostI; split <;> omega
theorem mostI_pos (f : Nat) (h : 1 ≤ f) : 1 ≤ mostI f := by unfold mostI; split <;> omega
theorem bks_seven {n : Nat} (h : n ≤ 896) : bks n ≤ 7 := by
  have hb : bks n = dat n + if 1024 < n then 1 else 0 := rfl
  rw [if_neg (by omega)] at hb
  unfold dat at hb; omega

theorem wpList_makeNw {ops : Array Oper} {rest : List Oper} {o : Oper} {a : Act} {Q : Exit → Act → World → Prop} {w : World} (hw : Region.wanted o (yielded ops a.tmps) = true) (x y : Operand) (ho : o.op = .makeSlice 34 x y) (M : Nat) (hx : a.eval x = .int .i64 (M : Int)) (hy : a.eval y = .int .i64 (M : Int)) (hM : M ≤ 100000)
    (h : ∀ w', Kp (fun _ => False) w w' → Sl w' (.slice (some ⟨w.heap.size, 0, none⟩) M M) (zs M) → wpList Tryz.prog ops Q rest (a.put o.dst (.slice (some ⟨w.heap.size, 0, none⟩) M M)) w') : wpList Tryz.prog ops Q (o :: rest) a w := by
  refine wpList_step fun K hK => ?_
  rw [if_pos hw]
  unfold Oper.wp execOp
  simp only [ho, hx, hy, Sem.run_bind, Sem.run_pure, Result.andThen_ok, make_bytes M (by omega) w]
  have hsl := (rowE_new w M).sl (by rw [zs_length]; unfold maxLen; omega)
  rw [zs_length] at hsl
  exact hK _ _ (h _ ((Kp.refl _ w).alloc _) hsl)
theorem ifull_walk {w : World} (hg : Gl w) (hge : Ge w) (hng : NG ≤ w.heap.size) (a b : Int) :
    Calls Tryz.prog 5 #[.int .i64 a, .int .i64 b] w fun e w' => e = .returned (.bool true) ∧ Kp (fun _ => False) w w' := by
  obtain ⟨q, hq, hq5⟩ := and_nat' a 15 (by decide)
  obtain ⟨r, hr, hr5⟩ := and_nat' b 65535 (by decide)
  simp only [Int.cast_ofNat_Int] at hq hr
  have e2 : ((r : Int).tmod 896) = ((r % 896 : Nat) : Int) := by rw [Int.tmod_eq_emod_of_nonneg (by omega)]; omega
  have hs2 : r % 896 < 896 := Nat.mod_lt _ (by omega)
  generalize r % 896 = s at *
  obtain ⟨bl, hbl⟩ : ∃ bl, bl = q + 10 := ⟨_, rfl⟩
  have e1 : (q : Int) + 10 = (bl : Int) := by omega
  have hbl1 : 10 ≤ bl := by omega
  have hbl2 : bl ≤ 25 := by omega
  clear hbl
  have HM := Lib.hid (made8_ok (w := w) hg hng bl (by omega) (by omega))
  have Hge := Lib.hid hge
  have hbs := bks_seven (n := s) (by omega)
  have HT := Lib.hid (fun W : World => text_ok (w := W) 5 s (by omega) (by omega))
  have Htl := Lib.hid (textL_length 5 s)
  have Htb := Lib.hid (textL_byt 5 s)
  obtain ⟨fr, hfr⟩ : ∃ fr, fr = bl - bks s := ⟨_, rfl⟩
  have hfr' : (bl : Int) - ((bks s : Nat) : Int) = (fr : Int) := by omega
  have hfr1 : 3 ≤ fr := by omega
  have hfr2 : fr ≤ 25 := by omega
  have Hfr := Lib.hid hfr
  have hov := mostI_over fr hfr2
  have hfit := mostI_fit fr hfr2
  have hmle := mostI_le fr
  have hmp := mostI_pos fr (by omega)
  have Hmo := Lib.hid (show mostI fr = if 8 < fr then fr - 1 else fr from rfl)
  generalize mostI fr = mo at *
  obtain ⟨ov, hov'⟩ : ∃ ov, ov = 128 * mo + 1 := ⟨_, rfl⟩
  rw [← hov'] at hov
  obtain ⟨kf, hkf⟩ : ∃ kf, kf = 128 * mo := ⟨_, rfl⟩
  rw [← hkf] at hfit
  have hkf2 : kf ≤ 3200 := by omega
  have hov2 : ov ≤ 3201 := by omega
  have hkf1 : 1 ≤ kf := by omega
  have eov : (kf : Int) + 1 = (ov : Int) := by omega
  have ekf : (128 : Int) * (mo : Int) = (kf : Int) := by omega
  clear hg hng hge hfr
  go_enter Tryz.func5, Tryz.ntmps5
  go_wp2_with fail
  refine HM.out.mono ?_
  rintro e w1 ⟨bt, bx, bc, bj, bm, bd, F, rfl, hit⟩
  have HI := Lib.hid hit
  clear hit
  go_wp2_with fail
  refine (it_make HI.out (i := 1) (kd := 1) (by omega) (by omega) rfl (fun j h1 h2 => by omega) (.inl rfl)).mono ?_
  rintro e w2 ⟨rfl, F2, hit, -, -⟩
  have HI2 := Lib.hid (show IT w bt bx bc bj bm bd bl (setR R0 1 (1, [])) F2 w2 from hit)
  clear hit
  have hR2 : (setR R0 1 (1, []) 2).1 = 0 := rfl
  have hR1 : ∀ j, 1 ≤ j → j < 2 → (setR R0 1 (1, []) j).1 ≠ 0 := by
    intro j h1 h2
    obtain rfl : j = 1 := by omega
    rw [setR_same]; show (1 : Nat) ≠ 0; decide
  go_wp2_with fail
  refine (it_make HI2.out (i := 2) (kd := 1) (by omega) (by omega) hR2 hR1 (.inl rfl)).mono ?_
  rintro e w3 ⟨rfl, F3, hit, -, -⟩
  obtain ⟨R2, hR2e⟩ : ∃ R2, R2 = setR (setR R0 1 (1, [])) 2 (1, []) := ⟨_, rfl⟩
  have HI3 := Lib.hid (show IT w bt bx bc bj bm bd bl R2 F3 w3 from hR2e ▸ hit)
  have HR2a := Lib.hid (show R2 1 = (1, []) by rw [hR2e]; rfl)
  have hR2b : R2 2 = (1, []) := by rw [hR2e]; rfl
  have HR2b := Lib.hid hR2b
  have HR2u := Lib.hid (show usedR R2 6 = 0 by rw [hR2e]; rfl)
  clear hit hR2 hR1 hR2e hR2b
  go_wp2_with fail
  refine (HT.out _).mono ?_
  rintro e w4 ⟨rfl, hk⟩
  have HI4 := Lib.hid (HI3.out.kp0 hk)
  clear hk HI3
  go_wp2_with (first | ((with_reducible refine at_convS rfl ?_); refine wpList_convSg rfl _ rfl (textL 5 s) s Htl.out rfl Htb.out (by unfold maxLen; omega) ?_; intro w5 c5 hk5 hs5; have HI5 := Lib.hid (HI4.out.kp0 hk5); have Hs5 := Lib.hid hs5; clear hk5 hs5))
  refine (it_write_new HI5.out (ino := 1) (by omega) (by omega) HR2a.out (by omega) _ (textL 5 s) Hs5.out Htb.out (by rw [Htl.out]; omega) (by rw [HR2u.out, Htl.out]; omega)).mono ?_
  rintro e w6 ⟨rfl, F6, hit, -⟩
  obtain ⟨R3, hR3e⟩ : ∃ R3, R3 = setR R2 1 (1, textL 5 s) := ⟨_, rfl⟩
  have HI6 := Lib.hid (show IT w bt bx bc bj bm bd bl R3 F6 w6 from hR3e ▸ hit)
  have HR3a := Lib.hid (show R3 1 = (1, textL 5 s) by rw [hR3e, setR_same])
  have HR3b := Lib.hid (show R3 2 = (1, []) by rw [hR3e, setR_other _ _ (by omega)]; exact HR2b.out)
  have HR3u := Lib.hid (show usedR R3 6 = bks s by
    have h1 := usedR_set R2 (i := 1) (n := 6) (1, textL 5 s) (by omega) (by omega)
    rw [← hR3e, HR2u.out, HR2a.out] at h1
    have h2 : usedR R3 6 + bks ([] : List Int).length = 0 + bks (textL 5 s).length := h1
    have h3 : bks ([] : List Int).length = 0 := rfl
    rw [Htl.out] at h2; omega)
  clear hit hR3e HI5 HI4 Hs5 HR2a HR2b HR2u
  go_wp2_with fail
  refine (it_flushC HI6.out).mono ?_
  rintro e w7 ⟨rfl, F7, hit⟩
  have HI7 := Lib.hid hit
  clear hit HI6
  go_wp2_with fail
  refine (it_free HI7.out.it).mono ?_
  rintro e w8 ⟨rfl, hk⟩
  have HI8 := Lib.hid (HI7.out.kp0 hk)
  rw [HR3u.out, hfr']
  clear hk HI7
  have HB := Lib.hid (fun W : World => ref_Blocks (w := W) ov (by omega))
  have HBk := Lib.hid (fun W : World => ref_Blocks (w := W) kf (by omega))
  obtain ⟨bo, hbo⟩ : ∃ bo, bo = bks ov := ⟨_, rfl⟩
  obtain ⟨bk, hbk⟩ : ∃ bk, bk = bks kf := ⟨_, rfl⟩
  have Hbo := Lib.hid hbo
  have Hbk := Lib.hid hbk
  rw [← hbo] at HB hov
  rw [← hbk] at HBk hfit
  have hov1 : ¬ (bo : Int) ≤ (fr : Int) := by omega
  have hov3 : (fr : Int) < (bo : Int) := by omega
  have hfit1 : ¬ (fr : Int) < (bk : Int) := by omega
  have hov4 : (ov : Int) ≤ 4000 := by omega
  have hmin : min (kf : Int) 4000 = ((kf : Nat) : Int) := by omega
  have hmax : max (kf : Int) 0 = ((kf : Nat) : Int) := by omega
  have hcase : (¬ (8 : Int) < (fr : Int) ∧ (fr : Int) = (mo : Int)) ∨ ((8 : Int) < (fr : Int) ∧ (fr : Int) < 10 ∧ (fr : Int) - 1 = (mo : Int)) ∨ ((8 : Int) < (fr : Int) ∧ ¬ (fr : Int) < 10 ∧ (fr : Int) - 1 = (mo : Int)) := by
    have h0 := Hmo.out
    split at h0 <;> omega
  have HF := Lib.hid (show bl + bks ([] : List Int).length < bks s + bks (max ([] : List Int).length (0 + (zs ov).length)) by
    have h3 : bks ([] : List Int).length = 0 := rfl
    have h4 : max ([] : List Int).length (0 + (zs ov).length) = ov := by rw [zs_length]; simp
    rw [h3, h4]; omega)
  have HG := Lib.hid (show bks s + bks (zs kf).length ≤ bl by rw [zs_length]; omega)
  have Hra := Lib.hid (readAt_all (textL 5 s) 2000 (by rw [textL_length]; omega))
  clear hbo hbk hov' hkf
  obtain ⟨N, hN⟩ : ∃ N, N = w8.heap.size := ⟨_, rfl⟩
  have HN := Lib.hid hN
  clear hN
  rcases hcase with ⟨hc1, hc2⟩ | ⟨hc1, hc3, hc2⟩ | ⟨hc1, hc3, hc2⟩
  case' inl =>
    obtain rfl : mo = fr := by omega
    clear hc2
    go_upto_region 17 with fail
  case' inr.inl => go_upto_region 17 with (first | (go_at_call 19; refine (HB.out _).mono ?_; rintro e _ ⟨rfl, rfl⟩))
  case' inr.inr => go_upto_region 17 with fail
  all_goals
    go_wp2_with (first | (go_at_call 19; refine (HB.out _).mono ?_; rintro e _ ⟨rfl, rfl⟩) | (at_make; refine wpList_makeNw rfl _ _ rfl ov rfl rfl (by omega) ?_; intro w9 hk9 hs9; have HI9 := Lib.hid (HI8.out.kp0 hk9); have Hs9 := Lib.hid hs9; clear hk9 hs9))
    refine (it_writeFull HI9.out.it (ino := 2) (p := 0) (by omega) (by omega) (by rw [HR3b.out]; show (1 : Nat) ≠ 0; decide) _ (zs ov) Hs9.out (zs_byt _) (by intro h; have := congrArg List.length h; rw [zs_length] at this; simp at this; omega) (by rw [zs_length]; omega) (by rw [HR3b.out, HR3u.out]; exact HF.out)).mono ?_
    rintro e w10 ⟨v10, rfl, hv10, hk10⟩
    obtain ⟨t10, x10, rfl⟩ := hv10.iface
    have HI10 := Lib.hid (HI9.out.kp0 hk10)
    have Hv10 := Lib.hid hv10
    clear hv10 hk10 HI9 Hs9
    go_wp2_with fail
    refine (law_Num Hv10.out (Hge.out.kp HI10.out.kp Hi.none)).mono ?_
    rintro e w11 ⟨rfl, hk11⟩
    have HI11 := Lib.hid (HI10.out.kp0 hk11)
    clear hk11 Hv10 HI10
    go_wp2_with fail
    refine (it_drop HI11.out).mono ?_
    rintro e w12 ⟨rfl, hit⟩
    have HI12 := Lib.hid hit.it
    clear hit HI11
    go_wp2_with fail
    refine (it_size HI12.out (ino := 2) (by omega) (by omega) (by rw [HR3b.out]; show (1 : Nat) ≠ 0; decide)).mono ?_
    rintro e w13 ⟨rfl, hk⟩
    have HI13 := Lib.hid (HI12.out.kp0 hk)
    rw [HR3b.out, show ((1, ([] : List Int)) : Nat × List Int).2.length = 0 from rfl]
    clear hk HI12
    go_wp2_with fail
    refine (it_free HI13.out).mono ?_
    rintro e w14 ⟨rfl, hk⟩
    have HI14 := Lib.hid (HI13.out.kp0 hk)
    rw [HR3u.out, hfr']
    clear hk HI13
    go_wp2_with fail
    go_loopw [20] (fun k wr => k = .int .i64 (kf : Nat) ∧ IT w bt bx bc bj bm bd bl R3 F7 wr) (fun _ _ => 0)
    case atStart => exact ⟨rfl, HI14.out⟩
    case round =>
      clear HI14
      obtain ⟨rfl, hit⟩ := hrel
      have HI14 := Lib.hid hit
      clear hit
      go_wp2_with fail
      refine (HBk.out _).mono ?_
      rintro e w15 ⟨rfl, rfl⟩
      go_wp2_with fail
      refine (it_readNew HI14.out (ino := 1) (p := 0) (m := 2000) (by omega) (by omega) (by rw [HR3a.out]; show (1 : Nat) ≠ 0; decide) (by omega) (by omega)).mono ?_
      rintro e w16 ⟨v16, rfl, hs16, hk16, hb16⟩
      rw [HR3a.out, show ((1, textL 5 s) : Nat × List Int).2 = textL 5 s from rfl, Hra.out] at hs16
      obtain ⟨A16, c16, ev16, -, -, -⟩ := id hs16
      rw [Htl.out] at ev16
      subst ev16
      have Hb16 := Lib.hid hb16
      have Hs16 := Lib.hid hs16
      have HI16 := Lib.hid (HI14.out.kp0 hk16)
      clear hs16 hk16 hb16 HI14
      go_upto_region 28 with fail
      have hmk := make_bytes kf (by omega)
      clear HN Hbo Hbk HBk HB HF hov3 hov1 hfit1 hov4 hmin
      have hkx : Kp (fun _ => False) w16 ((w16.alloc (.cells (bs (zs kf)).toArray 5)).drew) := ((Kp.refl _ _).alloc _).drew
      have HI17 := Lib.hid (HI16.out.kp0 hkx)
      have Hz17 := Lib.hid (show Sl ((w16.alloc (.cells (bs (zs kf)).toArray 5)).drew) (.slice (some ⟨w16.heap.size, 0, none⟩) kf kf) (zs kf) by
        have h1 := (rowE_new w16 kf).sl (by rw [zs_length]; unfold maxLen; omega)
        rw [zs_length] at h1
        exact h1.kp (F := fun _ => False) ((Kp.refl _ _).drew) (fun _ _ h => h))
      have Hs17 := Lib.hid (Hs16.out.kp hkx (fun _ _ h => h))
      have Hzl := Lib.hid (zs_length kf)
      obtain ⟨tx, htx⟩ : ∃ tx, tx = str (textL 5 s) := ⟨_, rfl⟩
      have HT' := Lib.hid (show ∀ W : World, Calls Tryz.prog 11 #[.int .i64 5, .int .i64 s] W fun e w' => e = .returned (.string tx) ∧ Kp (fun _ => False) W w' by rw [htx]; exact HT.out)
      have Hcv := Lib.hid (show ∀ (W : World), Sl W (.slice A16 s c16) (textL 5 s) → (convert 34 9 (.slice A16 s c16)).run Tryz.prog W = .ok (.string tx) W by
        intro W hs
        rw [htx]
        exact conv_str hs)
      clear hkx htx HT hq hq5 hr hr5 e1 e2 hs2 hbs hfr' hfr1 hfr2 hmle hmp hov hfit hov2 hkf1 eov ekf hc1 Hmo Hfr Hra
      refine wp_region_held_drew (S := fun W => Sl W (.slice A16 s c16) (textL 5 s)) (by kernel_rfl) (Hs16.out.kp (Kp.refl (fun _ => False) w16).drew (fun _ _ h => h)) (fun hHeld => ?_)
      apply wpAnyH_take (i := 0) (v := .pointer (some ⟨bt, 0, none⟩))
      case hi => (simp only [List.getElem?_toArray, List.getElem?_cons_zero, List.getElem?_cons_succ]; rfl)
      case hs => kernel_rfl
      case hf => kernel_rfl
      case hr => kernel_rfl
      case hQ => exact fun _ _ _ h => h
      case hS => exact hHeld
      case hy =>
        refine Or.inl ⟨rfl, ?_⟩
        intro w hSw
        go_simp
      try simp only [Act.put, List.setIfInBounds_toArray, List.set_cons_zero, List.set_cons_succ]
      apply wpAnyH_take (i := 1) (v := .int .i64 2)
      case hi => (simp only [List.getElem?_toArray, List.getElem?_cons_zero, List.getElem?_cons_succ]; rfl)
      case hs => kernel_rfl
      case hf => kernel_rfl
      case hr => kernel_rfl
      case hQ => exact fun _ _ _ h => h
      case hS => exact hHeld
      case hy =>
        refine Or.inl ⟨rfl, ?_⟩
        intro w hSw
        go_simp
      try simp only [Act.put, List.setIfInBounds_toArray, List.set_cons_zero, List.set_cons_succ]
      apply wpAnyH_take (i := 2) (v := .int .i64 kf)
      case hi => (simp only [List.getElem?_toArray, List.getElem?_cons_zero, List.getElem?_cons_succ]; rfl)
      case hs => kernel_rfl
      case hf => kernel_rfl
      case hr => kernel_rfl
      case hQ => exact fun _ _ _ h => h
      case hS => exact hHeld
      case hy =>
        refine Or.inl ⟨rfl, ?_⟩
        intro w hSw
        go_simp
      try simp only [Act.put, List.setIfInBounds_toArray, List.set_cons_zero, List.set_cons_succ]
      refine wpAnyH_ready (rs := [3]) (by kernel_rfl) (by simp) ?_
      refine AllReadyH.cons rfl (fun K hK => ?_) AllReadyH.nil
      go_simp
      refine hK.out _ _ ?_ (fun hHeld => ?_)
      · exact Hs16.out.kp (Kp.refl (fun _ => False) w16).drew (fun _ _ h => h)
      clear hK K
      try simp only [Act.put, List.setIfInBounds_toArray, List.set_cons_zero, List.set_cons_succ]
      refine wpAnyH_ready (rs := [4]) (by kernel_rfl) (by simp) ?_
      refine AllReadyH.cons rfl (fun K hK => ?_) AllReadyH.nil
      go_simp
      refine hK.out _ _ ?_ (fun hHeld => ?_)
      · exact Hs17.out
      clear hK K
      try simp only [Act.put, List.setIfInBounds_toArray, List.set_cons_zero, List.set_cons_succ]
      refine wpAnyH_ready (rs := [5]) (by kernel_rfl) (by simp) ?_
      refine AllReadyH.cons rfl (fun K hK => ?_) AllReadyH.nil
      go_simp
      refine (it_write_new HI17.out (ino := 2) (by omega) (by omega) HR3b.out (by omega) _ (zs kf) Hz17.out (zs_byt _) (by rw [Hzl.out]; omega) (by rw [HR3u.out]; exact HG.out)).mono ?_
      rintro e w18 ⟨rfl, F18, hit18, hk18⟩
      have HI18 := Lib.hid hit18
      have Hs18 := Lib.hid (Hs17.out.kp hk18 Hb16.out)
      clear hit18 hk18
      refine hK.out _ _ ?_ (fun hHeld => ?_)
      · exact Hs18.out
      clear hK K
      try simp only [Act.put, List.setIfInBounds_toArray, List.set_cons_zero, List.set_cons_succ]
      apply wpAnyH_take (i := 6) (v := .bool true)
      case hi => (simp only [List.getElem?_toArray, List.getElem?_cons_zero, List.getElem?_cons_succ]; rfl)
      case hs => kernel_rfl
      case hf => kernel_rfl
      case hr => kernel_rfl
      case hQ => exact fun _ _ _ h => h
      case hS => exact hHeld
      case hy =>
        refine Or.inl ⟨rfl, ?_⟩
        intro w hSw
        go_simp
      try simp only [Act.put, List.setIfInBounds_toArray, List.set_cons_zero, List.set_cons_succ]
      apply wpAnyH_take (i := 7) (v := .bool true)
      case hi => (simp only [List.getElem?_toArray, List.getElem?_cons_zero, List.getElem?_cons_succ]; rfl)
      case hs => kernel_rfl
      case hf => kernel_rfl
      case hr => kernel_rfl
      case hQ => exact fun _ _ _ h => h
      case hS => exact hHeld
      case hy =>
        refine Or.inl ⟨rfl, ?_⟩
        intro w hSw
        go_simp
      try simp only [Act.put, List.setIfInBounds_toArray, List.set_cons_zero, List.set_cons_succ]
      apply wpAnyH_take (i := 8) (v := .nilIface)
      case hi => (simp only [List.getElem?_toArray, List.getElem?_cons_zero, List.getElem?_cons_succ]; rfl)
      case hs => kernel_rfl
      case hf => kernel_rfl
      case hr => kernel_rfl
      case hQ => exact fun _ _ _ h => h
      case hS => exact hHeld
      case hy =>
        refine Or.inl ⟨rfl, ?_⟩
        intro w hSw
        go_simp
      try simp only [Act.put, List.setIfInBounds_toArray, List.set_cons_zero, List.set_cons_succ]
      apply wpAnyH_take (i := 9) (v := .bool true)
      case hi => (simp only [List.getElem?_toArray, List.getElem?_cons_zero, List.getElem?_cons_succ]; rfl)
      case hs => kernel_rfl
      case hf => kernel_rfl
      case hr => kernel_rfl
      case hQ => exact fun _ _ _ h => h
      case hS => exact hHeld
      case hy =>
        refine Or.inl ⟨rfl, ?_⟩
        intro w hSw
        go_simp
      try simp only [Act.put, List.setIfInBounds_toArray, List.set_cons_zero, List.set_cons_succ]
      apply wpAnyH_take (i := 10) (v := .bool true)
      case hi => (simp only [List.getElem?_toArray, List.getElem?_cons_zero, List.getElem?_cons_succ]; rfl)
      case hs => kernel_rfl
      case hf => kernel_rfl
      case hr => kernel_rfl
      case hQ => exact fun _ _ _ h => h
      case hS => exact hHeld
      case hy =>
        refine Or.inl ⟨rfl, ?_⟩
        intro w hSw
        go_simp
      try simp only [Act.put, List.setIfInBounds_toArray, List.set_cons_zero, List.set_cons_succ]
      apply wpAnyH_take (i := 11) (v := .bool true)
      case hi => (simp only [List.getElem?_toArray, List.getElem?_cons_zero, List.getElem?_cons_succ]; rfl)
      case hs => kernel_rfl
      case hf => kernel_rfl
      case hr => kernel_rfl
      case hQ => exact fun _ _ _ h => h
      case hS => exact hHeld
      case hy =>
        refine Or.inl ⟨rfl, ?_⟩
        intro w hSw
        go_simp
      try simp only [Act.put, List.setIfInBounds_toArray, List.set_cons_zero, List.set_cons_succ]
      apply wpAnyH_take (i := 12) (v := .slice A16 s c16)
      case hi => (simp only [List.getElem?_toArray, List.getElem?_cons_zero, List.getElem?_cons_succ]; rfl)
      case hs => kernel_rfl
      case hf => kernel_rfl
      case hr => kernel_rfl
      case hQ => exact fun _ _ _ h => h
      case hS => exact hHeld
      case hy =>
        refine Or.inl ⟨rfl, ?_⟩
        intro w hSw
        go_simp
      try simp only [Act.put, List.setIfInBounds_toArray, List.set_cons_zero, List.set_cons_succ]
      apply wpAnyH_take (i := 13) (v := .string tx)
      case hi => (simp only [List.getElem?_toArray, List.getElem?_cons_zero, List.getElem?_cons_succ]; rfl)
      case hs => kernel_rfl
      case hf => kernel_rfl
      case hr => kernel_rfl
      case hQ => exact fun _ _ _ h => h
      case hS => exact hHeld
      case hy =>
        refine Or.inl ⟨rfl, ?_⟩
        intro w hSw
        have hcvw := Hcv.out w hSw
        go_simp
      try simp only [Act.put, List.setIfInBounds_toArray, List.set_cons_zero, List.set_cons_succ]
      apply wpAnyH_take (i := 14) (v := .int .i64 s)
      case hi => (simp only [List.getElem?_toArray, List.getElem?_cons_zero, List.getElem?_cons_succ]; rfl)
      case hs => kernel_rfl
      case hf => kernel_rfl
      case hr => kernel_rfl
      case hQ => exact fun _ _ _ h => h
      case hS => exact hHeld
      case hy =>
        refine Or.inl ⟨rfl, ?_⟩
        intro w hSw
        go_simp
      try simp only [Act.put, List.setIfInBounds_toArray, List.set_cons_zero, List.set_cons_succ]
      refine wpAnyH_ready (rs := [15]) (by kernel_rfl) (by simp) ?_
      refine AllReadyH.cons rfl (fun K hK => ?_) AllReadyH.nil
      rw [if_pos (by rfl)]
      go_simp
      refine (HT'.out _).mono ?_
      rintro e w19 ⟨rfl, hk19⟩
      have HI19 := Lib.hid (HI18.out.kp0 hk19)
      have Hs19 := Lib.hid (Hs18.out.kp hk19 (fun _ _ h => h))
      clear hk19
      refine hK.out _ _ ?_ (fun hHeld => ?_)
      · exact Hs19.out
      clear hK K
      try simp only [Act.put, List.setIfInBounds_toArray, List.set_cons_zero, List.set_cons_succ]
      apply wpAnyH_take (i := 16) (v := .bool true)
      case hi => (simp only [List.getElem?_toArray, List.getElem?_cons_zero, List.getElem?_cons_succ]; rfl)
      case hs => kernel_rfl
      case hf => kernel_rfl
      case hr => kernel_rfl
      case hQ => exact fun _ _ _ h => h
      case hS => exact hHeld
      case hy =>
        refine Or.inl ⟨rfl, ?_⟩
        intro w hSw
        go_simp
      try simp only [Act.put, List.setIfInBounds_toArray, List.set_cons_zero, List.set_cons_succ]
      apply wpAnyH_take (i := 17) (v := .bool true)
      case hi => (simp only [List.getElem?_toArray, List.getElem?_cons_zero, List.getElem?_cons_succ]; rfl)
      case hs => kernel_rfl
      case hf => kernel_rfl
      case hr => kernel_rfl
      case hQ => exact fun _ _ _ h => h
      case hS => exact hHeld
      case hy =>
        refine Or.inl ⟨rfl, ?_⟩
        intro w hSw
        go_simp
      try simp only [Act.put, List.setIfInBounds_toArray, List.set_cons_zero, List.set_cons_succ]
      apply wpAnyH_take (i := 18) (v := .bool true)
      case hi => (simp only [List.getElem?_toArray, List.getElem?_cons_zero, List.getElem?_cons_succ]; rfl)
      case hs => kernel_rfl
      case hf => kernel_rfl
      case hr => kernel_rfl
      case hQ => exact fun _ _ _ h => h
      case hS => exact hHeld
      case hy =>
        refine Or.inl ⟨rfl, ?_⟩
        intro w hSw
        go_simp
      try simp only [Act.put, List.setIfInBounds_toArray, List.set_cons_zero, List.set_cons_succ]
      refine wpAnyH_ready (rs := [19]) (by kernel_rfl) (by simp) ?_
      refine AllReadyH.cons rfl (fun K hK => ?_) AllReadyH.nil
      rw [if_pos (by rfl)]
      go_simp
      refine (awake8_ok HI19.out.gl HI19.out.ngr).mono ?_
      rintro e w20 ⟨rfl, hk20⟩
      have HK := Lib.hid (HI19.out.kp.trans hk20 (Gr.refl _ _))
      have Hs20 := Lib.hid (Hs19.out.kp hk20 (fun _ _ h => h))
      clear hk20
      refine hK.out _ _ ?_ (fun hHeld => ?_)
      · exact Hs20.out
      clear hK K
      try simp only [Act.put, List.setIfInBounds_toArray, List.set_cons_zero, List.set_cons_succ]
      apply wpAnyH_take (i := 20) (v := .bool true)
      case hi => (simp only [List.getElem?_toArray, List.getElem?_cons_zero, List.getElem?_cons_succ]; rfl)
      case hs => kernel_rfl
      case hf => kernel_rfl
      case hr => kernel_rfl
      case hQ => exact fun _ _ _ h => h
      case hS => exact hHeld
      case hy =>
        refine Or.inl ⟨rfl, ?_⟩
        intro w hSw
        go_simp
      try simp only [Act.put, List.setIfInBounds_toArray, List.set_cons_zero, List.set_cons_succ]
      apply wpAnyH_take (i := 21) (v := .bool true)
      case hi => (simp only [List.getElem?_toArray, List.getElem?_cons_zero, List.getElem?_cons_succ]; rfl)
      case hs => kernel_rfl
      case hf => kernel_rfl
      case hr => kernel_rfl
      case hQ => exact fun _ _ _ h => h
      case hS => exact hHeld
      case hy =>
        refine Or.inl ⟨rfl, ?_⟩
        intro w hSw
        go_simp
      try simp only [Act.put, List.setIfInBounds_toArray, List.set_cons_zero, List.set_cons_succ]
      refine wpAnyH_done (by kernel_rfl) ?_ _
      go_wp2_with fail
      go_ret
      exact ⟨rfl, HK.out⟩
end Go.Proofs.YtdmmlkkemceifaaGreatDoor
