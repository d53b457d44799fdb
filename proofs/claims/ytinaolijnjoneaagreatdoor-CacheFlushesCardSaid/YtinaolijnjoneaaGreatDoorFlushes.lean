/- CacheFlushes: the law's walk. -/
import Derived.Test.YtinaolijnjoneaaGreatDoorAwk5
import Derived.Test.YtinaolijnjoneaaGreatDoorFlushV
import Derived.Test.YtinaolijnjoneaaGreatDoorDisk2
namespace Go.Proofs.YtinaolijnjoneaaGreatDoor
open Go.RowKit
set_option maxHeartbeats 2000000
set_option maxRecDepth 20000

theorem flushes_walk {w : World} (hg : Gl w) (he : Ge w) (hng : NG ≤ w.heap.size) (a s : Int) :
    Calls Tryz.prog 4 #[.int .i64 a, .int .i64 s] w fun e w' => e = .returned (.bool true) ∧ Kp (fun _ => False) w w' := by
  have HM := Lib.hid (made5_ok (w := w) hg hng 8 (by omega) (by omega))
  have Hg := Lib.hid hg
  have He := Lib.hid he
  have Hng := Lib.hid hng
  clear hg hng he
  go_enter Tryz.func4, Tryz.ntmps4
  go_wp2_with fail
  refine HM.out.mono ?_
  rintro e w1 ⟨bd, bc, bj, bm, F, rfl, hr, hk1, hf⟩
  have HC := Lib.hid (show CR w bc bj bm bd (CSt.five 8) F w1 from ⟨hr, hk1, hf⟩)
  clear hr hk1 hf
  go_wp2_with fail
  go_loopw [7, 8] (fun x y wr => ∃ n k F C, x = .int .i64 (n : Nat) ∧ y = .int .i64 (k : Nat) ∧ k ≤ 12 ∧ n ≤ 8 ∧ CR w bc bj bm bd C F wr ∧ C.D = DSt.new 60 ∧ C.most = 8 ∧ C.blocks = 12 ∧ C.jat = 20 ∧ C.ch.length = n ∧ (∀ no ∈ C.ch, no < k)) (fun _ y _ => 12 - (intOf y).toNat)
  case atStart => exact ⟨0, 0, F, CSt.five 8, rfl, rfl, by omega, by omega, HC.out, rfl, rfl, rfl, rfl, rfl, fun no h => by cases h⟩
  case round =>
    obtain ⟨n, k, F1, C, rfl, rfl, hk, hn8, hC, hD, hmost, hbl, hjat, hch, hlk⟩ := hrel
    have HC1 := Lib.hid hC
    have HD := Lib.hid hD
    have Hmost := Lib.hid hmost
    have Hbl := Lib.hid hbl
    have Hjat := Lib.hid hjat
    have Hch := Lib.hid hch
    have Hlk := Lib.hid hlk
    clear hC hD hmost hbl hjat hch hlk
    by_cases hlt : k < 12
    · have hz : (k : Int) < 12 := by omega
      have hz0 : (0 : Int) ≤ (k : Int) := by omega
      obtain ⟨ra, hra⟩ : ∃ ra, bits .and .i64 (a / 2 ^ k) 1 = ra := ⟨_, rfl⟩
      obtain ⟨wa, hwa⟩ : ∃ wa, bits .and .i64 (s / 2 ^ k) 1 = wa := ⟨_, rfl⟩
      by_cases h1 : ra = 1
      · have b1 : (ra == 1) = true := by simp [h1]
        by_cases h2 : wa = 1
        · have b2 : (wa == 1) = true := by simp [h2]
          by_cases hn : n < 8
          · have hn1 : (n : Int) < 8 := by omega
            have hnd : decide (n < 8) = true := decide_eq_true hn
            go_wp2_with (first | (go_at_call 11; refine (cache_Read_ok HC1.out.rep (by rw [HD.out]; rfl) (k : Nat) (by omega) (by rw [Hbl.out]; omega)).mono ?_; rintro e w3 ⟨g3, rfl, _, hk3, _⟩; have HC2 := Lib.hid (HC1.out.kp0 hk3); clear hk3) | (go_at_call 9; refine (cache_Write_ok (HC2.out.kp0 ((Kp.refl _ _).alloc (.cells #[.int .u8 9] 5))).rep (by rw [HD.out]; rfl) (k : Nat) 2 (by omega) (by rw [Hbl.out]; omega) (by omega) _ [9] (sl_one _ _) (by simp) (.inr (by rw [Hch.out, Hmost.out]; exact hn))).mono ?_; rintro e w4 ⟨rfl, F4, hr4, hk4, hg4⟩; have HC4 := Lib.hid ((HC2.out.kp0 ((Kp.refl _ _).alloc (.cells #[.int .u8 9] 5))).step hr4 hk4 hg4); clear hr4 hk4 hg4))
            go_roundw
            case rel => exact ⟨n + 1, k + 1, F4, _, by go_num, by go_num, by omega, by omega, HC4.out, HD.out, Hmost.out, Hbl.out, Hjat.out, by simp only [CSt.wr, Int.toNat_natCast]; rw [if_neg (fun hm => by have := Hlk.out k hm; omega), List.length_append, Hch.out]; rfl, fun no hno => by simp only [CSt.wr, Int.toNat_natCast] at hno; rw [if_neg (fun hm => by have := Hlk.out k hm; omega), List.mem_append, List.mem_singleton] at hno; exact hno.elim (fun h => by have := Hlk.out no h; omega) (fun h => by omega)⟩
            case measure => simp [intOf]; omega
          · have hn1 : ¬ (n : Int) < 8 := by omega
            have hnd : decide (n < 8) = false := decide_eq_false hn
            go_wp2_with (first | (go_at_call 11; refine (cache_Read_ok HC1.out.rep (by rw [HD.out]; rfl) (k : Nat) (by omega) (by rw [Hbl.out]; omega)).mono ?_; rintro e w3 ⟨g3, rfl, _, hk3, _⟩; have HC2 := Lib.hid (HC1.out.kp0 hk3); clear hk3))
            go_roundw
            case rel => exact ⟨n, k + 1, F1, C, rfl, by go_num, by omega, by omega, HC2.out, HD.out, Hmost.out, Hbl.out, Hjat.out, Hch.out, fun no hno => by have := Hlk.out no hno; omega⟩
            case measure => simp [intOf]; omega
        · have b2 : (wa == 1) = false := by simp [h2]
          go_wp2_with (first | (go_at_call 11; refine (cache_Read_ok HC1.out.rep (by rw [HD.out]; rfl) (k : Nat) (by omega) (by rw [Hbl.out]; omega)).mono ?_; rintro e w3 ⟨g3, rfl, _, hk3, _⟩; have HC2 := Lib.hid (HC1.out.kp0 hk3); clear hk3))
          go_roundw
          case rel => exact ⟨n, k + 1, F1, C, rfl, by go_num, by omega, by omega, HC2.out, HD.out, Hmost.out, Hbl.out, Hjat.out, Hch.out, fun no hno => by have := Hlk.out no hno; omega⟩
          case measure => simp [intOf]; omega
      · have b1 : (ra == 1) = false := by simp [h1]
        by_cases h2 : wa = 1
        · have b2 : (wa == 1) = true := by simp [h2]
          by_cases hn : n < 8
          · have hn1 : (n : Int) < 8 := by omega
            have hnd : decide (n < 8) = true := decide_eq_true hn
            go_wp2_with (first | (go_at_call 9; refine (cache_Write_ok (HC1.out.kp0 ((Kp.refl _ _).alloc (.cells #[.int .u8 9] 5))).rep (by rw [HD.out]; rfl) (k : Nat) 2 (by omega) (by rw [Hbl.out]; omega) (by omega) _ [9] (sl_one _ _) (by simp) (.inr (by rw [Hch.out, Hmost.out]; exact hn))).mono ?_; rintro e w4 ⟨rfl, F4, hr4, hk4, hg4⟩; have HC4 := Lib.hid ((HC1.out.kp0 ((Kp.refl _ _).alloc (.cells #[.int .u8 9] 5))).step hr4 hk4 hg4); clear hr4 hk4 hg4))
            go_roundw
            case rel => exact ⟨n + 1, k + 1, F4, _, by go_num, by go_num, by omega, by omega, HC4.out, HD.out, Hmost.out, Hbl.out, Hjat.out, by simp only [CSt.wr, Int.toNat_natCast]; rw [if_neg (fun hm => by have := Hlk.out k hm; omega), List.length_append, Hch.out]; rfl, fun no hno => by simp only [CSt.wr, Int.toNat_natCast] at hno; rw [if_neg (fun hm => by have := Hlk.out k hm; omega), List.mem_append, List.mem_singleton] at hno; exact hno.elim (fun h => by have := Hlk.out no h; omega) (fun h => by omega)⟩
            case measure => simp [intOf]; omega
          · have hn1 : ¬ (n : Int) < 8 := by omega
            have hnd : decide (n < 8) = false := decide_eq_false hn
            go_wp2_with fail
            go_roundw
            case rel => exact ⟨n, k + 1, F1, C, rfl, by go_num, by omega, by omega, HC1.out, HD.out, Hmost.out, Hbl.out, Hjat.out, Hch.out, fun no hno => by have := Hlk.out no hno; omega⟩
            case measure => simp [intOf]; omega
        · have b2 : (wa == 1) = false := by simp [h2]
          go_wp2_with fail
          go_roundw
          case rel => exact ⟨n, k + 1, F1, C, rfl, by go_num, by omega, by omega, HC1.out, HD.out, Hmost.out, Hbl.out, Hjat.out, Hch.out, fun no hno => by have := Hlk.out no hno; omega⟩
          case measure => simp [intOf]; omega
    · have hz : ¬ (k : Int) < 12 := by omega
      have hlive : C.D.dead = false := by rw [HD.out]; rfl
      have hfuse : C.D.fuse ≤ 0 := by rw [HD.out]; show (-1 : Int) ≤ 0; omega
      have hca := C.commit_alive hlive hfuse
      have HCA := Lib.hid hca
      have HFA := Lib.hid (C.flush_alive hlive hfuse)
      have Hcl := Lib.hid (show C.chs.length = n by rw [C.chs_perm.length_eq]; exact Hch.out)
      obtain ⟨C3, hC3⟩ : ∃ C3, C3 = C.flush := ⟨_, rfl⟩
      have h3d : C3.D = C.commit.2 := by rw [hC3, HFA.out]
      have h3c : C3.ch = [] := by rw [hC3, HFA.out]
      have h3n : C3.chs = [] := by unfold CSt.chs; rw [h3c]; exact List.mergeSort_nil
      have h3g : C3.group = [] := by rw [CSt.group, h3n]; rfl
      have h3l : C3.D.dead = false := by rw [h3d]; exact hca.2.1
      have h3f : C3.D.fuse ≤ 0 := by rw [h3d, hca.2.2.1]; exact hfuse
      have h3m : C3.commit = (none, C3.D) := by rw [CSt.commit, if_pos h3g]
      have h3e : C3.flush.D = C3.D := by rw [CSt.flush_alive h3l h3f, h3m]
      have H3n := Lib.hid h3n
      have H3m := Lib.hid h3m
      have H3e := Lib.hid h3e
      have hz3 : C3.D.Fz := by unfold DSt.Fz; rw [h3d, hca.2.2.1, HD.out]; show (-1 : Int) ≤ _ ∧ _ ≤ (-1 : Int); omega
      have H3z := Lib.hid hz3
      have h3b : C3.blocks ≤ C3.jat ∧ C3.jat + need C3.most ≤ C3.D.n := by
        rw [h3d, hca.2.2.2, hC3, HFA.out, HD.out]
        simp only [Hbl.out, Hjat.out, Hmost.out]
        exact ⟨by omega, by decide⟩
      have H3b := Lib.hid h3b
      have HFL := Lib.hid hC3
      have hu1 := Lib.hid hca.1
      clear hca hlive hfuse hC3 h3d h3c h3n h3g h3l h3f h3m h3e hz3 h3b
      go_wp2_with fail
      refine (cache_Changed_ok HC1.out.rep).mono ?_
      rintro e w2 ⟨v2, rfl, hv2, hk2⟩
      have HC2 := Lib.hid (HC1.out.kp0 hk2)
      obtain ⟨A2, rfl, _, _⟩ := hv2
      rw [Hcl.out]
      clear hk2
      go_wp2_with fail
      refine (cache_Flush HC2.out.rep (by rw [HD.out]; exact ⟨by decide, by decide⟩) (by rw [Hbl.out, Hjat.out]; omega) (by rw [Hjat.out, Hmost.out, HD.out]; decide)).mono ?_
      rintro e w3 ⟨u3, rfl, hu3, F3, hr3, hk3, hg3⟩
      rw [hu1.out] at hu3
      have hu3' : u3 = .nilIface := hu3
      subst hu3'
      rw [← HFL.out] at hr3
      have HC3 := Lib.hid (HC2.out.step hr3 hk3 hg3)
      clear hu3 hr3 hk3 hg3
      go_wp2_with fail
      refine (cache_Changed_ok HC3.out.rep).mono ?_
      rintro e w4 ⟨v4, rfl, hv4, hk4⟩
      have HC4 := Lib.hid (HC3.out.kp0 hk4)
      rw [H3n.out] at hv4
      obtain ⟨A4, rfl, _, _⟩ := hv4
      simp only [List.length_nil]
      clear hk4
      go_wp2_with fail
      refine (disk_Writes HC4.out.rep.disk).mono ?_
      rintro e w5 ⟨rfl, rfl⟩
      go_wp2_with fail
      refine (cache_Flush HC4.out.rep H3z.out H3b.out.1 H3b.out.2).mono ?_
      rintro e w6 ⟨u6, rfl, hu6, F6, hr6, hk6, hg6⟩
      rw [H3m.out] at hu6
      have hu6' : u6 = .nilIface := hu6
      subst hu6'
      have HC6 := Lib.hid (HC4.out.step hr6 hk6 hg6)
      clear hu6 hr6 hk6 hg6
      go_wp2_with (first | (go_at_call 17; refine (disk_Writes HC6.out.rep.disk).mono ?_; rintro e w7 ⟨rfl, rfl⟩; rw [H3e.out]) | (go_at_call 15; refine (awake5_ok (Hg.out.kp HC6.out.kp Hi.none) (He.out.kp HC6.out.kp Hi.none) (Nat.le_trans Hng.out HC6.out.kp.size)).mono ?_; rintro e wd ⟨rfl, hkd⟩; have hend := Lib.hid (HC6.out.kp.trans hkd (Gr.refl _ _)); clear hkd))
      go_ret
      exact ⟨rfl, hend.out⟩
end Go.Proofs.YtinaolijnjoneaaGreatDoor
