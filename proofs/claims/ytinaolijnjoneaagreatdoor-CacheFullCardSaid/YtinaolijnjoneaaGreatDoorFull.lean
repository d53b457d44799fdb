/- CacheFull: the law's walk. -/
import Derived.Test.YtinaolijnjoneaaGreatDoorAwk5
import Derived.Test.YtinaolijnjoneaaGreatDoorLawIs
namespace Go.Proofs.YtinaolijnjoneaaGreatDoor
open Go.RowKit
set_option maxHeartbeats 2000000
set_option maxRecDepth 20000

/-- The blocks from f0 on, round the twelve. -/
def ringF (f0 k : Nat) : List Nat := (List.range k).map fun j => (f0 + j) % 12
theorem ringF_len (f0 k : Nat) : (ringF f0 k).length = k := by simp [ringF]
theorem ringF_not (f0 k : Nat) (h : k < 12) : (f0 + k) % 12 ∉ ringF f0 k := by
  intro hm
  simp only [ringF, List.mem_map, List.mem_range] at hm
  obtain ⟨j, hj, e⟩ := hm
  omega
theorem ringF_succ (f0 k : Nat) : ringF f0 (k + 1) = ringF f0 k ++ [(f0 + k) % 12] := by simp [ringF, List.range_succ]
theorem ringF_first (f0 k : Nat) (h : f0 < 12) (hk : 0 < k) : f0 ∈ ringF f0 k := by
  simp only [ringF, List.mem_map, List.mem_range]
  exact ⟨0, hk, by omega⟩

theorem full_walk {w : World} (hg : Gl w) (he : Ge w) (hng : NG ≤ w.heap.size) (a s : Int) :
    Calls Tryz.prog 3 #[.int .i64 a, .int .i64 s] w fun e w' => e = .returned (.bool true) ∧ Kp (fun _ => False) w w' := by
  obtain ⟨q, hq, hq5⟩ := and_nat a 7 (by decide)
  obtain ⟨p, hp, hp5⟩ := and_nat s 255 (by decide)
  simp only [Int.cast_ofNat_Int] at hq hp
  have e1 : ((p : Int).tmod 12) = ((p % 12 : Nat) : Int) := by rw [Int.tmod_eq_emod_of_nonneg (by omega)]; omega
  have hf0 : p % 12 < 12 := Nat.mod_lt _ (by omega)
  generalize p % 12 = f0 at *
  obtain ⟨n, hn⟩ : ∃ n, n = q + 1 := ⟨_, rfl⟩
  have e2 : (q : Int) + 1 = (n : Int) := by omega
  have hn1 : 1 ≤ n := by omega
  have hn8 : n ≤ 8 := by omega
  clear hn
  have HM := Lib.hid (made5_ok (w := w) hg hng n hn1 hn8)
  have Hg := Lib.hid hg
  have He := Lib.hid he
  have Hng := Lib.hid hng
  clear hg hng he
  go_enter Tryz.func3, Tryz.ntmps3
  go_wp2_with fail
  refine HM.out.mono ?_
  rintro e w1 ⟨bd, bc, bj, bm, F, rfl, hr, hk1, hf⟩
  have HC := Lib.hid (show CR w bc bj bm bd (CSt.five n) F w1 from ⟨hr, hk1, hf⟩)
  clear hr hk1 hf
  go_wp2_with fail
  go_loopw [7] (fun x wr => ∃ k F C, x = .int .i64 (k : Nat) ∧ k ≤ n ∧ CR w bc bj bm bd C F wr ∧ C.D = DSt.new 60 ∧ C.most = n ∧ C.blocks = 12 ∧ C.ch = ringF f0 k) (fun x _ => n - (intOf x).toNat)
  case atStart => exact ⟨0, F, CSt.five n, rfl, by omega, HC.out, rfl, rfl, rfl, rfl⟩
  case round =>
    obtain ⟨k, F1, C, rfl, hk, hC, hD, hmost, hbl, hch⟩ := hrel
    have HC1 := Lib.hid hC
    have HD := Lib.hid hD
    have Hmost := Lib.hid hmost
    have Hbl := Lib.hid hbl
    have Hch := Lib.hid hch
    by_cases hlt : k < n
    · have hz : (k : Int) < (n : Int) := by omega
      have e3 : (((f0 : Int) + (k : Int)).tmod 12) = (((f0 + k) % 12 : Nat) : Int) := by rw [Int.tmod_eq_emod_of_nonneg (by omega)]; omega
      have hr12 : (f0 + k) % 12 < 12 := Nat.mod_lt _ (by omega)
      have Hnot := Lib.hid (ringF_not f0 k (by omega))
      have Hsucc := Lib.hid (ringF_succ f0 k)
      clear hC hD hmost hbl hch
      generalize (f0 + k) % 12 = r at *
      go_wp2_with (first | (go_at_call 10; refine (fill_ok k (by omega)).mono ?_; rintro e w4 ⟨rfl, hrow, hk4⟩; have HC4 := Lib.hid (HC1.out.kp0 hk4); have hsl := Lib.hid (fill_sl hrow); clear hrow hk4) | (go_at_call 9; refine (cache_Write_ok HC4.out.rep (by rw [HD.out]; rfl) (r : Nat) 0 (by omega) (by rw [Hbl.out]; omega) (by omega) _ _ hsl.out (by have := part_len (fillAt k) 128; unfold fillRow; omega) (.inr (by rw [Hch.out, ringF_len, Hmost.out]; exact hlt))).mono ?_; rintro e w5 ⟨rfl, F5, hr5, hk5, hg5⟩; have HC5 := Lib.hid (HC4.out.step hr5 hk5 hg5); clear hr5 hk5 hg5))
      go_roundw
      case rel => exact ⟨k + 1, F5, _, by go_num, by omega, HC5.out, HD.out, Hmost.out, Hbl.out, by simp only [CSt.wr, Int.toNat_natCast]; rw [Hch.out, if_neg Hnot.out, Hsucc.out]⟩
      case measure => simp [intOf]; omega
    · have hz : ¬ ((k : Int) < (n : Int)) := by omega
      have hkn : k = n := by omega
      have e3 : (((f0 : Int) + (n : Int)).tmod 12) = (((f0 + n) % 12 : Nat) : Int) := by rw [Int.tmod_eq_emod_of_nonneg (by omega)]; omega
      have hr12 : (f0 + n) % 12 < 12 := Nat.mod_lt _ (by omega)
      rw [hkn] at hch
      have Hch := Lib.hid hch
      have Hnot := Lib.hid (ringF_not f0 n (by omega))
      have Hfst := Lib.hid (ringF_first f0 n hf0 (by omega))
      clear hC hD hmost hbl hch hkn
      generalize (f0 + n) % 12 = r at *
      go_wp2_with fail
      have hsl1 := sl_one wr 1
      refine (cache_Write_big (HC1.out.kp0 ((Kp.refl _ _).alloc _)).rep r 0 (by rw [Hbl.out]; omega) _ [1] hsl1 (by simp) (by rw [Hch.out]; exact Hnot.out) (by rw [Hch.out, ringF_len, Hmost.out]; exact Nat.le_refl _) (by omega)).mono ?_
      rintro e w5 ⟨v5, rfl, hv5, hk5⟩
      have HC5 := Lib.hid ((HC1.out.kp0 ((Kp.refl _ _).alloc _)).kp0 hk5)
      obtain ⟨t5, x5, rfl⟩ := hv5.iface
      have Hv5 := Lib.hid hv5
      clear hsl1 hv5 hk5 HC1
      go_wp2_with fail
      have hsl2 := sl_one w5 2
      have HC5' := Lib.hid (HC5.out.kp0 ((Kp.refl _ _).alloc (.cells #[.int .u8 2] 5)))
      refine (cache_Write_ok HC5'.out.rep (by rw [HD.out]; rfl) (f0 : Nat) 5 (by omega) (by rw [Hbl.out]; omega) (by omega) _ [2] hsl2 (by simp) (.inl (by rw [Hch.out]; exact Hfst.out))).mono ?_
      rintro e w6 ⟨rfl, F6, hr6, hk6, hg6⟩
      have HC6 := Lib.hid (HC5'.out.step hr6 hk6 hg6)
      have Hv6 := Lib.hid ((Hv5.out.kp ((Kp.refl (fun _ => False) w5).alloc (.cells #[.int .u8 2] 5)) (FCl.none _)).kp hk6 HC5'.out.rep.disk.cl)
      have hvw : (C.wr f0 5 [2]).view r = zs 128 := by
        have h1 : r ∉ (C.wr f0 5 [2]).ch := by simp only [CSt.wr]; rw [if_pos (by rw [Hch.out]; exact Hfst.out), Hch.out]; exact Hnot.out
        unfold CSt.view
        rw [if_neg h1]
        show C.D.row r = _
        rw [HD.out]; rfl
      have Hvw := Lib.hid hvw
      clear hvw hsl2 hr6 hk6 hg6 HC5 Hv5
      go_wp2_with fail
      refine (cache_Read_ok HC6.out.rep (by show C.D.dead = _; rw [HD.out]; rfl) (r : Nat) (by omega) (by show _ < ((C.blocks : Nat) : Int); rw [Hbl.out]; omega)).mono ?_
      rintro e w7 ⟨g, rfl, hrow, hk7, hg7⟩
      have HC7 := Lib.hid (HC6.out.kp0 hk7)
      have Hv7 := Lib.hid (Hv6.out.kp hk7 (FCl.none _))
      rw [Int.toNat_natCast] at hrow
      have Hrow := Lib.hid (show Row w7 g (zs 128) from (show (C.wr f0 5 [2]).view r = zs 128 from Hvw.out) ▸ hrow)
      clear hrow hk7 hg7 HC6 Hv6
      go_wp2_with fail
      have hc7 : ∀ W : World, Kp (fun _ => False) w7 W → (convert 29 9 (.slice (some ⟨g, 0, none⟩) 128 128)).run Tryz.prog W = .ok (.string (str (zs 128))) W := fun W hk => conv_str ((Hrow.out.kp hk (fun h => h)).sl 128 (by simp) (by simp [maxLen]))
      have hz7 : ∀ W : World, (convert 29 9 (.slice (some ⟨W.heap.size, 0, none⟩) 128 128)).run Tryz.prog (W.alloc (zrow 128)) = .ok (.string (str (zs 128))) (W.alloc (zrow 128)) := fun W => conv_str ((row_new W 128).sl 128 (by simp) (by simp [maxLen]))
      have hm7 := make128
      generalize str (zs 128) = s0 at hc7 hz7
      have hk7 : Kp (fun _ => False) w7 w7 := Kp.refl _ _
      go_region_held_law (fun W => Kp (fun _ => False) w7 W)
        (first | exact Kp.refl _ _ | assumption | exact Kp.drew (by assumption) | exact Kp.alloc (by assumption) _ | exact Kp.trans (by assumption) (by assumption) (Gr.refl _ _))
        (first | (go_at_call 12; refine (law_Num (Hv7.out.kp (F := fun _ => False) (by assumption) (FCl.none _)) (He.out.kp (HC7.out.kp.trans (by assumption) (Gr.refl _ _)) Hi.none)).mono ?_; rintro e w8 ⟨rfl, hk8⟩))
      have HC9 := Lib.hid (HC7.out.kp0 (show Kp (fun _ => False) w7 (w8.alloc (zrow 128)) by assumption))
      clear hc7 hz7 hm7 hk7 hk8 Hv7 Hrow HC7 Hvw
      generalize w8.alloc (zrow 128) = w9 at *
      go_wp2_with fail
      refine (cache_Drop_ok HC9.out.rep).mono ?_
      rintro e wa ⟨rfl, hra, hka⟩
      have HCa := Lib.hid ((HC9.out.step hra hka (Gr.refl _ _)).kp0 ((Kp.refl _ _).alloc (.cells #[.int .u8 1] 5)))
      have HW := Lib.hid (sl_one wa 1)
      clear hra hka HC9
      go_wp2_with (first | (go_at_call 9; refine (cache_Write_ok HCa.out.rep (by show C.D.dead = _; rw [HD.out]; rfl) (r : Nat) 0 (by omega) (by show _ < ((C.blocks : Nat) : Int); rw [Hbl.out]; omega) (by omega) _ [1] HW.out (by simp) (.inr (by show 0 < C.most; rw [Hmost.out]; omega))).mono ?_; rintro e wb ⟨rfl, Fb, hrb, hkb, hgb⟩; have HCb := Lib.hid (HCa.out.step hrb hkb hgb); clear hrb hkb hgb HCa HW))
      refine (cache_Changed_ok HCb.out.rep).mono ?_
      rintro e wc ⟨vc, rfl, hvc, hkc⟩
      have HCc := Lib.hid (HCb.out.kp0 hkc)
      obtain ⟨Ac, rfl, _, _⟩ := hvc
      rw [show ((C.wr (f0 : Int).toNat (5 : Int).toNat [2]).drop.wr (r : Int).toNat (0 : Int).toNat [1]).chs.length = 1 by rw [(CSt.chs_perm _).length_eq]; simp [CSt.wr, CSt.drop]]
      clear hkc
      go_wp2_with (go_at_call 15; refine (awake5_ok (Hg.out.kp HCc.out.kp Hi.none) (He.out.kp HCc.out.kp Hi.none) (Nat.le_trans Hng.out HCc.out.kp.size)).mono ?_; rintro e wd ⟨rfl, hkd⟩; have hend := Lib.hid (HCc.out.kp.trans hkd (Gr.refl _ _)); clear hkd)
      go_ret
      exact ⟨rfl, hend.out⟩
end Go.Proofs.YtinaolijnjoneaaGreatDoor
