/- DirFills: the law's walk. -/
import Derived.Test.YthjbpbahcemfgaaGreatDoorNmS
import Derived.Test.YthjbpbahcemfgaaGreatDoorAwk10
import Derived.Test.YthjbpbahcemfgaaGreatDoorLawIs
namespace Go.Proofs.YthjbpbahcemfgaaGreatDoor
open Go.RowKit
set_option maxHeartbeats 4000000
set_option maxRecDepth 20000

theorem nm_last : NmOk [108, 97, 115, 116] := nmB_ok (by decide)
theorem nm_other : NmOk [111, 116, 104, 101, 114] := nmB_ok (by decide)
theorem dirFills_walk {w : World} (hg : Gl w) (he : Ge w) (hng : NG ≤ w.heap.size) (a b : Int) :
    Calls Tryz.prog 7 #[.int .i64 a, .int .i64 b] w fun e w' => e = .returned (.bool true) ∧ Kp (fun _ => False) w w' := by
  obtain ⟨q, hq, hq15⟩ := and_nat' a 15 (by decide)
  obtain ⟨p, hp, hp255⟩ := and_nat' b 255 (by decide)
  simp only [Int.cast_ofNat_Int] at hq hp
  obtain ⟨n, hn⟩ : ∃ n, n = q + 112 := ⟨_, rfl⟩
  have hnz : (q : Int) + 112 = (n : Int) := by omega
  have hnw : IntKind.i64.wrap (n : Int) = (n : Int) := IntWalk.i64_in _ (by omega)
  have hn127 : n ≤ 127 := by omega
  have hn112 : 112 ≤ n := by omega
  have HM := Lib.hid (made10_ok (w := w) hg hng)
  have He := Lib.hid he
  have HA := Lib.hid (fun (W : World) (h1 : Gl W) (h2 : NG ≤ W.heap.size) => awake10_ok (w := W) h1 h2)
  clear hg hng he hn hq15
  go_enter Tryz.func7, Tryz.ntmps7
  go_wp2_with fail
  refine HM.out.mono ?_
  rintro e w1 ⟨bD, bt, bx, bc, bj, bm, bd, F, rfl, hd, _⟩
  have HD1 := Lib.hid hd
  clear hd HM
  go_wp2_with fail
  clear hq hnz
  go_loopw [7, 8, 9] (fun i _ _ W => ∃ (k : Nat) (F' : Nat → Prop), i = .int .i64 k ∧ k ≤ n ∧ DirS w bD bt bx bc bj bm bd (recsS 102 (fun i => i + 1) (min k 120)) (bks (32 * min k 120)) F' W) (fun i _ _ _ => n - (intOf i).toNat)
  case atStart => exact ⟨0, F, rfl, Nat.zero_le _, HD1.out⟩
  case round =>
    obtain ⟨k, F2, rfl, hk, hd⟩ := hrel
    have HD := Lib.hid hd
    have HK := Lib.hid hd.kp
    clear hd HD1
    by_cases hlt : k < n
    · have hltz : (k : Int) < (n : Int) := by omega
      have hrem : (k : Int).tmod 200 = (k : Int) := by rw [Int.tmod_eq_emod_of_nonneg (by omega)]; omega
      have hw1 : IntKind.i64.wrap ((k : Int) + 1) = (k : Int) + 1 := IntWalk.i64_in _ (by omega)
      have HN := Lib.hid (ref_Num (w := wr) (k : Int) (by omega) (by omega))
      go_wp2_with fail
      refine HN.out.mono ?_
      rintro e w2 ⟨rfl, hk2⟩
      have HD2 := Lib.hid (HD.out.kp0 hk2)
      have hsz := tx_num (i := k) (by omega)
      clear hk2 HN
      have hok : RcOk ⟨nmS 102 k, k + 1⟩ := ⟨nmS_ok (.inl rfl) (by omega), by show 1 ≤ k + 1; omega, by show k + 1 ≤ 200; omega⟩
      by_cases h120 : k < 120
      · have h120z : ¬ (120 : Int) ≤ (k : Int) := by omega
        have hmin : min k 120 = k := by omega
        rw [hmin] at HD2
        have hle := bks_leD (n := 32 * k) (m := 32 * (k + 1)) (by omega)
        have HP := Lib.hid (dir_Put_ok HD2.out hok (recsS_new (.inl rfl) (by omega)) (by rw [recsS_len]; exact h120) (Nat.le_trans (bks_33 (by omega)) (by omega)) (q' := bks (32 * (k + 1))) (by rw [recsS_len]; omega))
        rw [← recsS_succ, ← cat_num] at HP
        clear hok hle
        go_wp2_with fail
        refine HP.out.mono ?_
        rintro e w3 ⟨rfl, F3, hd, _, _⟩
        have HD3 := Lib.hid hd
        clear hd HP HD2
        go_wp2_with fail
        refine (law_Is_nil _ _ _ _).mono ?_
        rintro e w4 ⟨rfl, rfl⟩
        go_wp2_with fail
        go_roundw
        case rel => exact ⟨k + 1, F3, by go_num, by omega, by rw [show min (k + 1) 120 = k + 1 by omega]; exact HD3.out⟩
        case measure => simp [intOf]; omega
      · have h120z : (120 : Int) ≤ (k : Int) := by omega
        have hmin : min k 120 = 120 := by omega
        rw [hmin] at HD2
        have HP := Lib.hid (dir_Put_full HD2.out hok (fun y hy e => by
          obtain ⟨i, hi, rfl⟩ := recsS_mem hy
          have := nmS_inj (c := 102) (.inl rfl) (by omega) (by omega) e
          omega) (by rw [recsS_len]))
        rw [← cat_num] at HP
        clear hok
        go_wp2_with fail
        refine HP.out.mono ?_
        rintro e w3 ⟨v, rfl, hv, hk3⟩
        obtain ⟨t, y, rfl⟩ := hv.iface
        have HD3 := Lib.hid (HD2.out.kp0 hk3)
        have Hv := Lib.hid hv
        clear hk3 hv HP HD2
        go_wp2_with fail
        refine (law_Is Hv.out (by decide) (He.out.kp HD3.out.kp Hi.none)).mono ?_
        rintro e w4 ⟨rfl, hk4⟩
        have HD4 := Lib.hid (HD3.out.kp0 hk4)
        clear hk4
        go_wp2_with fail
        go_roundw
        case rel => exact ⟨k + 1, F2, by go_num, by omega, by rw [show min (k + 1) 120 = 120 by omega]; exact HD4.out⟩
        case measure => simp [intOf]; omega
    · have hkn : k = n := by omega
      subst hkn
      have hltz : ¬ (k : Int) < (k : Int) := by omega
      obtain ⟨m, hm⟩ : ∃ m, m = min k 120 := ⟨_, rfl⟩
      rw [← hm] at HD
      have hmz : min (k : Int) 120 = (m : Int) := by omega
      have hm1 : 112 ≤ m := by omega
      have hm2 : m ≤ 120 := by omega
      have hrem : (p : Int).tmod (m : Int) = ((p % m : Nat) : Int) := by
        rw [Int.tmod_eq_emod_of_nonneg (by omega)]; rfl
      have hmne : ¬ (m : Int) = 0 := by omega
      have hdlt : p % m < m := Nat.mod_lt _ (by omega)
      have HK := Lib.hid HD.out.kp
      generalize p % m = d at *
      clear hm hlt hk
      have HN := Lib.hid (ref_Num (w := wr) (d : Int) (by omega) (by omega))
      go_wp2_with fail
      refine HN.out.mono ?_
      rintro e w2 ⟨rfl, hk2⟩
      have HD2 := Lib.hid (HD.out.kp0 hk2)
      clear hk2 HN
      have hsz := tx_num (i := d) (by omega)
      have hz : (recsS 102 (fun i => i + 1) m)[m - 1]? = some ⟨nmS 102 (m - 1), m - 1 + 1⟩ := recsS_get (by omega)
      have HP := Lib.hid (dir_Drop_ok HD2.out (i := d) (recsS_get hdlt) (z := ⟨nmS 102 (m - 1), m - 1 + 1⟩) (by rw [recsS_len]; exact hz) (Nat.le_trans (bks_33 (by omega)) (by omega)))
      rw [← cat_num] at HP
      clear HD
      go_wp2_with fail
      refine HP.out.mono ?_
      rintro e w3 ⟨rfl, F3, hd, _, _⟩
      have HD3 := Lib.hid hd
      clear hd HP HD2
      obtain ⟨l3, hl3⟩ : ∃ l3, l3 = dropL (recsS 102 (fun i => i + 1) m) d ⟨nmS 102 (m - 1), m - 1 + 1⟩ := ⟨_, rfl⟩
      rw [← hl3] at HD3
      have hlen3 : l3.length = m - 1 := by rw [hl3, dropL_len, recsS_len]
      have Hmem := Lib.hid (show ∀ y ∈ l3, ∃ j, j < m ∧ j ≠ d ∧ y.s = nmS 102 j from fun y hy => by
        obtain ⟨a, ha⟩ := List.mem_iff_getElem?.1 hy
        rw [hl3] at ha
        obtain ⟨a1, ⟨rfl, rfl⟩ | ⟨a2, a3⟩⟩ := dropL_get (by rw [recsS_len]; exact hdlt) ha
        · rw [recsS_len] at a1
          exact ⟨m - 1, by omega, by omega, rfl⟩
        · rw [recsS_len] at a1
          rw [recsS_get (by omega)] at a3
          exact ⟨a, by omega, a2, by rw [← Option.some.inj a3]⟩)
      have hle := bks_33 (n := 32 * m) (by omega)
      have HP := Lib.hid (dir_Put_ok HD3.out (x := ⟨[108, 97, 115, 116], 7⟩) (q' := 100) ⟨nm_last, by decide, by decide⟩ (fun y hy e => by
        obtain ⟨j, _, _, e2⟩ := Hmem.out y hy
        rw [e2] at e
        exact nmS_head 102 j _ _ (by decide) e) (by omega) (by omega) (by have := bks_33 (n := 32 * (l3.length + 1)) (by omega); omega))
      have El : str [108, 97, 115, 116] = ({ data := #[108, 97, 115, 116] } : ByteArray) := by decide +kernel
      have HEl := Lib.hid El
      rw [El] at HP
      clear hl3 El hz hle
      go_wp2_with fail
      refine HP.out.mono ?_
      rintro e w4 ⟨rfl, F4, hd, _, _⟩
      have HD4 := Lib.hid hd
      clear hd HP HD3
      have HL := Lib.hid (dir_Len HD4.out)
      have hlm : ((l3 ++ [⟨[108, 97, 115, 116], 7⟩] : List Rc).length : Int) = (m : Int) := by rw [List.length_append, hlen3]; simp; omega
      rw [hlm] at HL
      clear hlm
      go_wp2_with fail
      refine HL.out.mono ?_
      rintro e w5 ⟨rfl, hk5⟩
      have HD5 := Lib.hid (HD4.out.kp0 hk5)
      clear hk5 HL HD4
      have HF := Lib.hid (dir_Find_ok HD5.out (i := m - 1) (x := ⟨[108, 97, 115, 116], 7⟩) (by rw [List.getElem?_append_right (by omega), hlen3]; simp))
      rw [HEl.out] at HF
      go_wp2_with fail
      refine HF.out.mono ?_
      rintro e w6 ⟨rfl, hk6⟩
      have HD6 := Lib.hid (HD5.out.kp0 hk6)
      clear hk6 HF HD5
      have HN := Lib.hid (ref_Num (w := w6) (d : Int) (by omega) (by omega))
      go_wp2_with fail
      refine HN.out.mono ?_
      rintro e w7 ⟨rfl, hk7⟩
      have HD7 := Lib.hid (HD6.out.kp0 hk7)
      clear hk7 HN HD6
      have HF := Lib.hid (dir_Find_none HD7.out (nmS 102 d) (nmS_ok (.inl rfl) (by omega)) (fun y hy e => by
        rcases List.mem_append.1 hy with hy | hy
        · obtain ⟨j, hj, hjd, e2⟩ := Hmem.out y hy
          rw [e2] at e
          exact hjd (nmS_inj (c := 102) (.inl rfl) (by omega) (by omega) e)
        · simp at hy
          subst hy
          exact nmS_head 102 d [97, 115, 116] 108 (by decide) e.symm))
      rw [← cat_num] at HF
      go_wp2_with fail
      refine HF.out.mono ?_
      rintro e w8 ⟨v, rfl, hv, hk8⟩
      obtain ⟨t, y, rfl⟩ := hv.iface
      have HD8 := Lib.hid (HD7.out.kp0 hk8)
      have Hv := Lib.hid hv
      clear hk8 hv HF HD7
      go_wp2_with fail
      refine (law_Num Hv.out (He.out.kp HD8.out.kp Hi.none)).mono ?_
      rintro e w9 ⟨rfl, hk9⟩
      have HD9 := Lib.hid (HD8.out.kp0 hk9)
      clear hk9
      go_wp2_with fail
      refine (HA.out _ HD9.out.gl HD9.out.ngr).mono ?_
      rintro e w10 ⟨rfl, hk10⟩
      have HKe := Lib.hid (HD9.out.kp.trans hk10 (Gr.refl _ _))
      clear hk10
      go_wp2_with fail
      go_ret
      exact ⟨rfl, HKe.out⟩
end Go.Proofs.YthjbpbahcemfgaaGreatDoor
