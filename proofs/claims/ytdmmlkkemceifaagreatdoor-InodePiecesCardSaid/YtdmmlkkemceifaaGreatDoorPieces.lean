/- InodePieces: the law's walk. -/
import Derived.Test.YtdmmlkkemceifaaGreatDoorAwk8
namespace Go.Proofs.YtdmmlkkemceifaaGreatDoor
open Go.RowKit
set_option maxHeartbeats 4000000
set_option maxRecDepth 20000

theorem pieces_walk {w : World} (hg : Gl w) (hng : NG ≤ w.heap.size) (A : Option Addr) (len cap : Nat) (hlen : len ≤ cap) (hcap : cap ≤ maxLen)
    (hA : 0 < len → ∃ ad, A = some ad ∧ ∀ j, j < len → ∃ z, w.cell? (ad.add j) = some (.int .i64 z)) :
    Calls Tryz.prog 3 #[.slice A len cap] w fun e w' => e = .returned (.bool true) ∧ Kp (fun _ => False) w w' := by
  have HM := Lib.hid (made8_ok (w := w) hg hng 60 (by omega) (by omega))
  have HA := Lib.hid hA
  have Hg := Lib.hid hg
  have Hng := Lib.hid hng
  unfold maxLen at hcap
  clear hg hng hA
  go_enter Tryz.func3, Tryz.ntmps3
  go_wp2_with fail
  refine HM.out.mono ?_
  rintro e w1 ⟨bt, bx, bc, bj, bm, bd, F, rfl, hit⟩
  have HI := Lib.hid hit
  clear hit
  go_wp2_with fail
  refine (it_make HI.out (i := 1) (kd := 2) (by omega) (by omega) rfl (fun j h1 h2 => by omega) (.inr rfl)).mono ?_
  rintro e w2 ⟨rfl, F2, hit, hk, hgr⟩
  have HI2 := Lib.hid (show IT w bt bx bc bj bm bd 60 (setR R0 1 (2, [])) F2 w2 from hit)
  clear hit hk hgr
  go_wp2_with fail
  go_loopw [8, 9] (fun s i wr => ∃ (k : Nat) (d : List Int) (Fc : Nat → Prop), k ≤ 20 ∧ k ≤ len ∧ i = .int .i64 k ∧ s = .string (str d) ∧ IT w bt bx bc bj bm bd 60 (setR R0 1 (2, d)) Fc wr ∧ d.length ≤ 3100 ∧ Byt d) (fun _ i _ => 20 - (intOf i).toNat)
  case atStart => exact ⟨0, [], F2, by omega, by omega, rfl, rfl, HI2.out, by simp, fun x hx => by cases hx⟩
  case round =>
    clear HI2
    obtain ⟨k, d, Fc, hk20, hkl, rfl, rfl, hit, hd, hdb⟩ := hrel
    have HI := Lib.hid hit
    have Hdb := Lib.hid hdb
    clear hit hdb
    by_cases hlt : k < len ∧ k < 20
    · obtain ⟨ha, hb⟩ := hlt
      have ha' : (k : Int) < (len : Int) := by omega
      have hb' : (k : Int) < 20 := by omega
      obtain ⟨ad, rfl, hc⟩ := HA.out (by omega)
      obtain ⟨z, hz⟩ := hc k ha
      have cz := HI.out.kp.cell hz (fun h => h)
      obtain ⟨q, hq, hq5⟩ := and_nat' z 65535 (by decide)
      obtain ⟨t, ht, ht5⟩ := and_nat' (z / 65536) 1023 (by decide)
      simp only [Int.cast_ofNat_Int] at hq ht
      have e1 : ((q : Int).tmod 2000) = ((q % 2000 : Nat) : Int) := by rw [Int.tmod_eq_emod_of_nonneg (by omega)]; omega
      have hp2 : q % 2000 < 2000 := Nat.mod_lt _ (by omega)
      generalize q % 2000 = p at *
      go_upto_region 11 with fail
      go_quiet (fail)
      have HI1 := Lib.hid (HI.out.kp0 ((Kp.refl _ wr).drewN nq))
      clear hq ht e1 cz hz hc HI
      generalize wr.drewN nq = w3 at *
      have hpt : p + t ≤ 3022 := by omega
      go_wp2_with fail
      refine (text_ok k t (by omega) (by omega)).mono ?_
      rintro e w4 ⟨rfl, hk4⟩
      have HI4 := Lib.hid (HI1.out.kp0 hk4)
      clear hk4 HI1
      go_wp2_with (first | ((with_reducible refine at_convS rfl ?_); refine wpList_convSn rfl _ rfl (textL k t) t (textL_length k t) rfl (textL_byt k t) (by unfold maxLen; omega) ?_; intro w5 c5 hk5 hs5; have HI5 := Lib.hid (HI4.out.kp0 hk5); have Hs5 := Lib.hid hs5; clear hk5 hs5))
      by_cases ht0 : t = 0
      · subst ht0
        refine (it_write0 HI5.out (ino := 1) (p := p) (by omega) (by omega) (by rw [setR_same]; show (2 : Nat) ≠ 0; decide) _ Hs5.out (by omega)).mono ?_
        rintro e w6 ⟨rfl, hk6⟩
        have HI6 := Lib.hid (HI5.out.kp0 hk6)
        obtain ⟨F6, hF6⟩ : ∃ F6, F6 = Fc := ⟨_, rfl⟩
        rw [← hF6] at HI6
        clear hk6 HI5 HI4 hF6
        by_cases hk3 : k % 3 = 0
        · have e3 : ((k : Int).tmod 3) = 0 := by rw [Int.tmod_eq_emod_of_nonneg (by omega)]; omega
          go_wp2_with fail
          refine (it_flush HI6.out).mono ?_
          rintro e w7 ⟨rfl, F7, hit, _, _⟩
          have HI7 := Lib.hid hit
          clear hit e3
          go_wp2_with fail
          go_roundw
          case rel => exact ⟨k + 1, d, F7, by omega, by omega, by go_num, rfl, HI7.out, hd, Hdb.out⟩
          case measure => simp [intOf]; omega
        · have e3 : ((k : Int).tmod 3) = ((k % 3 : Nat) : Int) := by rw [Int.tmod_eq_emod_of_nonneg (by omega)]; omega
          have e4 : (((k % 3 : Nat) : Int) == 0) = false := by simp; omega
          generalize k % 3 = k3 at *
          go_wp2_with fail
          go_roundw
          case rel => exact ⟨k + 1, d, F6, by omega, by omega, by go_num, rfl, HI6.out, hd, Hdb.out⟩
          case measure => simp [intOf]; omega
      · have ht1 : (0 : Int) < (t : Int) := by omega
        refine (it_write HI5.out (ino := 1) (p := p) (by omega) (by omega) (by rw [setR_same]; show (2 : Nat) ≠ 0; decide) _ (textL k t) Hs5.out (textL_byt k t) (by intro h; have := congrArg List.length h; rw [textL_length] at this; exact ht0 this) (by rw [textL_length]; omega) (by rw [used_one, setR_same]; show bks d.length + bks (max d.length (p + (textL k t).length)) ≤ 60 + bks d.length; have := bks_le (max d.length (p + (textL k t).length)) (by rw [textL_length]; omega); omega)).mono ?_
        rintro e w6 ⟨rfl, F6, hit, _, _⟩
        rw [setR_setR, setR_same] at hit
        have HI6 := Lib.hid (show IT w bt bx bc bj bm bd 60 (setR R0 1 (2, wrAt d p (textL k t))) F6 w6 from hit)
        clear hit HI5 HI4 Hs5
        obtain ⟨g, hg⟩ : ∃ g, g = p + t := ⟨_, rfl⟩
        have e5 : (p : Int) + (t : Int) = (g : Int) := by omega
        have hdl : (wrAt d p (textL k t)).length ≤ 3100 := by rw [wrAt_len, textL_length]; omega
        have HW := Lib.hid (show (str ((grownL d g).take p) ++ str (textL k t)) ++ str ((grownL d g).drop g) = str (wrAt d p (textL k t)) by rw [hg]; exact str_wr d p k t)
        have hgl := Lib.hid (grownL_len d g)
        have Hg := Lib.hid hg
        have hg4 : g ≤ 4000 := by omega
        clear hg
        have Hdl := Lib.hid hdl
        have Hwb := Lib.hid (wrAt_byt Hdb.out (textL_byt k t) p)
        clear hdl
        go_wp2_with fail
        refine (grown_ok d g (by omega) (by omega)).mono ?_
        rintro e w7 ⟨rfl, hk7⟩
        have HI7 := Lib.hid (HI6.out.kp0 hk7)
        clear hk7 HI6
        have hpg : p ≤ g ∧ g = p + t := ⟨by have := Hg.out; omega, Hg.out⟩
        have hG : (grownL d g).length ≤ 4000 := by have := hgl.out; omega
        have hpG : p ≤ (grownL d g).length ∧ g ≤ (grownL d g).length := by have := hgl.out; omega
        clear hgl
        generalize grownL d g = G at *
        have z0 := str_size G
        have x1 : (str G).extract 0 p = str (G.take p) := by rw [str_cut]; simp
        have x2 : (str G).extract g G.length = str (G.drop g) := by rw [str_cut]; congr 1; rw [List.take_of_length_le (by simp)]
        have z1 : (str (G.take p)).size = p := by rw [str_size, List.length_take]; omega
        have z2 : (str (textL k t)).size = t := by rw [str_size, textL_length]
        have z3 : (str (G.take p) ++ str (textL k t)).size = g := by rw [str_app, str_size, List.length_append, List.length_take, textL_length]; omega
        have z4 : (str (G.drop g)).size = G.length - g := by rw [str_size, List.length_drop]
        have hGa : p ≤ G.length := hpG.1
        have hGb : g ≤ G.length := hpG.2
        have qg : IntKind.i64.wrap (g : Int) = (g : Int) := IntWalk.i64_in _ (by omega)
        have hG1 : (p : Int) ≤ (G.length : Int) := by omega
        have hG2 : (g : Int) ≤ (G.length : Int) := by omega
        have HT := Lib.hid (fun W : World => text_ok (w := W) k t (by omega) (by omega))
        have hs7 : Kp (fun _ => False) w7 w7 := Kp.refl _ _
        clear hpg hpG
        have hpg : p ≤ g := by have := Hg.out; omega
        go_upto_region 16 with fail
        go_region_held_law (fun W => Kp (fun _ => False) w7 W)
          (first | exact Kp.refl _ _ | assumption | exact Kp.drew (by assumption) | exact Kp.trans (by assumption) (by assumption) (Gr.refl _ _))
          (first | (go_at_call 11; refine (HT.out _).mono ?_; rintro e w8 ⟨rfl, hk8⟩; have hk8' : Kp (fun _ => False) w7 w8 := Kp.trans (F1 := fun _ => False) (by first | exact Kp.refl _ _ | exact (Kp.refl _ _).drew) hk8 (Gr.refl _ _)))
        rw [HW.out]
        have HI6 := Lib.hid (HI7.out.kp0 (show Kp (fun _ => False) w7 w8 from hk8'))
        clear z0 x1 x2 z1 z2 z3 z4 hGa hGb qg hG1 hG2 HT hs7 hk8 hk8' hG HW HI7 e5 hpg hg4 Hg
        by_cases hk3 : k % 3 = 0
        · have e3 : ((k : Int).tmod 3) = 0 := by rw [Int.tmod_eq_emod_of_nonneg (by omega)]; omega
          go_wp2_with fail
          refine (it_flush HI6.out).mono ?_
          rintro e w7 ⟨rfl, F7, hit, _, _⟩
          have HI7 := Lib.hid hit
          clear hit e3
          go_wp2_with fail
          go_roundw
          case rel => exact ⟨k + 1, wrAt d p (textL k t), F7, by omega, by omega, by go_num, rfl, HI7.out, Hdl.out, Hwb.out⟩
          case measure => simp [intOf]; omega
        · have e3 : ((k : Int).tmod 3) = ((k % 3 : Nat) : Int) := by rw [Int.tmod_eq_emod_of_nonneg (by omega)]; omega
          have e4 : (((k % 3 : Nat) : Int) == 0) = false := by simp; omega
          generalize k % 3 = k3 at *
          go_wp2_with fail
          go_roundw
          case rel => exact ⟨k + 1, wrAt d p (textL k t), F6, by omega, by omega, by go_num, rfl, HI6.out, Hdl.out, Hwb.out⟩
          case measure => simp [intOf]; omega
    · have hcase : ¬ (k : Int) < (len : Int) ∨ ((k : Int) < (len : Int) ∧ ¬ (k : Int) < 20) := by omega
      have hz := str_size d
      have Hread := Lib.hid (readAt_all d 4000 (by omega))
      clear hlt
      rcases hcase with hcc | ⟨hcc, hcd⟩
      all_goals
        go_wp2_with fail
        refine (it_read HI.out (ino := 1) (p := 0) (m := 4000) (by omega) (by omega) (by rw [setR_same]; show (2 : Nat) ≠ 0; decide) (by omega) (by omega)).mono ?_
        rintro e w6 ⟨v6, rfl, hs6, hk6⟩
        rw [setR_same] at hs6
        have hs6' : Sl w6 v6 d := by
          have h2 : readAt (2, d).2 0 4000 = d := Hread.out
          rw [h2] at hs6; exact hs6
        obtain ⟨A6, c6, ev6, _, _, _⟩ := id hs6'
        subst ev6
        have Hs6 := Lib.hid hs6'
        have HI6 := Lib.hid (HI.out.kp0 hk6)
        clear hs6 hs6' hk6
        go_wp2_with fail
        refine (it_size HI6.out (ino := 1) (by omega) (by omega) (by rw [setR_same]; show (2 : Nat) ≠ 0; decide)).mono ?_
        rintro e w7 ⟨rfl, hk7⟩
        rw [setR_same]
        have hcv := conv_str (Hs6.out.kp hk7 (fun _ _ h => h))
        have HI7 := Lib.hid (HI6.out.kp0 hk7)
        clear hk7
        go_wp2_with fail
        refine (awake8_ok HI7.out.gl HI7.out.ngr).mono ?_
        rintro e w8 ⟨rfl, hk8⟩
        have HK := Lib.hid (HI7.out.kp.trans hk8 (Gr.refl _ _))
        clear hk8
        go_wp2_with fail
        go_ret
        exact ⟨by simp, HK.out⟩
end Go.Proofs.YtdmmlkkemceifaaGreatDoor
