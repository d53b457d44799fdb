/- CacheDies: the law's walk. -/
import Derived.Test.YtmafihodbbagbaaGreatDoorDiesP
import Derived.Test.YtmafihodbbagbaaGreatDoorAwk5
import Derived.Test.YtmafihodbbagbaaGreatDoorLawIs
import Derived.Deep.CutBlock
import Derived.Deep.CutRange
import Derived.Deep.RegionHeldLaw
namespace Go.Proofs.YtmafihodbbagbaaGreatDoor
open Go.RowKit
set_option maxHeartbeats 40000000
set_option maxRecDepth 20000

theorem dies_walk {w : World} (hg : Gl w) (he : Ge w) (hng : NG ≤ w.heap.size) (a s t : Int) :
    Calls Tryz.prog 4 #[.int .i64 a, .int .i64 s, .int .i64 t] w fun e w' => e = .returned (.bool true) ∧ Kp (fun _ => False) w w' := by
  have HM := Lib.hid (made5_ok (w := w) hg hng 8 (by omega) (by omega))
  have Hg := Lib.hid hg
  have He := Lib.hid he
  have Hng := Lib.hid hng
  clear hg hng he
  go_enter Tryz.func4, Tryz.ntmps4
  go_wp2_with fail
  refine HM.out.mono ?_
  rintro e w1 ⟨bd, bc, bj, bm, F, rfl, hr, hk1, hf⟩
  have HC := Lib.hid (show CR w bc bj bm bd (CSt.five 8) F w1 from ⟨hr, hk1, hf⟩)
  clear hr hk1 hf
  go_wp2_with fail
  go_loopw [9] (fun x wr => ∃ k F C, x = .int .i64 (k : Nat) ∧ k ≤ 12 ∧ CR w bc bj bm bd C F wr ∧ C.D = DSt.new 60 ∧ C.most = 8 ∧ C.blocks = 12 ∧ C.jat = 20 ∧ C.ch = bsUp a k ∧ (∀ no ∈ C.ch, C.cont no = R0)) (fun x _ => 12 - (intOf x).toNat)
  case atStart => exact ⟨0, F, CSt.five 8, rfl, by omega, HC.out, rfl, rfl, rfl, rfl, rfl, fun no h => by cases h⟩
  case round =>
    obtain ⟨k, F1, C, rfl, hk, hC, hD, hmost, hbl, hjat, hch, hcont⟩ := hrel
    have HC1 := Lib.hid hC
    have HD := Lib.hid hD
    have Hmost := Lib.hid hmost
    have Hbl := Lib.hid hbl
    have Hjat := Lib.hid hjat
    have Hch := Lib.hid hch
    have Hcont := Lib.hid hcont
    clear hC hD hmost hbl hjat hch hcont
    by_cases hlt : k < 12
    · have hz : (k : Int) < 12 := by omega
      have hz0 : (0 : Int) ≤ (k : Int) := by omega
      obtain ⟨q, hra, hq1⟩ := bt_one a k
      by_cases h1 : q = 1
      · have b1 : ((q : Int) == 1) = true := by simp [h1]
        have hbt := Lib.hid (show bt a k = true by unfold bt; rw [hra]; exact b1)
        have hnot := Lib.hid (show k ∉ C.ch from fun h => by rw [Hch.out] at h; exact Nat.lt_irrefl _ (bsUp_lt h))
        by_cases hn : C.ch.length < 8
        · as_aux_lemma =>
            have hys := Lib.hid (show ((fillRow 7).take 5).length = 5 by rw [List.length_take, fillRow, part_len]; rfl)
            go_wp2_with (first | (go_at_call 8; refine (fill_ok 7 (by omega)).mono ?_; rintro e w4 ⟨rfl, hrow, hk4⟩; have HC4 := Lib.hid (HC1.out.kp0 hk4); have hsl := Lib.hid ((fill_sl hrow).take (m := 5) (by rw [fillRow, part_len]; omega)); clear hrow hk4) | (go_at_call 10; refine (cache_Write_ok HC4.out.rep (by rw [HD.out]; rfl) (k : Nat) 0 (by omega) (by rw [Hbl.out]; omega) (by omega) _ _ hsl.out (by rw [hys.out]; omega) (.inr (by rw [Hmost.out]; exact hn))).mono ?_; rintro e w5 ⟨rfl, F5, hr5, hk5, hg5⟩; have HC5 := Lib.hid (HC4.out.step hr5 hk5 hg5); clear hr5 hk5 hg5))
            go_roundw
            case rel => exact ⟨k + 1, F5, _, by go_num, by omega, HC5.out, HD.out, Hmost.out, Hbl.out, Hjat.out, by simp only [CSt.wr, Int.toNat_natCast]; rw [if_neg hnot.out, Hch.out, bsUp_yes hbt.out (by rw [← Hch.out]; exact hn)], fun no hno => by
              simp only [CSt.wr, Int.toNat_natCast] at hno ⊢
              by_cases e : no = k
              · subst e
                rw [if_pos rfl, CSt.view, if_neg hnot.out, HD.out]; rfl
              · rw [if_neg e]
                rw [if_neg hnot.out] at hno
                rcases List.mem_append.1 hno with h | h
                · exact Hcont.out no h
                · simp at h; exact absurd h e⟩
            case measure => simp [intOf]; omega
        · as_aux_lemma =>
            have hch8 := Lib.hid (show C.chs.length = 8 by rw [C.chs_perm.length_eq]; have := bsUp_le a k; rw [← Hch.out] at this; omega)
            have hys := Lib.hid (show ((fillRow 7).take 5).length = 5 by rw [List.length_take, fillRow, part_len]; rfl)
            go_wp2_with (first | (go_at_call 8; refine (fill_ok 7 (by omega)).mono ?_; rintro e w4 ⟨rfl, hrow, hk4⟩; have HC4 := Lib.hid (HC1.out.kp0 hk4); have hsl := Lib.hid ((fill_sl hrow).take (m := 5) (by rw [fillRow, part_len]; omega)); clear hrow hk4) | (go_at_call 10; refine (cache_Write_big HC4.out.rep k 0 (by rw [Hbl.out]; omega) _ _ hsl.out (by rw [hys.out]; omega) hnot.out (by rw [Hmost.out]; omega) (by omega)).mono ?_; rintro e w5 ⟨v5, rfl, hv5, hk5⟩; obtain ⟨t5, x5, rfl⟩ := hv5.iface; have HC5 := Lib.hid (HC4.out.kp0 hk5); clear hv5 hk5) | (go_at_call 15; refine (cache_Changed_ok HC5.out.rep).mono ?_; rintro e w6 ⟨v6, rfl, hv6, hk6⟩; obtain ⟨A6, rfl, _, _⟩ := hv6; rw [hch8.out]; have HC6 := Lib.hid (HC5.out.kp0 hk6); clear hk6))
            go_roundw
            case rel => exact ⟨k + 1, F1, C, by go_num, by omega, HC6.out, HD.out, Hmost.out, Hbl.out, Hjat.out, by rw [Hch.out, bsUp_full (by rw [← Hch.out]; omega)], Hcont.out⟩
            case measure => simp [intOf]; omega
      · as_aux_lemma =>
          have b1 : ((q : Int) == 1) = false := by simp; omega
          have hbt := Lib.hid (show bt a k = false by unfold bt; rw [hra]; exact b1)
          go_wp2_with fail
          go_roundw
          case rel => exact ⟨k + 1, F1, C, by go_num, by omega, HC1.out, HD.out, Hmost.out, Hbl.out, Hjat.out, by rw [Hch.out, bsUp_no hbt.out], Hcont.out⟩
          case measure => simp [intOf]; omega
    · have hz : ¬ (k : Int) < 12 := by omega
      obtain rfl : k = 12 := by omega
      have hlive : C.D.dead = false := by rw [HD.out]; rfl
      have hfuse : C.D.fuse ≤ 0 := by rw [HD.out]; show (-1 : Int) ≤ 0; omega
      have HCA := Lib.hid (C.commit_alive hlive hfuse)
      have HFA := Lib.hid (C.flush_alive hlive hfuse)
      have hrow : ∀ j, j ∈ bsUp a 12 → C.flush.D.row j = R0 := fun j hj => by
        rw [HFA.out]
        show C.commit.2.row j = R0
        rw [C.flush_row hlive hfuse HC1.out.rep.nd j (by rw [Hjat.out]; have := bsUp_lt hj; omega), CSt.view, if_pos (by rw [Hch.out]; exact hj)]
        exact Hcont.out j (by rw [Hch.out]; exact hj)
      have h20 : C.flush.D.row 20 = zs 128 := by
        rw [HFA.out]
        show C.commit.2.row 20 = _
        exact runs_row20 hlive hfuse (by rw [HD.out]; rfl) Hjat.out
      have hC3 : C.flush.D.dead = false ∧ C.flush.D.fuse = -1 ∧ C.flush.D.n = 60 ∧ C.flush.ch = [] ∧ C.flush.most = 8 ∧ C.flush.blocks = 12 ∧ C.flush.jat = 20 := by
        rw [HFA.out]
        exact ⟨HCA.out.2.1, HCA.out.2.2.1.trans (by rw [HD.out]; rfl), HCA.out.2.2.2.trans (by rw [HD.out]; rfl), rfl, Hmost.out, Hbl.out, Hjat.out⟩
      have HT := Lib.hid (cache_Flush HC1.out.rep (by rw [HD.out]; exact ⟨by decide, by decide⟩) (by rw [Hbl.out, Hjat.out]; omega) (by rw [Hjat.out, Hmost.out, HD.out]; decide))
      have Hrow := Lib.hid hrow
      have H20 := Lib.hid h20
      have H3 := Lib.hid hC3
      clear hlive hfuse hrow h20 hC3
      go_wp2_with fail
      refine HT.out.mono ?_
      rintro e w3 ⟨u3, rfl, hu3, F3, hr3, hk3, hg3⟩
      rw [HCA.out.1] at hu3
      have hu3' : u3 = .nilIface := hu3
      subst hu3'
      have HC3 := Lib.hid (HC1.out.step hr3 hk3 hg3)
      clear hu3 hr3 hk3 hg3 HT HFA HCA
      generalize C.flush = C3 at *
      go_wp2_with fail
      obtain ⟨x0, hx0⟩ : ∃ x0, IntKind.u8.wrap s = x0 := ⟨_, rfl⟩
      obtain ⟨y0, hy0⟩ : ∃ y0, wrap64 (s + 1) % 256 = y0 := ⟨_, rfl⟩
      go_loopw [10, 11] (fun x y wr => ∃ k F C, x = .int .i64 (C.ch.length : Nat) ∧ y = .int .i64 (k : Nat) ∧ k ≤ 12 ∧ CR w bc bj bm bd C F wr ∧ C.D = C3.D ∧ C.most = 8 ∧ C.blocks = 12 ∧ C.jat = 20 ∧ C.ch = bsUp a k ∧ (∀ no ∈ C.ch, C.cont no = R1 x0 y0)) (fun _ y _ => 12 - (intOf y).toNat)
      case atStart => exact ⟨0, F3, C3, by rw [H3.out.2.2.2.1]; rfl, rfl, by omega, HC3.out, rfl, H3.out.2.2.2.2.1, H3.out.2.2.2.2.2.1, H3.out.2.2.2.2.2.2, by rw [H3.out.2.2.2.1]; rfl, fun no h => by rw [H3.out.2.2.2.1] at h; cases h⟩
      case round =>
        obtain ⟨k, F2, C2, rfl, rfl, hk, hC, hD, hmost, hbl, hjat, hch, hcont⟩ := hrel
        have HC4 := Lib.hid hC
        have HD2 := Lib.hid hD
        have Hmost2 := Lib.hid hmost
        have Hbl2 := Lib.hid hbl
        have Hjat2 := Lib.hid hjat
        have Hch2 := Lib.hid hch
        have Hcont2 := Lib.hid hcont
        clear hC hD hmost hbl hjat hch hcont
        by_cases hkl : k < 12 ∧ C2.ch.length < 8
        · obtain ⟨hlt2, hl8⟩ := hkl
          have hz : (k : Int) < 12 := by omega
          have hz0 : (0 : Int) ≤ (k : Int) := by omega
          have hzl : (C2.ch.length : Int) < 8 := by omega
          obtain ⟨q, hra, hq1⟩ := bt_one a k
          by_cases h1 : q = 1
          · have b1 : ((q : Int) == 1) = true := by simp [h1]
            as_aux_lemma =>
              have hbt := Lib.hid (show bt a k = true by unfold bt; rw [hra]; exact b1)
              have hnot := Lib.hid (show k ∉ C2.ch from fun h => by rw [Hch2.out] at h; exact Nat.lt_irrefl _ (bsUp_lt h))
              have hw2 : (C2.wr k 3 [x0, y0]).ch = C2.ch ++ [k] := by unfold CSt.wr; rw [if_neg hnot.out]
              have hv2 : C2.view k = R0 := by
                rw [CSt.view, if_neg hnot.out, HD2.out]
                exact Hrow.out k (by
                  have := bsUp_mono (a := a) (12 - (k + 1)) k (by rw [bsUp_yes hbt.out (by rw [← Hch2.out]; exact hl8)]; simp)
                  rw [show k + 1 + (12 - (k + 1)) = 12 by omega] at this
                  exact this)
              have Hw2 := Lib.hid hw2
              have Hv2 := Lib.hid hv2
              clear hw2 hv2
              go_wp2_with fail
              have HC5 := Lib.hid (HC4.out.kp0 ((Kp.refl _ _).alloc (.cells #[.int .u8 x0, .int .u8 y0] 5)))
              refine (cache_Write_ok HC5.out.rep (by rw [HD2.out]; exact H3.out.1) (k : Nat) 3 (by omega) (by rw [Hbl2.out]; omega) (by omega) _ [x0, y0] (sl_lit wr [x0, y0] 0 0 (by simp [maxLen])) (by simp) (.inr (by rw [Hmost2.out]; exact hl8))).mono ?_
              rintro e w5 ⟨rfl, F5, hr5, hk5, hg5⟩
              have HC6 := Lib.hid (HC5.out.step hr5 hk5 hg5)
              clear hr5 hk5 hg5
              go_wp2_with fail
              go_roundw
              case rel => exact ⟨k + 1, F5, C2.wr k 3 [x0, y0], by rw [Hw2.out, List.length_append]; go_num, by go_num, by omega, HC6.out, HD2.out, Hmost2.out, Hbl2.out, Hjat2.out, by rw [Hw2.out, Hch2.out, bsUp_yes hbt.out (by rw [← Hch2.out]; exact hl8)], fun no hno => by
                rw [Hw2.out] at hno
                unfold CSt.wr
                by_cases e : no = k
                · subst e
                  simp only [if_true]
                  rw [Hv2.out]; rfl
                · simp only [if_neg e]
                  rcases List.mem_append.1 hno with h | h
                  · exact Hcont2.out no h
                  · simp at h; exact absurd h e⟩
              case measure => simp [intOf]; omega
          · as_aux_lemma =>
              have b1 : ((q : Int) == 1) = false := by simp; omega
              have hbt := Lib.hid (show bt a k = false by unfold bt; rw [hra]; exact b1)
              go_wp2_with fail
              go_roundw
              case rel => exact ⟨k + 1, F2, C2, rfl, by go_num, by omega, HC4.out, HD2.out, Hmost2.out, Hbl2.out, Hjat2.out, by rw [Hch2.out, bsUp_no hbt.out], Hcont2.out⟩
              case measure => simp [intOf]; omega
        · have hend : C2.ch = bsUp a 12 := by
            rw [Hch2.out]
            by_cases h12 : k < 12
            · have := bsUp_end (a := a) (k := k) (by rw [← Hch2.out]; omega) (12 - k)
              rw [show k + (12 - k) = 12 by omega] at this
              exact this.symm
            · rw [show k = 12 by omega]
          have Hend := Lib.hid hend
          clear hend
          go_upto_region 13 with fail
          go_cut [58] from 59 to 203 (fun x W => x = .bool false ∧ W = wr)
          case first =>
            as_aux_lemma =>
              by_cases h12 : k < 12
              · have hz : (k : Int) < 12 := by omega
                have hzl : ¬ (C2.ch.length : Int) < 8 := by omega
                go_wp2_with fail
                go_meet
                exact ⟨rfl, rfl⟩
              · have hz : ¬ (k : Int) < 12 := by omega
                go_wp2_with fail
                go_meet
                exact ⟨rfl, rfl⟩
          case rest =>
            obtain ⟨rfl, rfl⟩ := hcut
            by_cases hl0 : C2.ch.length = 0
            · have hle : ((C2.ch.length : Int) == 0) = true := by simp; exact List.eq_nil_of_length_eq_zero hl0
              as_aux_lemma =>
                clear hl0
                go_wp2_with (go_at_call 6; refine (awake5_ok (Hg.out.kp HC4.out.kp Hi.none) (He.out.kp HC4.out.kp Hi.none) (Nat.le_trans Hng.out HC4.out.kp.size)).mono ?_; rintro e w9 ⟨rfl, hk9⟩; have HC9 := Lib.hid (HC4.out.kp0 hk9); clear hk9)
                go_ret
                exact ⟨rfl, HC9.out.kp⟩
            · have hle : ((C2.ch.length : Int) == 0) = false := by simp; exact fun h => hl0 (by rw [h]; rfl)
              obtain ⟨m, hm, hm31⟩ := and_nat t 31 (by decide)
              simp only [Int.cast_ofNat_Int] at hm
              go_wp2_with (go_at_call 17; refine (disk_FuseD HC4.out.rep.disk (m : Nat) (by omega)).mono ?_; rintro e w7 ⟨rfl, hr7, hk7, hd7⟩; have HC7 := Lib.hid (HC4.out.step (HC4.out.rep.disk' hr7 hd7 hk7.size rfl) hk7 (fun _ h => .inl (h.elim id id))); clear hr7 hk7 hd7)
              obtain ⟨C4, hC4⟩ : ∃ C4 : CSt, C4 = { C2 with D := C2.D.fused (m : Nat) } := ⟨_, rfl⟩
              have g1 : C4.ch = bsUp a 12 := by rw [hC4]; exact Hend.out
              have g2 : ∀ no ∈ C4.ch, C4.cont no = R1 x0 y0 := by rw [hC4]; exact Hcont2.out
              have g3 : ∀ k, C4.D.row k = C3.D.row k := fun k => by rw [hC4, ← HD2.out]; rfl
              have g4 : C4.D.n = 60 := by rw [hC4]; show C2.D.n = 60; rw [HD2.out]; exact H3.out.2.2.1
              have g5 : C4.most = 8 ∧ C4.blocks = 12 ∧ C4.jat = 20 := by rw [hC4]; exact ⟨Hmost2.out, Hbl2.out, Hjat2.out⟩
              have g6 : C4.D.Fz := by rw [hC4]; show (C2.D.fused (m : Nat)).Fz; unfold DSt.Fz DSt.fused; simp only []; omega
              have g7 : C4.group.length = C4.ch.length := by rw [CSt.group_len, C4.chs_perm.length_eq]
              have g8 : C4.ch.length ≠ 0 := by rw [hC4]; exact hl0
              have g9 : C4.group ≠ [] := fun e => g8 (by rw [← g7, e]; rfl)
              have g10 : C4.commit = C4.D.runs (cwOf 20 C4.group) := by rw [CSt.commit, if_neg g9, g5.2.2]
              have g11 : C4.flush.D = C4.commit.2 := by unfold CSt.flush; split <;> rfl
              have g12 : C4.ch.length ≤ 8 := by rw [g1]; exact bsUp_le a 12
              have g13 : C2.ch.length = (bsUp a 12).length := by rw [Hend.out]
              have HC7' := Lib.hid (show CR w bc bj bm bd C4 _ w7 from hC4 ▸ HC7.out)
              have HT2 := Lib.hid (cache_Flush HC7'.out.rep g6 (by rw [g5.2.1, g5.2.2]; omega) (by rw [g5.2.2, g5.1, g4]; decide))
              have HO := Lib.hid (fun (W : World) (F : Nat → Prop) (h : DRep W bd C4.flush.D.power F) => open_dies (C := C4) (F := F) (w := W) (by rw [← g10, ← g11]; exact h) (by rw [g3]; exact H20.out) g4 g5.2.2 (fun no h => by rw [g1] at h; exact bsUp_lt h) HC7'.out.rep.nd g9 (fun no h => by rw [g2 no h]; exact R1_len _ _) (by rw [g7]; exact g12))
              have hview : ∀ k, k ∈ bsUp a 12 → C4.view k = R1 x0 y0 := fun k hk => by rw [CSt.view, if_pos (by rw [g1]; exact hk)]; exact g2 k (by rw [g1]; exact hk)
              have hold : ∀ k, k ∈ bsUp a 12 → C4.D.row k = R0 := fun k hk => (g3 k).trans (Hrow.out k hk)
              have Hview := Lib.hid hview
              have Hold := Lib.hid hold
              have G10 := Lib.hid g10
              have G13 := Lib.hid g13
              have hl8 : (bsUp a 12).length ≤ 8 := bsUp_le a 12
              clear hview hold g1 g2 g3 g4 g5 g6 g7 g8 g9 g10 g11 g12 g13 HC7 hC4
              refine HT2.out.mono ?_
              rintro e w8 ⟨u, rfl, hu, F8, hr8, hk8, hg8⟩
              have HC8 := Lib.hid (HC7'.out.step hr8 hk8 hg8)
              rw [G10.out] at hu
              have hue : (u = .nilIface ∧ (C4.D.runs (cwOf 20 C4.group)).1 = none) ∨ ∃ o p, IsErr w8 u [(tx [99, 97, 99, 104, 101], tx []), (tx [106, 111, 117, 114, 110, 97, 108], tx []), (o, p)] 50 := by
                rcases runs_err (cwOf 20 C4.group) C4.D with h | ⟨o, p, h⟩
                · rw [h] at hu; exact .inl ⟨hu, h⟩
                · rw [h] at hu; exact .inr ⟨o, p, hu⟩
              have Hue := Lib.hid hue
              clear hu hr8 hk8 hg8 hue HT2
              go_upto_region 23 with fail
              go_cut [93] from 94 to 203 (fun x W => x = .bool false ∧ Kp (fun _ => False) w8 W)
              case first =>
                as_aux_lemma =>
                  rcases Hue.out with ⟨rfl, _⟩ | ⟨o, p, hi⟩
                  · go_wp2_with fail
                    go_meet
                    exact ⟨rfl, Kp.refl _ _⟩
                  · obtain ⟨t5, x5, rfl⟩ := hi.iface
                    have Hi5 := Lib.hid hi
                    clear hi
                    go_wp2_with (go_at_call 9; refine (law_Is Hi5.out (by decide) (He.out.kp HC8.out.kp Hi.none)).mono ?_; rintro e w9 ⟨rfl, hk9⟩; have Hk9 := Lib.hid hk9; clear hk9)
                    go_meet
                    exact ⟨rfl, Hk9.out⟩
              case rest =>
                obtain ⟨rfl, hk9⟩ := hcut
                have HC9 := Lib.hid (HC8.out.kp0 hk9)
                have hun : u = .nilIface ∧ (C4.D.runs (cwOf 20 C4.group)).1 = none ∨ ∃ t5 x5, u = .iface t5 x5 := by
                  rcases Hue.out with h | ⟨o, p, hi⟩
                  · exact .inl h
                  · exact .inr hi.iface
                have Hun := Lib.hid hun
                clear hk9 hun Hue HC8
                generalize wc = w9 at *
                go_wp2_with (first | (go_at_call 18; refine (disk_Power HC9.out.rep.disk).mono ?_; rintro e w10 ⟨rfl, hr10, hk10⟩; have Hr10 := Lib.hid hr10; have Hk10 := Lib.hid (HC9.out.kp.over hk10 HC9.out.hi); clear hr10 hk10) | (go_at_call 19; refine (HO.out _ _ Hr10.out).mono ?_; rintro e w11 ⟨bj2, D3, F11, rfl, hj11, hr11, hn11, hd11, hc11, hk11⟩; have Hj := Lib.hid hj11; have Hr := Lib.hid hr11; have Hk11 := Lib.hid (Hk10.out.over hk11 HC9.out.hi); have Hc := Lib.hid hc11; clear hj11 hr11 hk11 hc11))
                obtain ⟨z, hz1, hz2⟩ : ∃ z : Bool, (∀ k, k ∈ bsUp a 12 → D3.row k = if z then R1 x0 y0 else R0) ∧ (z = false → ∃ t5 x5, u = .iface t5 x5) := by
                  rcases Hc.out with ⟨h1, h2⟩ | h1
                  · exact ⟨false, fun k hk => (h2 k (bsUp_lt hk)).trans (Hold.out k hk), fun _ => by
                      rcases Hun.out with ⟨_, h⟩ | h
                      · exact absurd h h1
                      · exact h⟩
                  · exact ⟨true, fun k hk => (h1 k (bsUp_lt hk)).trans (Hview.out k hk), fun h => by cases h⟩
                obtain ⟨b3, hb3⟩ : ∃ b3 : Int, b3 = if z then x0 else 7 := ⟨_, rfl⟩
                obtain ⟨b4, hb4⟩ : ∃ b4 : Int, b4 = if z then y0 else 7 := ⟨_, rfl⟩
                have hrow3 : ∀ k, k ∈ bsUp a 12 → (D3.row k)[3]? = some b3 ∧ (D3.row k)[4]? = some b4 ∧ (D3.row k).take 3 = [7, 7, 7] ∧ (D3.row k).length = 128 := fun k hk => by
                  rw [hz1 k hk, hb3, hb4]
                  cases z
                  · exact ⟨R0_3.1, R0_3.2.1, R0_3.2.2, R0_len⟩
                  · exact ⟨(R1_3 x0 y0).1, (R1_3 x0 y0).2.1, (R1_3 x0 y0).2.2, R1_len x0 y0⟩
                obtain ⟨fl, hfl⟩ : ∃ fl : Bool, fl = decide (b3 = x0 ∧ b4 = y0) := ⟨_, rfl⟩
                have Hrow3 := Lib.hid hrow3
                have Hz2 := Lib.hid hz2
                have Hb3 := Lib.hid hb3
                have Hb4 := Lib.hid hb4
                have Hfl := Lib.hid hfl
                have Hn11 := Lib.hid hn11
                have Hd11 := Lib.hid hd11
                clear hz1 hz2 hb3 hb4 hrow3 hfl hn11 hd11 Hc Hun Hview Hold HO Hk10 Hr10
                go_loopw [15, 16, 17] (fun x y v W => ∃ k dn : Nat, x = .int .i64 (dn : Nat) ∧ dn = (if fl then (bsUp a k).length else 0) ∧ y = .int .i64 ((bsUp a k).length : Nat) ∧ v = .int .i64 (k : Nat) ∧ k ≤ 12 ∧ Kp (fun _ => False) w11 W) (fun _ _ v _ => 12 - (intOf v).toNat)
                case atStart => exact ⟨0, 0, rfl, by cases fl <;> rfl, rfl, rfl, by omega, Kp.refl _ _⟩
                case round =>
                  obtain ⟨k, dn, rfl, hdn, rfl, rfl, hk, hkp⟩ := hrel
                  have Hkp := Lib.hid hkp
                  have Hdn := Lib.hid hdn
                  have hdn8 : dn ≤ 8 := by
                    have := bsUp_le a k
                    rw [hdn]; split <;> omega
                  clear hkp hdn
                  by_cases hkl : k < 12 ∧ (bsUp a k).length < 8
                  · obtain ⟨hlt, hl8⟩ := hkl
                    have hz : (k : Int) < 12 := by omega
                    have hz0 : (0 : Int) ≤ (k : Int) := by omega
                    have hzl : ((bsUp a k).length : Int) < 8 := by omega
                    obtain ⟨q, hra, hq1⟩ := bt_one a k
                    by_cases h1 : q = 1
                    · have b1 : ((q : Int) == 0) = false := by simp; omega
                      have hbt := Lib.hid (show bt a k = true by unfold bt; rw [hra, h1]; rfl)
                      have hsucc := Lib.hid (bsUp_yes hbt.out hl8)
                      have hmem := Lib.hid (show k ∈ bsUp a 12 by
                        have := bsUp_mono (a := a) (12 - (k + 1)) k (by rw [hsucc.out]; simp)
                        rw [show k + 1 + (12 - (k + 1)) = 12 by omega] at this
                        exact this)
                      go_upto_region 36 with (go_at_call 20; refine (journal_Read_ok (Hkp.out.blk Hj.out (fun h => h)) (Hr.out.kp0 Hkp.out) (k : Nat) (by omega) (by rw [Hn11.out]; omega) Hd11.out).mono ?_; rintro e w12 ⟨rfl, hr12, hk12⟩; have Hr12 := Lib.hid hr12; have Hkp2 := Lib.hid (Hkp.out.trans hk12 (Gr.refl _ _)); clear hr12 hk12)
                      obtain ⟨gr, hgr⟩ : ∃ gr, wr.heap.size = gr := ⟨_, rfl⟩
                      have hr12 := Hr12.out
                      rw [hgr, Int.toNat_natCast] at hr12
                      rw [hgr]
                      obtain ⟨r3, r4, r5, rl⟩ := Hrow3.out k hmem.out
                      have hsl : Sl w12 (.slice (some ⟨gr, 0, none⟩) 128 128) (D3.row k) := by
                        have := hr12.sl (by rw [rl]; simp [maxLen])
                        rw [rl] at this; exact this
                      have hc3 := conv_str (hsl.take (m := 3) (by rw [rl]; omega))
                      have Hsl3 := Lib.hid (hsl.take (m := 3) (by rw [rl]; omega))
                      rw [r5] at Hsl3
                      have c3 := hr12.row.cells 3 (.int .u8 b3) (by simp [bs, r3])
                      have c4 := hr12.row.cells 4 (.int .u8 b4) (by simp [bs, r4])
                      rw [add0'] at c3 c4
                      clear hsl hc3 hr12 Hr12 hgr r3 r4 r5 rl
                      go_cut [138] from 128 to 171 (fun x W => x = .bool false ∧ Kp (fun _ => False) w12 W)
                      case first =>
                        as_aux_lemma =>
                          obtain ⟨s7, hs7⟩ : ∃ s7, s7 = str [7, 7, 7] := ⟨_, rfl⟩
                          have hcv : ∀ W : World, Kp (fun _ => False) w12 W → (convert 29 9 (.slice (some ⟨gr, 0, none⟩) 3 128)).run Tryz.prog W = .ok (.string s7) W := fun W hW => by rw [hs7]; exact conv_str (Hsl3.out.kp hW (fun _ _ h => h))
                          have Hs7 := Lib.hid hs7
                          clear hs7 c3 c4
                          refine wp_region_held_drew (S := fun W => Kp (fun _ => False) w12 W) (by kernel_rfl) ((Kp.refl _ _).drew) (fun hHeld => ?_)
                          apply wpAnyH_take (i := 0) (v := .nilIface)
                          case hi => (simp only [List.getElem?_toArray, List.getElem?_cons_zero, List.getElem?_cons_succ]; rfl)
                          case hs => kernel_rfl
                          case hf => kernel_rfl
                          case hr => kernel_rfl
                          case hQ => exact fun _ _ _ h => h
                          case hS => exact hHeld
                          case hy =>
                            refine Or.inl ⟨rfl, ?_⟩
                            intro w hSw
                            go_simp
                          try simp only [Act.put, List.setIfInBounds_toArray, List.set_cons_zero, List.set_cons_succ]
                          apply wpAnyH_take (i := 1) (v := .bool false)
                          case hi => (simp only [List.getElem?_toArray, List.getElem?_cons_zero, List.getElem?_cons_succ]; rfl)
                          case hs => kernel_rfl
                          case hf => kernel_rfl
                          case hr => kernel_rfl
                          case hQ => exact fun _ _ _ h => h
                          case hS => exact hHeld
                          case hy =>
                            refine Or.inl ⟨rfl, ?_⟩
                            intro w hSw
                            go_simp
                          try simp only [Act.put, List.setIfInBounds_toArray, List.set_cons_zero, List.set_cons_succ]
                          apply wpAnyH_take (i := 2) (v := .bool false)
                          case hi => (simp only [List.getElem?_toArray, List.getElem?_cons_zero, List.getElem?_cons_succ]; rfl)
                          case hs => kernel_rfl
                          case hf => kernel_rfl
                          case hr => kernel_rfl
                          case hQ => exact fun _ _ _ h => h
                          case hS => exact hHeld
                          case hy =>
                            refine Or.inl ⟨rfl, ?_⟩
                            intro w hSw
                            go_simp
                          try simp only [Act.put, List.setIfInBounds_toArray, List.set_cons_zero, List.set_cons_succ]
                          apply wpAnyH_take (i := 3) (v := .slice (some ⟨gr, 0, none⟩) 128 128)
                          case hi => (simp only [List.getElem?_toArray, List.getElem?_cons_zero, List.getElem?_cons_succ]; rfl)
                          case hs => kernel_rfl
                          case hf => kernel_rfl
                          case hr => kernel_rfl
                          case hQ => exact fun _ _ _ h => h
                          case hS => exact hHeld
                          case hy =>
                            refine Or.inl ⟨rfl, ?_⟩
                            intro w hSw
                            go_simp
                          try simp only [Act.put, List.setIfInBounds_toArray, List.set_cons_zero, List.set_cons_succ]
                          apply wpAnyH_take (i := 4) (v := .slice (some ⟨gr, 0, none⟩) 3 128)
                          case hi => (simp only [List.getElem?_toArray, List.getElem?_cons_zero, List.getElem?_cons_succ]; rfl)
                          case hs => kernel_rfl
                          case hf => kernel_rfl
                          case hr => kernel_rfl
                          case hQ => exact fun _ _ _ h => h
                          case hS => exact hHeld
                          case hy =>
                            refine Or.inl ⟨rfl, ?_⟩
                            intro w hSw
                            go_simp
                          try simp only [Act.put, List.setIfInBounds_toArray, List.set_cons_zero, List.set_cons_succ]
                          apply wpAnyH_take (i := 5) (v := .string s7)
                          case hi => (simp only [List.getElem?_toArray, List.getElem?_cons_zero, List.getElem?_cons_succ]; rfl)
                          case hs => kernel_rfl
                          case hf => kernel_rfl
                          case hr => kernel_rfl
                          case hQ => exact fun _ _ _ h => h
                          case hS => exact hHeld
                          case hy =>
                            refine Or.inl ⟨rfl, ?_⟩
                            intro w hSw
                            go_simp
                          try simp only [Act.put, List.setIfInBounds_toArray, List.set_cons_zero, List.set_cons_succ]
                          refine wpAnyH_ready (rs := [6]) (by kernel_rfl) (by simp) ?_
                          refine AllReadyH.cons rfl (fun K hK => ?_) AllReadyH.nil
                          rw [if_pos (by rfl)]
                          go_simp
                          refine (fill_ok 7 (by omega)).mono ?_
                          rintro e w6 ⟨rfl, hr6, hk6⟩
                          have hcf : (convert 29 9 (.slice (some ⟨w12.heap.size, 0, none⟩) 3 128)).run Tryz.prog w6 = .ok (.string s7) w6 := conv_fill3 hr6 Hs7.out
                          have hk66 : Kp (fun _ => False) w12 w6 := (Kp.drew (Kp.refl _ _)).trans hk6 (Gr.refl _ _)
                          clear hr6 hk6
                          refine hK.out _ _ ?_ (fun hHeld => ?_)
                          · exact hk66
                          clear hK K
                          try simp only [Act.put, List.setIfInBounds_toArray, List.set_cons_zero, List.set_cons_succ]
                          apply wpAnyH_take (i := 7) (v := .slice (some ⟨w12.heap.size, 0, none⟩) 3 128)
                          case hi => (simp only [List.getElem?_toArray, List.getElem?_cons_zero, List.getElem?_cons_succ]; rfl)
                          case hs => kernel_rfl
                          case hf => kernel_rfl
                          case hr => kernel_rfl
                          case hQ => exact fun _ _ _ h => h
                          case hS => exact hHeld
                          case hy =>
                            refine Or.inl ⟨rfl, ?_⟩
                            intro w hSw
                            go_simp
                          try simp only [Act.put, List.setIfInBounds_toArray, List.set_cons_zero, List.set_cons_succ]
                          refine wpAnyH_ready (rs := [8]) (by kernel_rfl) (by simp) ?_
                          refine AllReadyH.cons rfl (fun K hK => ?_) AllReadyH.nil
                          rw [if_pos (by rfl)]
                          go_simp
                          refine hK.out _ _ ?_ (fun hHeld => ?_)
                          · exact hk66
                          clear hK K
                          try simp only [Act.put, List.setIfInBounds_toArray, List.set_cons_zero, List.set_cons_succ]
                          apply wpAnyH_take (i := 9) (v := .bool false)
                          case hi => (simp only [List.getElem?_toArray, List.getElem?_cons_zero, List.getElem?_cons_succ]; rfl)
                          case hs => kernel_rfl
                          case hf => kernel_rfl
                          case hr => kernel_rfl
                          case hQ => exact fun _ _ _ h => h
                          case hS => exact hHeld
                          case hy =>
                            refine Or.inl ⟨rfl, ?_⟩
                            intro w hSw
                            go_simp
                          try simp only [Act.put, List.setIfInBounds_toArray, List.set_cons_zero, List.set_cons_succ]
                          apply wpAnyH_take (i := 10) (v := .bool false)
                          case hi => (simp only [List.getElem?_toArray, List.getElem?_cons_zero, List.getElem?_cons_succ]; rfl)
                          case hs => kernel_rfl
                          case hf => kernel_rfl
                          case hr => kernel_rfl
                          case hQ => exact fun _ _ _ h => h
                          case hS => exact hHeld
                          case hy =>
                            refine Or.inl ⟨rfl, ?_⟩
                            intro w hSw
                            go_simp
                          try simp only [Act.put, List.setIfInBounds_toArray, List.set_cons_zero, List.set_cons_succ]
                          refine wpAnyH_done (by kernel_rfl) ?_ _
                          go_wp2_with fail
                          go_meet
                          exact ⟨rfl, hk66⟩
                      case rest =>
                        obtain ⟨rfl, hk13⟩ := hcut
                        have c3' := hk13.cell c3 (fun h => h)
                        have c4' := hk13.cell c4 (fun h => h)
                        have Hkp3 := Lib.hid (Hkp2.out.trans hk13 (Gr.refl _ _))
                        have hsl1 : (bsUp a (k + 1)).length = (bsUp a k).length + 1 := by rw [hsucc.out]; simp
                        have Hsl1 := Lib.hid hsl1
                        clear hk13 c3 c4 Hkp2 Hsl3 hsl1
                        generalize wc = w13 at *
                        by_cases hbb : b3 = x0 ∧ b4 = y0
                        · as_aux_lemma =>
                            have d3 : (b3 == x0) = true := by simp [hbb.1]
                            have d4 : (b4 == y0) = true := by simp [hbb.2]
                            have hft := Lib.hid (show fl = true from Hfl.out.trans (decide_eq_true hbb))
                            clear hbb
                            go_wp2_with fail
                            go_roundw
                            case rel => exact ⟨k + 1, dn + 1, by go_num, by rw [Hdn.out, hft.out, Hsl1.out]; rfl, by rw [Hsl1.out]; go_num, by go_num, by omega, Hkp3.out⟩
                            case measure => simp [intOf]; omega
                        · have hff := Lib.hid (show fl = false from Hfl.out.trans (decide_eq_false hbb))
                          have hzf : z = false := by
                            cases hzz : z
                            · rfl
                            · exact absurd ⟨by rw [Hb3.out, hzz]; rfl, by rw [Hb4.out, hzz]; rfl⟩ hbb
                          obtain rfl : b3 = 7 := by rw [Hb3.out, hzf]; rfl
                          obtain rfl : b4 = 7 := by rw [Hb4.out, hzf]; rfl
                          go_upto_region 38 with fail
                          go_cut [153] from 154 to 171 (fun x W => x = .bool false ∧ W = w13)
                          case first =>
                            as_aux_lemma =>
                              by_cases e3 : (7 : Int) = x0
                              · have d3 : ((7 : Int) == x0) = true := by simp [← e3]
                                have d4 : ((7 : Int) == y0) = false := by simpa using fun e => hbb ⟨e3, e⟩
                                clear hbb e3
                                go_wp2_with fail
                                go_meet
                                exact ⟨rfl, rfl⟩
                              · have d3 : ((7 : Int) == x0) = false := by simpa using e3
                                clear hbb e3
                                go_wp2_with fail
                                go_meet
                                exact ⟨rfl, rfl⟩
                          case rest =>
                            obtain ⟨rfl, rfl⟩ := hcut
                            generalize wc = w13 at *
                            clear hbb
                            go_upto_region 40 with fail
                            go_cut [171] from 154 to 171 (fun x W => x = .bool false ∧ Kp (fun _ => False) w13 W)
                            case first =>
                              as_aux_lemma =>
                                have hl3 : ∀ W : World, Kp (fun _ => False) w13 W → W.cell? ⟨gr, 3, none⟩ = some (.int .u8 7) := fun W hW => hW.cell c3' (fun h => h)
                                have hl4 : ∀ W : World, Kp (fun _ => False) w13 W → W.cell? ⟨gr, 4, none⟩ = some (.int .u8 7) := fun W hW => hW.cell c4' (fun h => h)
                                refine wp_region_held_drew (S := fun W => Kp (fun _ => False) w13 W) (by kernel_rfl) ((Kp.refl _ _).drew) (fun hHeld => ?_)
                                apply wpAnyH_take (i := 0) (v := .slice (some ⟨gr, 0, none⟩) 128 128)
                                case hi => (simp only [List.getElem?_toArray, List.getElem?_cons_zero, List.getElem?_cons_succ]; rfl)
                                case hs => kernel_rfl
                                case hf => kernel_rfl
                                case hr => kernel_rfl
                                case hQ => exact fun _ _ _ h => h
                                case hS => exact hHeld
                                case hy =>
                                  refine Or.inl ⟨rfl, ?_⟩
                                  intro w hSw
                                  go_simp
                                try simp only [Act.put, List.setIfInBounds_toArray, List.set_cons_zero, List.set_cons_succ]
                                apply wpAnyH_take (i := 1) (v := .pointer (some ⟨gr, 3, none⟩))
                                case hi => (simp only [List.getElem?_toArray, List.getElem?_cons_zero, List.getElem?_cons_succ]; rfl)
                                case hs => kernel_rfl
                                case hf => kernel_rfl
                                case hr => kernel_rfl
                                case hQ => exact fun _ _ _ h => h
                                case hS => exact hHeld
                                case hy =>
                                  refine Or.inl ⟨rfl, ?_⟩
                                  intro w hSw
                                  go_simp
                                try simp only [Act.put, List.setIfInBounds_toArray, List.set_cons_zero, List.set_cons_succ]
                                apply wpAnyH_take (i := 2) (v := .int .u8 7)
                                case hi => (simp only [List.getElem?_toArray, List.getElem?_cons_zero, List.getElem?_cons_succ]; rfl)
                                case hs => kernel_rfl
                                case hf => kernel_rfl
                                case hr => kernel_rfl
                                case hQ => exact fun _ _ _ h => h
                                case hS => exact hHeld
                                case hy =>
                                  refine Or.inl ⟨rfl, ?_⟩
                                  intro w hSw
                                  go_simp
                                try simp only [Act.put, List.setIfInBounds_toArray, List.set_cons_zero, List.set_cons_succ]
                                refine wpAnyH_ready (rs := [3]) (by kernel_rfl) (by simp) ?_
                                refine AllReadyH.cons rfl (fun K hK => ?_) AllReadyH.nil
                                rw [if_pos (by rfl)]
                                go_simp
                                refine (fill_ok 7 (by omega)).mono ?_
                                rintro e w6 ⟨rfl, hr6, hk6⟩
                                have hcf : w6.cell? ⟨w13.heap.size, 3, none⟩ = some (.int .u8 7) := by have := hr6.row.cells 3 (.int .u8 7) (by rw [bs, List.getElem?_map, fill7 3 (by omega)]; rfl); rw [add0'] at this; exact this
                                have hk66 : Kp (fun _ => False) w13 w6 := (Kp.drew (Kp.refl _ _)).trans hk6 (Gr.refl _ _)
                                clear hr6 hk6
                                refine hK.out _ _ ?_ (fun hHeld => ?_)
                                · exact hk66
                                clear hK K
                                try simp only [Act.put, List.setIfInBounds_toArray, List.set_cons_zero, List.set_cons_succ]
                                apply wpAnyH_take (i := 4) (v := .pointer (some ⟨w13.heap.size, 3, none⟩))
                                case hi => (simp only [List.getElem?_toArray, List.getElem?_cons_zero, List.getElem?_cons_succ]; rfl)
                                case hs => kernel_rfl
                                case hf => kernel_rfl
                                case hr => kernel_rfl
                                case hQ => exact fun _ _ _ h => h
                                case hS => exact hHeld
                                case hy =>
                                  refine Or.inl ⟨rfl, ?_⟩
                                  intro w hSw
                                  go_simp
                                try simp only [Act.put, List.setIfInBounds_toArray, List.set_cons_zero, List.set_cons_succ]
                                refine wpAnyH_ready (rs := [5]) (by kernel_rfl) (by simp) ?_
                                refine AllReadyH.cons rfl (fun K hK => ?_) AllReadyH.nil
                                rw [if_pos (by rfl)]
                                go_simp
                                refine hK.out _ _ ?_ (fun hHeld => ?_)
                                · exact hk66
                                clear hK K
                                try simp only [Act.put, List.setIfInBounds_toArray, List.set_cons_zero, List.set_cons_succ]
                                apply wpAnyH_take (i := 6) (v := .bool false)
                                case hi => (simp only [List.getElem?_toArray, List.getElem?_cons_zero, List.getElem?_cons_succ]; rfl)
                                case hs => kernel_rfl
                                case hf => kernel_rfl
                                case hr => kernel_rfl
                                case hQ => exact fun _ _ _ h => h
                                case hS => exact hHeld
                                case hy =>
                                  refine Or.inl ⟨rfl, ?_⟩
                                  intro w hSw
                                  go_simp
                                try simp only [Act.put, List.setIfInBounds_toArray, List.set_cons_zero, List.set_cons_succ]
                                apply wpAnyH_take (i := 7) (v := .bool false)
                                case hi => (simp only [List.getElem?_toArray, List.getElem?_cons_zero, List.getElem?_cons_succ]; rfl)
                                case hs => kernel_rfl
                                case hf => kernel_rfl
                                case hr => kernel_rfl
                                case hQ => exact fun _ _ _ h => h
                                case hS => exact hHeld
                                case hy =>
                                  refine Or.inl ⟨rfl, ?_⟩
                                  intro w hSw
                                  go_simp
                                try simp only [Act.put, List.setIfInBounds_toArray, List.set_cons_zero, List.set_cons_succ]
                                apply wpAnyH_take (i := 8) (v := .slice (some ⟨gr, 0, none⟩) 128 128)
                                case hi => (simp only [List.getElem?_toArray, List.getElem?_cons_zero, List.getElem?_cons_succ]; rfl)
                                case hs => kernel_rfl
                                case hf => kernel_rfl
                                case hr => kernel_rfl
                                case hQ => exact fun _ _ _ h => h
                                case hS => exact hHeld
                                case hy =>
                                  refine Or.inl ⟨rfl, ?_⟩
                                  intro w hSw
                                  go_simp
                                try simp only [Act.put, List.setIfInBounds_toArray, List.set_cons_zero, List.set_cons_succ]
                                apply wpAnyH_take (i := 9) (v := .pointer (some ⟨gr, 4, none⟩))
                                case hi => (simp only [List.getElem?_toArray, List.getElem?_cons_zero, List.getElem?_cons_succ]; rfl)
                                case hs => kernel_rfl
                                case hf => kernel_rfl
                                case hr => kernel_rfl
                                case hQ => exact fun _ _ _ h => h
                                case hS => exact hHeld
                                case hy =>
                                  refine Or.inl ⟨rfl, ?_⟩
                                  intro w hSw
                                  go_simp
                                try simp only [Act.put, List.setIfInBounds_toArray, List.set_cons_zero, List.set_cons_succ]
                                apply wpAnyH_take (i := 10) (v := .int .u8 7)
                                case hi => (simp only [List.getElem?_toArray, List.getElem?_cons_zero, List.getElem?_cons_succ]; rfl)
                                case hs => kernel_rfl
                                case hf => kernel_rfl
                                case hr => kernel_rfl
                                case hQ => exact fun _ _ _ h => h
                                case hS => exact hHeld
                                case hy =>
                                  refine Or.inl ⟨rfl, ?_⟩
                                  intro w hSw
                                  go_simp
                                try simp only [Act.put, List.setIfInBounds_toArray, List.set_cons_zero, List.set_cons_succ]
                                refine wpAnyH_ready (rs := [11]) (by kernel_rfl) (by simp) ?_
                                refine AllReadyH.cons rfl (fun K hK => ?_) AllReadyH.nil
                                rw [if_pos (by rfl)]
                                go_simp
                                refine (fill_ok 7 (by omega)).mono ?_
                                rintro e w7a ⟨rfl, hr6, hk6⟩
                                have hcg : w7a.cell? ⟨w6.heap.size, 4, none⟩ = some (.int .u8 7) := by have := hr6.row.cells 4 (.int .u8 7) (by rw [bs, List.getElem?_map, fill7 4 (by omega)]; rfl); rw [add0'] at this; exact this
                                have hk77 : Kp (fun _ => False) w13 w7a := hk66.trans hk6 (Gr.refl _ _)
                                clear hr6 hk6
                                refine hK.out _ _ ?_ (fun hHeld => ?_)
                                · exact hk77
                                clear hK K
                                try simp only [Act.put, List.setIfInBounds_toArray, List.set_cons_zero, List.set_cons_succ]
                                apply wpAnyH_take (i := 12) (v := .pointer (some ⟨w6.heap.size, 4, none⟩))
                                case hi => (simp only [List.getElem?_toArray, List.getElem?_cons_zero, List.getElem?_cons_succ]; rfl)
                                case hs => kernel_rfl
                                case hf => kernel_rfl
                                case hr => kernel_rfl
                                case hQ => exact fun _ _ _ h => h
                                case hS => exact hHeld
                                case hy =>
                                  refine Or.inl ⟨rfl, ?_⟩
                                  intro w hSw
                                  go_simp
                                try simp only [Act.put, List.setIfInBounds_toArray, List.set_cons_zero, List.set_cons_succ]
                                refine wpAnyH_ready (rs := [13]) (by kernel_rfl) (by simp) ?_
                                refine AllReadyH.cons rfl (fun K hK => ?_) AllReadyH.nil
                                rw [if_pos (by rfl)]
                                go_simp
                                refine hK.out _ _ ?_ (fun hHeld => ?_)
                                · exact hk77
                                clear hK K
                                try simp only [Act.put, List.setIfInBounds_toArray, List.set_cons_zero, List.set_cons_succ]
                                apply wpAnyH_take (i := 14) (v := .bool false)
                                case hi => (simp only [List.getElem?_toArray, List.getElem?_cons_zero, List.getElem?_cons_succ]; rfl)
                                case hs => kernel_rfl
                                case hf => kernel_rfl
                                case hr => kernel_rfl
                                case hQ => exact fun _ _ _ h => h
                                case hS => exact hHeld
                                case hy =>
                                  refine Or.inl ⟨rfl, ?_⟩
                                  intro w hSw
                                  go_simp
                                try simp only [Act.put, List.setIfInBounds_toArray, List.set_cons_zero, List.set_cons_succ]
                                apply wpAnyH_take (i := 15) (v := .bool false)
                                case hi => (simp only [List.getElem?_toArray, List.getElem?_cons_zero, List.getElem?_cons_succ]; rfl)
                                case hs => kernel_rfl
                                case hf => kernel_rfl
                                case hr => kernel_rfl
                                case hQ => exact fun _ _ _ h => h
                                case hS => exact hHeld
                                case hy =>
                                  refine Or.inl ⟨rfl, ?_⟩
                                  intro w hSw
                                  go_simp
                                try simp only [Act.put, List.setIfInBounds_toArray, List.set_cons_zero, List.set_cons_succ]
                                refine wpAnyH_done (by kernel_rfl) ?_ _
                                go_wp2_with fail
                                go_meet
                                exact ⟨rfl, hk77⟩
                            case rest =>
                              obtain ⟨rfl, hk14⟩ := hcut
                              have Hkp4 := Lib.hid (Hkp3.out.trans hk14 (Gr.refl _ _))
                              clear hk14 c3' c4' Hkp3
                              go_wp2_with fail
                              go_roundw
                              case rel => exact ⟨k + 1, dn, rfl, by rw [Hdn.out, hff.out]; rfl, by rw [Hsl1.out]; go_num, by go_num, by omega, Hkp4.out⟩
                              case measure => simp [intOf]; omega
                    · as_aux_lemma =>
                        have b1 : ((q : Int) == 0) = true := by simp; omega
                        have hbt := Lib.hid (show bt a k = false by unfold bt; rw [hra]; simp; omega)
                        go_wp2_with fail
                        go_roundw
                        case rel => exact ⟨k + 1, dn, rfl, by rw [bsUp_no hbt.out]; exact Hdn.out, by rw [bsUp_no hbt.out], by go_num, by omega, Hkp.out⟩
                        case measure => simp [intOf]; omega
                  · have hend3 : bsUp a k = bsUp a 12 := by
                      by_cases h12 : k < 12
                      · have := bsUp_end (a := a) (k := k) (by omega) (12 - k)
                        rw [show k + (12 - k) = 12 by omega] at this
                        exact this.symm
                      · rw [show k = 12 by omega]
                    have Hend3 := Lib.hid hend3
                    clear hend3
                    go_upto_region 31 with fail
                    go_cut [112] from 113 to 203 (fun x W => x = .bool false ∧ W = wr)
                    case first =>
                      as_aux_lemma =>
                        by_cases h12 : k < 12
                        · have hz : (k : Int) < 12 := by omega
                          have hzl : ¬ ((bsUp a k).length : Int) < 8 := by omega
                          go_wp2_with fail
                          go_meet
                          exact ⟨rfl, rfl⟩
                        · have hz : ¬ (k : Int) < 12 := by omega
                          go_wp2_with fail
                          go_meet
                          exact ⟨rfl, rfl⟩
                    case rest =>
                      obtain ⟨rfl, rfl⟩ := hcut
                      replace Hdn := Lib.hid (show dn = (if fl then (bsUp a 12).length else 0) by rw [← Hend3.out]; exact Hdn.out)
                      have G14 := Lib.hid (show (dn : Int) = (C2.ch.length : Int) ∨ (dn : Int) = 0 by rw [Hdn.out, G13.out]; cases fl <;> simp)
                      have HKq := Hkp
                      clear hkl
                      by_cases hsm : x0 = 7 ∧ y0 = 7
                      · as_aux_lemma =>
                          have d3 : (x0 == 7) = true := by simp [hsm.1]
                          have d4 : (y0 == 7) = true := by simp [hsm.2]
                          clear hsm Hdn G14 G13
                          go_wp2_with (first | (go_at_call 8; refine (fill_ok 7 (by omega)).mono ?_; rintro e w6 ⟨rfl, hr6, hk6⟩; have c63 := fill7_c hr6 3 (by omega); have c64 := fill7_c hr6 4 (by omega); replace HKq := Lib.hid (HKq.out.trans hk6 (Gr.refl _ _)); clear hr6 hk6) | (go_at_call 6; refine (awake5_ok (Hg.out.kp (Hk11.out.trans HKq.out (Gr.refl _ _)) Hi.none) (He.out.kp (Hk11.out.trans HKq.out (Gr.refl _ _)) Hi.none) (Nat.le_trans Hng.out (Hk11.out.trans HKq.out (Gr.refl _ _)).size)).mono ?_; rintro e w9a ⟨rfl, hk9⟩; have Hend9 := Lib.hid ((Hk11.out.trans HKq.out (Gr.refl _ _)).trans hk9 (Gr.refl _ _)); clear hk9))
                          go_ret
                          exact ⟨rfl, Hend9.out⟩
                      · obtain ⟨sm, hsm'⟩ : ∃ sm : Bool, sm = ((x0 == 7) && (y0 == 7)) := ⟨_, rfl⟩
                        have hsf : ((x0 == 7) && (y0 == 7)) = false := by
                          rw [Bool.and_eq_false_iff]
                          by_cases e : x0 = 7
                          · right; simpa using fun e' => hsm ⟨e, e'⟩
                          · left; simpa using e
                        have Hsf := Lib.hid hsf
                        cases hzz : z
                        · -- nothing of it was done
                          obtain ⟨t5, x5, rfl⟩ := Hz2.out hzz
                          have hff : fl = false := by
                            rw [Hfl.out, Hb3.out, Hb4.out, hzz]
                            exact decide_eq_false fun h => hsm ⟨h.1.symm, h.2.symm⟩
                          have hd0 : dn = 0 := by rw [Hdn.out, hff]; rfl
                          subst hd0
                          as_aux_lemma =>
                            have hl1 : ((0 : Int) == (C2.ch.length : Int)) = false := by simpa using fun e : (0 : Int) = (C2.ch.length : Int) => hl0 (by omega)
                            clear hsf hsm' Hdn G14 G13 Hsf hff
                            by_cases e7 : x0 = 7
                            · have d3 : (x0 == 7) = true := by simp [e7]
                              by_cases e8 : y0 = 7
                              · exact absurd ⟨e7, e8⟩ hsm
                              · have d4 : (y0 == 7) = false := by simpa using e8
                                clear e7 e8 hsm
                                go_wp2_with (first | (go_at_call 8; refine (fill_ok 7 (by omega)).mono ?_; rintro e w6 ⟨rfl, hr6, hk6⟩; have c63 := fill7_c hr6 3 (by omega); have c64 := fill7_c hr6 4 (by omega); replace HKq := Lib.hid (HKq.out.trans hk6 (Gr.refl _ _)); clear hr6 hk6) | (go_at_call 6; refine (awake5_ok (Hg.out.kp (Hk11.out.trans HKq.out (Gr.refl _ _)) Hi.none) (He.out.kp (Hk11.out.trans HKq.out (Gr.refl _ _)) Hi.none) (Nat.le_trans Hng.out (Hk11.out.trans HKq.out (Gr.refl _ _)).size)).mono ?_; rintro e w9a ⟨rfl, hk9⟩; have Hend9 := Lib.hid ((Hk11.out.trans HKq.out (Gr.refl _ _)).trans hk9 (Gr.refl _ _)); clear hk9))
                                go_ret
                                exact ⟨rfl, Hend9.out⟩
                            · have d3 : (x0 == 7) = false := by simpa using e7
                              clear e7 hsm
                              go_wp2_with (first | (go_at_call 8; refine (fill_ok 7 (by omega)).mono ?_; rintro e w6 ⟨rfl, hr6, hk6⟩; have c63 := fill7_c hr6 3 (by omega); have c64 := fill7_c hr6 4 (by omega); replace HKq := Lib.hid (HKq.out.trans hk6 (Gr.refl _ _)); clear hr6 hk6) | (go_at_call 6; refine (awake5_ok (Hg.out.kp (Hk11.out.trans HKq.out (Gr.refl _ _)) Hi.none) (He.out.kp (Hk11.out.trans HKq.out (Gr.refl _ _)) Hi.none) (Nat.le_trans Hng.out (Hk11.out.trans HKq.out (Gr.refl _ _)).size)).mono ?_; rintro e w9a ⟨rfl, hk9⟩; have Hend9 := Lib.hid ((Hk11.out.trans HKq.out (Gr.refl _ _)).trans hk9 (Gr.refl _ _)); clear hk9))
                              go_ret
                              exact ⟨rfl, Hend9.out⟩
                        · have hft : fl = true := by
                            rw [Hfl.out, Hb3.out, Hb4.out, hzz]
                            exact decide_eq_true ⟨rfl, rfl⟩
                          as_aux_lemma =>
                            have hdl : dn = C2.ch.length := by rw [Hdn.out, hft, G13.out]; rfl
                            have hl1 : ((dn : Int) == (C2.ch.length : Int)) = true := by rw [hdl]; simp
                            clear hdl
                            clear hsf hsm' Hdn G14 Hsf hft G13
                            by_cases e7 : x0 = 7
                            · have d3 : (x0 == 7) = true := by simp [e7]
                              by_cases e8 : y0 = 7
                              · exact absurd ⟨e7, e8⟩ hsm
                              · have d4 : (y0 == 7) = false := by simpa using e8
                                clear e7 e8 hsm
                                go_wp2_with (first | (go_at_call 8; refine (fill_ok 7 (by omega)).mono ?_; rintro e w6 ⟨rfl, hr6, hk6⟩; have c63 := fill7_c hr6 3 (by omega); have c64 := fill7_c hr6 4 (by omega); replace HKq := Lib.hid (HKq.out.trans hk6 (Gr.refl _ _)); clear hr6 hk6) | (go_at_call 6; refine (awake5_ok (Hg.out.kp (Hk11.out.trans HKq.out (Gr.refl _ _)) Hi.none) (He.out.kp (Hk11.out.trans HKq.out (Gr.refl _ _)) Hi.none) (Nat.le_trans Hng.out (Hk11.out.trans HKq.out (Gr.refl _ _)).size)).mono ?_; rintro e w9a ⟨rfl, hk9⟩; have Hend9 := Lib.hid ((Hk11.out.trans HKq.out (Gr.refl _ _)).trans hk9 (Gr.refl _ _)); clear hk9))
                                go_ret
                                exact ⟨rfl, Hend9.out⟩
                            · have d3 : (x0 == 7) = false := by simpa using e7
                              clear e7 hsm
                              go_wp2_with (first | (go_at_call 8; refine (fill_ok 7 (by omega)).mono ?_; rintro e w6 ⟨rfl, hr6, hk6⟩; have c63 := fill7_c hr6 3 (by omega); have c64 := fill7_c hr6 4 (by omega); replace HKq := Lib.hid (HKq.out.trans hk6 (Gr.refl _ _)); clear hr6 hk6) | (go_at_call 6; refine (awake5_ok (Hg.out.kp (Hk11.out.trans HKq.out (Gr.refl _ _)) Hi.none) (He.out.kp (Hk11.out.trans HKq.out (Gr.refl _ _)) Hi.none) (Nat.le_trans Hng.out (Hk11.out.trans HKq.out (Gr.refl _ _)).size)).mono ?_; rintro e w9a ⟨rfl, hk9⟩; have Hend9 := Lib.hid ((Hk11.out.trans HKq.out (Gr.refl _ _)).trans hk9 (Gr.refl _ _)); clear hk9))
                              go_ret
                              exact ⟨rfl, Hend9.out⟩
end Go.Proofs.YtmafihodbbagbaaGreatDoor
