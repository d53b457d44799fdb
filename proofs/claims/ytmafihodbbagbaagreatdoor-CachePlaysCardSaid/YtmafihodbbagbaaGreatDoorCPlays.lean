/- CachePlays: the law's walk (begun). -/
import Derived.Test.YtmafihodbbagbaaGreatDoorCPS
import Derived.Test.YtmafihodbbagbaaGreatDoorNum
import Derived.Test.YtmafihodbbagbaaGreatDoorSame
import Derived.Test.YtmafihodbbagbaaGreatDoorLawIs
import Derived.Test.YtmafihodbbagbaaGreatDoorAwk5
import Derived.Deep.CutBlock
import Derived.Deep.CutRange
import Derived.Deep.LoopGhost
import Derived.Deep.RegionHeldLaw
import Derived.BigRegion
namespace Go.Proofs.YtmafihodbbagbaaGreatDoor
open Go.RowKit
set_option maxHeartbeats 40000000
set_option maxRecDepth 20000

theorem cplays_walk {w : World} (hg : Gl w) (he : Ge w) (hng : NG ≤ w.heap.size) (a : Int) (A : Option Addr) (len cap : Nat) (hlen : len ≤ cap) (hcap : cap ≤ maxLen)
    (hA : 0 < len → ∃ ad, A = some ad ∧ ∀ j, j < len → ∃ kd no p lg n, w.cell? (ad.add (j * 5)) = some (.int .i64 kd) ∧ w.cell? ((ad.add (j * 5)).add 1) = some (.int .i64 no) ∧ w.cell? ((ad.add (j * 5)).add 2) = some (.int .i64 p) ∧ w.cell? ((ad.add (j * 5)).add 3) = some (.int .i64 lg) ∧ w.cell? ((ad.add (j * 5)).add 4) = some (.int .i64 n) ∧
      -9223372036854775808 ≤ no ∧ no ≤ 9223372036854775807 ∧ -9223372036854775808 ≤ p ∧ p ≤ 9223372036854775807) :
    Calls Tryz.prog 3 #[.int .i64 a, .slice A len cap] w fun e w' => e = .returned (.bool true) ∧ Kp (fun _ => False) w w' := by
  obtain ⟨q, hq, hq5⟩ := and_nat a 7 (by decide)
  simp only [Int.cast_ofNat_Int] at hq
  obtain ⟨most, hmost⟩ : ∃ most, most = q + 1 := ⟨_, rfl⟩
  have e2 : (q : Int) + 1 = (most : Int) := by omega
  have hm1 : 1 ≤ most := by omega
  have hm8 : most ≤ 8 := by omega
  have HM := Lib.hid (made5_ok (w := w) hg hng most hm1 hm8)
  clear hmost
  have HA := Lib.hid hA
  have Hg := Lib.hid hg
  have He := Lib.hid he
  have Hng := Lib.hid hng
  unfold maxLen at hcap
  clear hg hng he hA
  go_enter Tryz.func3, Tryz.ntmps3
  go_wp2_with fail
  refine HM.out.mono ?_
  rintro e w1 ⟨bd, bc, bj, bm, F, rfl, hr, hk1, hf⟩
  have HC := Lib.hid (show CR w bc bj bm bd (CSt.five most) F w1 from ⟨hr, hk1, hf⟩)
  clear hr hk1 hf
  go_wp2_with (go_at_call 6; refine (awake5_ok (Hg.out.kp HC.out.kp Hi.none) (He.out.kp HC.out.kp Hi.none) (Nat.le_trans Hng.out HC.out.kp.size)).mono ?_; rintro e w2 ⟨rfl, hk2⟩; have HC2 := Lib.hid (HC.out.kp0 hk2); clear hk2 HC)
  have hsz1 := size_alloc w2 (.cells #[.string ⟨#[]⟩, .string ⟨#[]⟩, .string ⟨#[]⟩, .string ⟨#[]⟩, .string ⟨#[]⟩, .string ⟨#[]⟩, .string ⟨#[]⟩, .string ⟨#[]⟩, .string ⟨#[]⟩, .string ⟨#[]⟩, .string ⟨#[]⟩, .string ⟨#[]⟩] 28)
  have hk3 : Kp (fun _ => False) w2 ((w2.alloc (.cells (arrS fun _ => []) 28)).alloc (.cells (arrS fun _ => []) 28)) := ((Kp.refl _ _).alloc _).alloc _
  have h7 : ((w2.alloc (.cells (arrS fun _ => []) 28)).alloc (.cells (arrS fun _ => []) 28)).heap[w2.heap.size]? = some (.cells (arrS fun _ => []) 28) := ((Kp.refl (fun _ => False) _).alloc _).blk (new_blk w2 _) (fun h => h)
  have h8 : ((w2.alloc (.cells (arrS fun _ => []) 28)).alloc (.cells (arrS fun _ => []) 28)).heap[w2.heap.size + 1]? = some (.cells (arrS fun _ => []) 28) := by
    have := new_blk (w2.alloc (.cells (arrS fun _ => []) 28)) (.cells (arrS fun _ => []) 28)
    rw [size_alloc] at this
    exact this
  rw [← arrS_nil]
  generalize (w2.alloc (.cells (arrS fun _ => []) 28)).alloc (.cells (arrS fun _ => []) 28) = w3 at *
  have hs2 := HC2.out.kp.size
  have HP := Lib.hid (show CP w bd bc bj bm w2.heap.size (w2.heap.size + 1) most (CSt.five most) (fun _ => []) (fun _ => []) (.slice none 0 0) [] F w3 from
    ⟨HC2.out.kp0 hk3, ⟨rfl, rfl, rfl, rfl, rfl, rfl⟩, ⟨hm1, hm8⟩, fun h => by have := HC2.out.fresh _ h; omega, fun h => by have := HC2.out.fresh _ h; omega, h7, h8, by omega, by omega, by omega, Hng.out, ⟨none, 0, rfl, Nat.le_refl _, Nat.zero_le _, fun h => absurd rfl h⟩, fun b hb => by simp [blockOf] at hb⟩)
  clear hk3 h7 h8 hsz1 HC2 hs2
  generalize w2.heap.size + 1 = b8 at *
  generalize w2.heap.size = b7 at *
  go_loopw [40] (fun x W => ∃ i : Nat, x = .int .i64 (i : Nat) ∧ i ≤ 12 ∧ CP w bd bc bj bm b7 b8 most (CSt.five most) (fun j => if j < i then zs 128 else []) (fun _ => []) (.slice none 0 0) [] F W) (fun x _ => 12 - (intOf x).toNat)
  case atStart => exact ⟨0, rfl, by omega, HP.out.ext (fun j _ => by simp) (fun _ _ => rfl)⟩
  case round =>
    obtain ⟨i, rfl, hi, hP⟩ := hrel
    have HP := Lib.hid hP
    clear hP
    by_cases hlt : i < 12
    · have hz : (i : Int) < 12 := by omega
      have hz0 : (0 : Int) ≤ (i : Int) := by omega
      have HP1 := Lib.hid (HP.out.kp0 ((Kp.refl _ _).alloc (zrow 128)))
      have c7 := cell_blk HP1.out.r7 i
      rw [arrS_get _ _ hlt] at c7
      have fr7 := frozen_blk HP1.out.r7 i
      have hz7 : (convert 29 9 (.slice (some ⟨wr.heap.size, 0, none⟩) 128 128)).run Tryz.prog (wr.alloc (zrow 128)) = .ok (.string (str (zs 128))) (wr.alloc (zrow 128)) := conv_str ((row_new wr 128).sl 128 (by simp) (by simp [maxLen]))
      have Hst := Lib.hid (HP1.out.store7 (q := i) (xs := zs 128))
      generalize str (zs 128) = s0 at *
      go_wp2_with (at_make; refine wpList_make128 rfl rfl ?_)
      go_roundw
      case rel => exact ⟨i + 1, by go_num, by omega, Hst.out.ext (fun j _ => by by_cases h1 : j = i <;> by_cases h2 : j < i <;> simp [h1, h2] <;> omega) (fun _ _ => rfl)⟩
      case measure => simp [intOf]; omega
    · have hz : ¬ (i : Int) < 12 := by omega
      have HP1 := Lib.hid (HP.out.ext (X' := fun _ => zs 128) (fun j hj => by rw [if_pos (by omega)]) (fun _ _ => rfl))
      clear HP
      go_wp2_with (first | (refine wpList_loadS rfl _ rfl b7 rfl _ HP1.out.r7 ?_) | (refine wpList_storeS rfl _ _ rfl b8 _ _ rfl rfl HP1.out.r8 ?_; intro w4 hk4 hr4; have HP2 := Lib.hid (HP1.out.set8 hk4 hr4); clear hk4 hr4))
      have HP3 := Lib.hid (show CP w bd bc bj bm b7 b8 most (CSt.five most) (CSt.five most).view (CSt.five most).D.row (.slice none 0 0) (CSt.five most).chs F w4 from by
        have := (HP2.out.ext (X' := (CSt.five most).view) (Y' := (CSt.five most).D.row) (fun j _ => by simp [CSt.five, CSt.new, CSt.view, DSt.new]) (fun j _ => by simp [CSt.five, CSt.new, DSt.new]))
        have e : (CSt.five most).chs = [] := by simp [CSt.chs, CSt.five, CSt.new]
        rw [e]; exact this)
      clear HP1 HP2
      generalize CSt.five most = C0 at *
      go_loopg [10, 11] 50 (fun g v x W => ∃ i C F, x = .int .i64 (i : Nat) ∧ g = 50 - i ∧ i ≤ 50 ∧ i ≤ len ∧ CP w bd bc bj bm b7 b8 most C C.view C.D.row v C.chs F W)
      case atStart => exact ⟨0, _, _, rfl, rfl, by omega, by omega, HP3.out⟩
      case round =>
        obtain ⟨i, C, F1, rfl, hgk, hi, hl, hP⟩ := hrel
        have HP := Lib.hid hP
        clear HP3
        by_cases h1 : i < len
        · have h1i : (i : Int) < (len : Int) := by omega
          have hi0 : (0 : Int) ≤ (i : Int) := by omega
          by_cases h2 : i < 50
          · have h2i : (i : Int) < 50 := by omega
            obtain ⟨ad, rfl, hcs⟩ := HA.out (by omega)
            obtain ⟨kd, no, p, lg, n, c0, c1, c2, c3, c4, hno0, hno1, hp0, hp1⟩ := hcs i h1
            have c0' := hP.cr.kp.cell c0 (fun h => h)
            have c1' : wr.cell? ⟨(ad.add (i * 5)).block, (ad.add (i * 5)).off + 1, none⟩ = some (.int .i64 no) := hP.cr.kp.cell c1 (fun h => h)
            have c2' : wr.cell? ⟨(ad.add (i * 5)).block, (ad.add (i * 5)).off + 2, none⟩ = some (.int .i64 p) := hP.cr.kp.cell c2 (fun h => h)
            have c3' : wr.cell? ⟨(ad.add (i * 5)).block, (ad.add (i * 5)).off + 3, none⟩ = some (.int .i64 lg) := hP.cr.kp.cell c3 (fun h => h)
            have c4' : wr.cell? ⟨(ad.add (i * 5)).block, (ad.add (i * 5)).off + 4, none⟩ = some (.int .i64 n) := hP.cr.kp.cell c4 (fun h => h)
            clear hcs c0 c1 c2 c3 c4 hP
            go_upto_region 17 with fail
            have hlt := lt_blk HP.out.r7
            have HPa := Lib.hid (HP.out.kp0 ((Kp.refl _ _).alloc (.cells #[.int .i64 kd, .int .i64 no, .int .i64 p, .int .i64 lg, .int .i64 n] 32)))
            have nb := new_blk wr (.cells #[.int .i64 kd, .int .i64 no, .int .i64 p, .int .i64 lg, .int .i64 n] 32)
            generalize hwa : wr.alloc (.cells #[.int .i64 kd, .int .i64 no, .int .i64 p, .int .i64 lg, .int .i64 n] 32) = wa at *
            obtain ⟨b, hbq⟩ : ∃ b, wr.heap.size = b := ⟨_, rfl⟩
            rw [hbq] at nb ⊢
            have x0 := cell_blk nb 0
            have x1 := cell_blk nb 1
            have x2 := cell_blk nb 2
            have x3 := cell_blk nb 3
            have x4 := cell_blk nb 4
            simp at x0 x1 x2 x3 x4
            have HFb := Lib.hid (show ¬ F1 b from fun h => by have := HP.out.cr.fresh _ h; omega)
            have Hb7 := Lib.hid (show b ≠ b7 from by omega)
            have Hnb := Lib.hid nb
            clear hwa c0' c1' c2' c3' c4' nb hbq HP hlt
            obtain ⟨inb, hinb⟩ : ∃ inb : Bool, inb = decide (0 ≤ no ∧ no < 12) := ⟨_, rfl⟩
            go_cut [13] from 49 to 279 (fun x W => x = .bool inb ∧ W = wa)
            case first =>
              as_aux_lemma =>
                by_cases hlo : 0 ≤ no
                · by_cases hhi : no < 12
                  · have d2 : decide (no < 12) = true := decide_eq_true hhi
                    go_wp2_with fail
                    go_meet
                    exact ⟨by rw [hinb]; simp [hlo, hhi], rfl⟩
                  · have d2 : decide (no < 12) = false := decide_eq_false hhi
                    go_wp2_with fail
                    go_meet
                    exact ⟨by rw [hinb, decide_eq_false (p := 0 ≤ no ∧ no < 12) (by omega)], rfl⟩
                · have d1 : decide (0 ≤ no) = false := decide_eq_false hlo
                  go_wp2_with fail
                  go_meet
                  exact ⟨by rw [hinb, decide_eq_false (p := 0 ≤ no ∧ no < 12) (by omega)], rfl⟩
            case rest =>
              obtain ⟨rfl, rfl⟩ := hcut
              have Hin := Lib.hid hinb
              clear hinb
              go_upto_block 4 with (go_at_call 7; refine (ref_Num no hno0 hno1).mono ?_; rintro e w5 ⟨rfl, hk5⟩; have HPb := Lib.hid (HPa.out.kp0 hk5); have Hnc := Lib.hid (hk5.blk Hnb.out (fun h => h)); have y0 := hk5.cell x0 (fun h => h); have y1 := hk5.cell x1 (fun h => h); have y2 := hk5.cell x2 (fun h => h); have y3 := hk5.cell x3 (fun h => h); have y4 := hk5.cell x4 (fun h => h); clear hk5 x0 x1 x2 x3 x4 Hnb HPa)
              go_cut [10] from 49 to 279 (fun v W => ∃ C' F', CP w bd bc bj bm b7 b8 most C' C'.view C'.D.row v C'.chs F' W)
              case first =>
                by_cases k0 : kd = 0
                · subst k0
                  as_aux_lemma =>
                    obtain ⟨N, hN, hN5⟩ := and_nat n 2047 (by decide)
                    obtain ⟨l5, hl5, hl6⟩ := and_nat lg 255 (by decide)
                    simp only [Int.cast_ofNat_Int] at hN hl5
                    have e4 : (l5 : Int).tmod 129 = ((l5 % 129 : Nat) : Int) := by rw [Int.tmod_eq_emod_of_nonneg (by omega)]; omega
                    have hL : l5 % 129 ≤ 128 := by omega
                    generalize l5 % 129 = L at *
                    have hl3 : ∀ W : World, Kp (fun _ => False) w5 W → W.cell? ⟨b, 3, none⟩ = some (.int .i64 lg) := fun W hW => hW.cell y3 (fun h => h)
                    have hl4 : ∀ W : World, Kp (fun _ => False) w5 W → W.cell? ⟨b, 4, none⟩ = some (.int .i64 n) := fun W hW => hW.cell y4 (fun h => h)
                    go_upto_region 24 with fail
                    go_cut [15] from 49 to 279 (fun x W => ∃ g ys, x = .slice (some ⟨g, 0, none⟩) L 128 ∧ Sl W x ys ∧ ys.length = L ∧ w5.heap.size ≤ g ∧ Kp (fun _ => False) w5 W)
                    case first =>
                      have hkk : Kp (fun _ => False) w5 w5 := Kp.refl _ _
                      have hLi : (L : Int) ≤ 128 := by omega
                      have hL0 : (0 : Int) ≤ (L : Int) := by omega
                      go_wp2_with fail
                      go_region_held_law (fun W => Kp (fun _ => False) w5 W)
                        (first | assumption | exact Kp.drew (by assumption) | exact Kp.trans (by assumption) (by assumption) (Gr.refl _ _))
                        (first | (go_at_call 8; refine (fill_ok N (by omega)).mono ?_; rintro e w6 ⟨rfl, hr6, hk6⟩))
                      all_goals (go_wp2_with fail; go_meet)
                      exact ⟨_, (fillRow N).take L, rfl, (fill_sl hr6).take (by rw [fillRow, part_len]; exact hL), by rw [List.length_take, fillRow, part_len]; omega, Kp.size (F := fun _ => False) (by assumption), by assumption⟩
                    case rest =>
                      obtain ⟨g, ys, rfl, hs6, hys, hg6, hk6⟩ := hcut
                      have HFg := Lib.hid (show ¬ F1 g from fun h => by have := HPb.out.cr.fresh _ h; omega)
                      have Hg7 := Lib.hid (show ¬ g = b7 from fun e => by have := lt_blk HPb.out.r7; omega)
                      clear hg6
                      have HPc := Lib.hid (HPb.out.kp0 hk6)
                      have Hs6 := Lib.hid hs6
                      have z1 := hk6.cell y1 (fun h => h)
                      have z2 := hk6.cell y2 (fun h => h)
                      obtain ⟨A1, c1, hv1, hc1, hc2, hc3⟩ := id HPc.out.sl
                      rw [List.length_map] at hv1 hc1
                      subst hv1
                      have HC3 := Lib.hid hc3
                      clear hs6 hk6 hc3 HPb y0 y1 y2 y3 y4 hN hl5 e4 hl3 hl4
                      generalize wc = w6 at *
                      have hnl : C.chs.length ≤ 200 := by
                        have := HPc.out.cr.rep.few
                        have := C.chs_perm.length_eq
                        omega
                      go_upto_block 5 with fail
                      go_cut [17] from 49 to 279 (fun x W => ∃ k : Nat, x = .int .i64 (k : Nat) ∧ k ≤ C.chs.length ∧ (∀ i x, i < k → C.chs[i]? = some x → (x : Int) < no) ∧ (∀ x, C.chs[k]? = some x → no ≤ (x : Int)) ∧ Kp (fun _ => False) w6 W)
                      case first =>
                        as_aux_lemma =>
                          go_wp2_with fail
                          go_loopw [17] (fun x W => ∃ k : Nat, x = .int .i64 (k : Nat) ∧ k ≤ C.chs.length ∧ (∀ i x, i < k → C.chs[i]? = some x → (x : Int) < no) ∧ Kp (fun _ => False) w6 W) (fun x _ => C.chs.length - (intOf x).toNat)
                          case atStart => exact ⟨0, rfl, by omega, fun i x hi => by omega, Kp.refl _ _⟩
                          case round =>
                            obtain ⟨k, rfl, hk, hb, hkp⟩ := hrel
                            have Hb := Lib.hid hb
                            have Hkp := Lib.hid hkp
                            have z1' := hkp.cell z1 (fun h => h)
                            clear hb
                            by_cases hlt : k < C.chs.length
                            · have hz : (k : Int) < (C.chs.length : Int) := by omega
                              have hz0 : (0 : Int) ≤ (k : Int) := by omega
                              obtain ⟨x, hx⟩ : ∃ x, C.chs[k]? = some x := ⟨_, List.getElem?_eq_getElem hlt⟩
                              obtain ⟨ad1, rfl, h3⟩ := HC3.out (fun e => by have := congrArg List.length e; rw [List.length_map, List.length_nil] at this; omega)
                              have cx := hkp.cell (h3 k (.int .i64 (x : Int)) (by simp [ints, hx])) (fun h => h)
                              have Hx := Lib.hid hx
                              clear h3 hkp hx
                              by_cases hxn : (x : Int) < no
                              · have d1 : decide ((x : Int) < no) = true := decide_eq_true hxn
                                go_wp2_with fail
                                go_quiet (fail)
                                go_wp2_with fail
                                go_roundw
                                case rel => exact ⟨k + 1, by go_num, by omega, fun i y hi hy => by rcases Nat.lt_succ_iff_lt_or_eq.1 hi with h | rfl; exact Hb.out i y h hy; rw [Hx.out] at hy; cases hy; exact hxn, Hkp.out.drewN _⟩
                                case measure => simp [intOf]; omega
                              · have d1 : decide ((x : Int) < no) = false := decide_eq_false hxn
                                go_wp2_with fail
                                go_quiet (fail)
                                go_wp2_with fail
                                go_meet
                                exact ⟨k, rfl, hk, Hb.out, fun y hy => by rw [Hx.out] at hy; cases hy; omega, Hkp.out.drewN _⟩
                            · have hz : ¬ (k : Int) < (C.chs.length : Int) := by omega
                              have hzd : decide (k < C.chs.length) = false := decide_eq_false hlt
                              clear hkp
                              go_wp2_with fail
                              go_quiet (fail)
                              go_wp2_with fail
                              go_meet
                              exact ⟨k, rfl, hk, Hb.out, fun y hy => (by rw [List.getElem?_eq_none (by omega)] at hy; cases hy), Hkp.out.drewN _⟩
                      case rest =>
                        obtain ⟨k, rfl, hk, hb, hb2, hk7⟩ := hcut
                        have HPd := Lib.hid (HPc.out.kp0 hk7)
                        have Hs7 := Lib.hid (Hs6.out.kp hk7 (fun _ _ h => h))
                        have z1' := hk7.cell z1 (fun h => h)
                        have z2' := hk7.cell z2 (fun h => h)
                        have HC4 := Lib.hid (show C.chs ≠ [] → ∃ ad1, A1 = some ad1 ∧ ∀ (j x : Nat), C.chs[j]? = some x → wc.cell? (ad1.add j) = some (.int .i64 (x : Int)) from fun hn => by
                          obtain ⟨ad1, e, h3⟩ := HC3.out (fun e => hn (List.map_eq_nil_iff.1 e))
                          exact ⟨ad1, e, fun j x hx => hk7.cell (h3 j _ (by simp [ints, hx])) (fun h => h)⟩)
                        have Hb := Lib.hid hb
                        have Hb2 := Lib.hid hb2
                        clear hb hb2 hk7 z1 z2 HPc Hs6 HC3
                        generalize wc = w7 at *
                        obtain ⟨isb, hisb⟩ : ∃ isb : Bool, isb = decide (0 ≤ no ∧ C.chs[k]? = some no.toNat) := ⟨_, rfl⟩
                        have Hisb := Lib.hid hisb
                        clear hisb
                        go_upto_region 29 with fail
                        go_cut [18] from 49 to 279 (fun x W => x = .bool isb ∧ Kp (fun _ => False) w7 W)
                        case first =>
                          as_aux_lemma =>
                            by_cases hlt : k < C.chs.length
                            · have hz : (k : Int) < (C.chs.length : Int) := by omega
                              have hz0 : (0 : Int) ≤ (k : Int) := by omega
                              have hzd : decide (k < C.chs.length) = true := decide_eq_true hlt
                              obtain ⟨x, hx⟩ : ∃ x, C.chs[k]? = some x := ⟨_, List.getElem?_eq_getElem hlt⟩
                              obtain ⟨ad1, rfl, h3⟩ := HC4.out (fun e => by rw [e] at hlt; simp at hlt)
                              have cx := h3 k x hx
                              have Hx := Lib.hid hx
                              clear h3 hx
                              by_cases hxn : (x : Int) = no
                              · have d1 : ((x : Int) == no) = true := by simpa using hxn
                                obtain rfl : isb = true := by rw [Hisb.out]; exact decide_eq_true ⟨by omega, by rw [Hx.out]; congr 1; omega⟩
                                clear hxn
                                go_wp2_with fail
                                go_quiet (fail)
                                go_wp2_with fail
                                go_meet
                                exact ⟨by simp [d1], (Kp.refl _ _).drewN _⟩
                              · have d1 : ((x : Int) == no) = false := by simpa using hxn
                                obtain rfl : isb = false := by rw [Hisb.out]; exact decide_eq_false (fun h => hxn (by have := h.2; rw [Hx.out] at this; have := Option.some.inj this; omega))
                                clear hxn
                                go_wp2_with fail
                                go_quiet (fail)
                                go_wp2_with fail
                                go_meet
                                exact ⟨by simp [d1], (Kp.refl _ _).drewN _⟩
                            · have hz : ¬ (k : Int) < (C.chs.length : Int) := by omega
                              have hzd : decide (k < C.chs.length) = false := decide_eq_false hlt
                              obtain rfl : isb = false := by rw [Hisb.out]; exact decide_eq_false (fun h => by have := h.2; rw [List.getElem?_eq_none (by omega)] at this; cases this)
                              go_wp2_with fail
                              go_quiet (fail)
                              go_wp2_with fail
                              go_meet
                              exact ⟨rfl, (Kp.refl _ _).drewN _⟩
                        case rest =>
                          obtain ⟨rfl, hk8⟩ := hcut
                          have HPe := Lib.hid (HPd.out.kp0 hk8)
                          have Hs8 := Lib.hid (Hs7.out.kp hk8 (fun _ _ h => h))
                          have y1 := hk8.cell z1' (fun h => h)
                          have y2 := hk8.cell z2' (fun h => h)
                          have HC5 := Lib.hid (show C.chs ≠ [] → ∃ ad1, A1 = some ad1 ∧ ∀ (j x : Nat), C.chs[j]? = some x → wc.cell? (ad1.add j) = some (.int .i64 (x : Int)) from fun hn => by
                            obtain ⟨ad1, e, h3⟩ := HC4.out hn
                            exact ⟨ad1, e, fun j x hx => hk8.cell (h3 j x hx) (fun h => h)⟩)
                          clear hk8 z1' z2' HPd Hs7 HC4
                          generalize wc = w8 at *
                          go_upto_block 7 with fail
                          go_cut [16] from 49 to 279 (fun x W => ∃ want : Int, x = .int .i64 want ∧ W = w8 ∧ ((want = 0 ∧ inb = true ∧ 0 ≤ p ∧ p + L ≤ 128 ∧ (isb = true ∨ C.chs.length ≠ most)) ∨ (want = 1 ∧ ((no < 0 ∨ 12 ≤ no) ∨ p < 0 ∨ 128 < p ∨ 128 - p < (L : Int))) ∨ (want = 5 ∧ inb = true ∧ 0 ≤ p ∧ p + L ≤ 128 ∧ isb = false ∧ C.chs.length = most)))
                          case first =>
                            as_aux_lemma =>
                              have Hmo := Lib.hid hm8
                              clear Hb Hb2 HC5 Hs8 hno0 hno1
                              by_cases hin : 0 ≤ no ∧ no < 12
                              · obtain rfl : inb = true := by rw [Hin.out]; exact decide_eq_true hin
                                clear Hin Hisb
                                by_cases h1 : p < 0
                                · have d1 : decide (p < 0) = true := decide_eq_true h1
                                  go_wp2_with fail
                                  go_meet
                                  exact ⟨1, rfl, rfl, .inr (.inl ⟨rfl, .inr (.inl h1)⟩)⟩
                                · have d1 : decide (p < 0) = false := decide_eq_false h1
                                  by_cases h2 : 128 < p
                                  · have d2 : decide (128 < p) = true := decide_eq_true h2
                                    go_wp2_with fail
                                    go_meet
                                    exact ⟨1, rfl, rfl, .inr (.inl ⟨rfl, .inr (.inr (.inl h2))⟩)⟩
                                  · have d2 : decide (128 < p) = false := decide_eq_false h2
                                    by_cases h3 : 128 - p < (L : Int)
                                    · have d3 : decide (128 - p < (L : Int)) = true := decide_eq_true h3
                                      go_wp2_with fail
                                      go_meet
                                      exact ⟨1, rfl, rfl, .inr (.inl ⟨rfl, .inr (.inr (.inr h3))⟩)⟩
                                    · have d3 : decide (128 - p < (L : Int)) = false := decide_eq_false h3
                                      cases isb
                                      · by_cases h4 : C.chs.length = most
                                        · have d4 : ((C.chs.length : Int) == (most : Int)) = true := by simp; omega
                                          have Hl := Lib.hid h4
                                          clear h4
                                          go_wp2_with fail
                                          go_meet
                                          exact ⟨5, rfl, rfl, .inr (.inr ⟨rfl, rfl, by omega, by omega, rfl, Hl.out⟩)⟩
                                        · have d4 : ((C.chs.length : Int) == (most : Int)) = false := by simp; omega
                                          have Hl := Lib.hid h4
                                          go_wp2_with fail
                                          go_meet
                                          exact ⟨0, rfl, rfl, .inl ⟨rfl, rfl, by omega, by omega, .inr Hl.out⟩⟩
                                      · go_wp2_with fail
                                        go_meet
                                        exact ⟨0, rfl, rfl, .inl ⟨rfl, rfl, by omega, by omega, .inl rfl⟩⟩
                              · obtain rfl : inb = false := by rw [Hin.out]; exact decide_eq_false hin
                                clear Hin
                                go_wp2_with fail
                                go_meet
                                exact ⟨1, rfl, rfl, .inr (.inl ⟨rfl, .inl (by omega)⟩)⟩
                          case rest =>
                            obtain ⟨want, rfl, rfl, hw⟩ := hcut
                            rcases hw with ⟨rfl, rfl, hp2, hpl, hroom⟩ | hw
                            · obtain ⟨hin0, hin1⟩ : 0 ≤ no ∧ no < 12 := of_decide_eq_true Hin.out.symm
                              obtain ⟨q, rfl⟩ := Int.eq_ofNat_of_zero_le hin0
                              obtain ⟨p, rfl⟩ := Int.eq_ofNat_of_zero_le hp2
                              have hq12 : q < 12 := by omega
                              have hb1 : ∀ i x, i < k → C.chs[i]? = some x → x < q := fun i x h1 h2 => by have := Hb.out i x h1 h2; omega
                              have hb2 : ∀ x, C.chs[k]? = some x → q ≤ x := fun x h => by have := Hb2.out x h; omega
                              have hmem := CSt.chs_at (no := q) hb1 hb2
                              have his : isb = true ↔ q ∈ C.ch := by rw [Hisb.out, decide_eq_true_iff, hmem]; simp
                              have hlen := C.chs_perm.length_eq
                              have hroom2 : q ∈ C.ch ∨ C.ch.length < most := by
                                rcases hroom with h | h
                                · exact .inl (his.1 h)
                                · right; have := HPe.out.cr.rep.few; have := HPe.out.num.2.2.2.2.2; omega
                              have HW := Lib.hid (cp_write HPe.out q p hq12 _ ys Hs8.out (by omega) hroom2)
                              have Hroom := Lib.hid hroom2
                              have His := Lib.hid his
                              have Hb1 := Lib.hid hb1
                              have Hb2 := Lib.hid hb2
                              clear hroom hroom2 his hb1 hb2 hmem Hisb hlen
                              go_upto_region 37 with (first | (go_at_call 10; refine HW.out.mono ?_; rintro e w9 ⟨rfl, F9, hP9, hk9⟩; have HP9 := Lib.hid hP9; have z1 := hk9.cell y1 HFb.out; have z2 := hk9.cell y2 HFb.out; have Hs9 := Lib.hid (Hs8.out.kp hk9 (fun b hb => by cases hb; exact HFg.out)); clear hP9 hk9) | (go_at_call 9; refine (law_Is_nil _ _ _ _).mono ?_; rintro e w10 ⟨rfl, rfl⟩))
                              have hv : (C.view q).length = 128 := HPe.out.cr.rep.viewlen (by have := HPe.out.num.2.1; omega)
                              obtain ⟨A9, hA9⟩ : ∃ v9, v9 = Value.slice A1 C.chs.length c1 := ⟨_, rfl⟩
                              go_cut [] from 49 to 279 (fun W => CP w bd bc bj bm b7 b8 most (C.wr q p ys) (C.wr q p ys).view (C.wr q p ys).D.row (.slice A1 C.chs.length c1) C.chs F9 W ∧ W.cell? ⟨b, 1, none⟩ = some (.int .i64 (q : Int)))
                              case first =>
                                as_aux_lemma =>
                                  obtain ⟨sv, hsv⟩ : ∃ sv, sv = str (C.view q) := ⟨_, rfl⟩
                                  obtain ⟨sy, hsy⟩ : ∃ sy, sy = str ys := ⟨_, rfl⟩
                                  have hsz : sv.size = 128 := by rw [hsv, str_size, hv]
                                  have hq0 : (0 : Int) ≤ (q : Int) := by omega
                                  have hq1 : (q : Int) < 12 := by omega
                                  have hp0 : (0 : Int) ≤ (p : Int) := by omega
                                  have hp1 : (p : Int) ≤ 128 := by omega
                                  have hpl0 : (0 : Int) ≤ (p : Int) + (L : Int) := by omega
                                  have hpl1 : (p : Int) + (L : Int) ≤ 128 := by omega
                                  have hpw : IntKind.i64.wrap ((p : Int) + (L : Int)) = (p : Int) + (L : Int) := IntWalk.i64_in _ (by omega)
                                  have hpt : ((p : Int) + (L : Int)).toNat = p + L := by omega
                                  have hcv : ∀ W : World, Kp (fun k => k = b7) w9 W → (convert 29 9 (.slice (some ⟨g, 0, none⟩) L 128)).run Tryz.prog W = .ok (.string sy) W := fun W hW => by rw [hsy]; exact conv_str (Hs9.out.kp hW (fun x hx => by cases hx; exact Hg7.out))
                                  have hl1 : ∀ W : World, Kp (fun k => k = b7) w9 W → W.cell? ⟨b, 1, none⟩ = some (.int .i64 (q : Int)) := fun W hW => hW.cell z1 Hb7.out
                                  have hl2 : ∀ W : World, Kp (fun k => k = b7) w9 W → W.cell? ⟨b, 2, none⟩ = some (.int .i64 (p : Int)) := fun W hW => hW.cell z2 Hb7.out
                                  have c7 := cell_blk HP9.out.r7 q
                                  rw [arrS_get _ _ hq12, ← hsv] at c7
                                  have f7 := frozen_blk HP9.out.r7 q
                                  have hsys : sy.size = L := by rw [hsy, str_size, hys]
                                  have ha1 : ∀ W : World, (Op.stringOp .add (sv.extract 0 p) sy).run Tryz.prog W = .ok (.string (sv.extract 0 p ++ sy)) W := fun W => run_string_add_sum W _ _ (by rw [ByteArray.size_extract]; omega)
                                  have ha2 : ∀ W : World, (Op.stringOp .add (sv.extract 0 p ++ sy) (sv.extract (p + L) 128)).run Tryz.prog W = .ok (.string (sv.extract 0 p ++ sy ++ sv.extract (p + L) 128)) W := fun W => run_string_add_sum W _ _ (by rw [ByteArray.size_append, ByteArray.size_extract, ByteArray.size_extract]; omega)
                                  have Hsv := Lib.hid hsv
                                  have Hsy := Lib.hid hsy
                                  have Hv := Lib.hid hv
                                  clear hsv hsy hv z2 hA9
                                  have Hst := Lib.hid ((HP9.out.kp0 ((Kp.refl (fun _ => False) w9).drew)).spl (q := q) (p := p) (sv := sv) (sy := sy) Hv.out hys Hsv.out Hsy.out)
                                  have Hz1 := Lib.hid ((Kp.setCell (F := fun k => k = b7) (p := ⟨b7, q, none⟩) ((Kp.refl _ w9).drew) (.inl rfl) (.string (sv.extract 0 p ++ sy ++ sv.extract (p + L) 128))).cell z1 Hb7.out)
                                  refine wp_region_held_drew (S := fun W => Kp (fun k => k = b7) w9 W) (by kernel_rfl) (Kp.refl _ _).drew (fun hHeld => ?_)
                                  apply wpAnyH_take (i := 0) (v := .pointer (some ⟨b, 1, none⟩))
                                  case hi => (simp only [List.getElem?_toArray, List.getElem?_cons_zero, List.getElem?_cons_succ]; rfl)
                                  case hs => kernel_rfl
                                  case hf => kernel_rfl
                                  case hr => kernel_rfl
                                  case hQ => exact fun _ _ _ h => h
                                  case hS => exact hHeld
                                  case hy =>
                                    refine Or.inl ⟨rfl, ?_⟩
                                    intro w hSw
                                    go_simp
                                  simp only [Act.put, List.setIfInBounds_toArray, List.set_cons_zero, List.set_cons_succ]
                                  apply wpAnyH_take (i := 1) (v := .int .i64 (q : Int))
                                  case hi => (simp only [List.getElem?_toArray, List.getElem?_cons_zero, List.getElem?_cons_succ]; rfl)
                                  case hs => kernel_rfl
                                  case hf => kernel_rfl
                                  case hr => kernel_rfl
                                  case hQ => exact fun _ _ _ h => h
                                  case hS => exact hHeld
                                  case hy =>
                                    refine Or.inl ⟨rfl, ?_⟩
                                    intro w hSw
                                    go_simp
                                  simp only [Act.put, List.setIfInBounds_toArray, List.set_cons_zero, List.set_cons_succ]
                                  apply wpAnyH_take (i := 2) (v := .pointer (some ⟨b, 1, none⟩))
                                  case hi => (simp only [List.getElem?_toArray, List.getElem?_cons_zero, List.getElem?_cons_succ]; rfl)
                                  case hs => kernel_rfl
                                  case hf => kernel_rfl
                                  case hr => kernel_rfl
                                  case hQ => exact fun _ _ _ h => h
                                  case hS => exact hHeld
                                  case hy =>
                                    refine Or.inl ⟨rfl, ?_⟩
                                    intro w hSw
                                    go_simp
                                  simp only [Act.put, List.setIfInBounds_toArray, List.set_cons_zero, List.set_cons_succ]
                                  apply wpAnyH_take (i := 3) (v := .int .i64 (q : Int))
                                  case hi => (simp only [List.getElem?_toArray, List.getElem?_cons_zero, List.getElem?_cons_succ]; rfl)
                                  case hs => kernel_rfl
                                  case hf => kernel_rfl
                                  case hr => kernel_rfl
                                  case hQ => exact fun _ _ _ h => h
                                  case hS => exact hHeld
                                  case hy =>
                                    refine Or.inl ⟨rfl, ?_⟩
                                    intro w hSw
                                    go_simp
                                  simp only [Act.put, List.setIfInBounds_toArray, List.set_cons_zero, List.set_cons_succ]
                                  apply wpAnyH_take (i := 4) (v := .pointer (some ⟨b7, q, none⟩))
                                  case hi => (simp only [List.getElem?_toArray, List.getElem?_cons_zero, List.getElem?_cons_succ]; rfl)
                                  case hs => kernel_rfl
                                  case hf => kernel_rfl
                                  case hr => kernel_rfl
                                  case hQ => exact fun _ _ _ h => h
                                  case hS => exact hHeld
                                  case hy =>
                                    refine Or.inl ⟨rfl, ?_⟩
                                    intro w hSw
                                    go_simp
                                  simp only [Act.put, List.setIfInBounds_toArray, List.set_cons_zero, List.set_cons_succ]
                                  apply wpAnyH_take (i := 6) (v := .pointer (some ⟨b, 2, none⟩))
                                  case hi => (simp only [List.getElem?_toArray, List.getElem?_cons_zero, List.getElem?_cons_succ]; rfl)
                                  case hs => kernel_rfl
                                  case hf => kernel_rfl
                                  case hr => kernel_rfl
                                  case hQ => exact fun _ _ _ h => h
                                  case hS => exact hHeld
                                  case hy =>
                                    refine Or.inl ⟨rfl, ?_⟩
                                    intro w hSw
                                    go_simp
                                  simp only [Act.put, List.setIfInBounds_toArray, List.set_cons_zero, List.set_cons_succ]
                                  apply wpAnyH_take (i := 7) (v := .int .i64 (p : Int))
                                  case hi => (simp only [List.getElem?_toArray, List.getElem?_cons_zero, List.getElem?_cons_succ]; rfl)
                                  case hs => kernel_rfl
                                  case hf => kernel_rfl
                                  case hr => kernel_rfl
                                  case hQ => exact fun _ _ _ h => h
                                  case hS => exact hHeld
                                  case hy =>
                                    refine Or.inl ⟨rfl, ?_⟩
                                    intro w hSw
                                    go_simp
                                  simp only [Act.put, List.setIfInBounds_toArray, List.set_cons_zero, List.set_cons_succ]
                                  apply wpAnyH_take (i := 9) (v := .slice (some ⟨g, 0, none⟩) L 128)
                                  case hi => (simp only [List.getElem?_toArray, List.getElem?_cons_zero, List.getElem?_cons_succ]; rfl)
                                  case hs => kernel_rfl
                                  case hf => kernel_rfl
                                  case hr => kernel_rfl
                                  case hQ => exact fun _ _ _ h => h
                                  case hS => exact hHeld
                                  case hy =>
                                    refine Or.inl ⟨rfl, ?_⟩
                                    intro w hSw
                                    go_simp
                                  simp only [Act.put, List.setIfInBounds_toArray, List.set_cons_zero, List.set_cons_succ]
                                  apply wpAnyH_take (i := 10) (v := .string sy)
                                  case hi => (simp only [List.getElem?_toArray, List.getElem?_cons_zero, List.getElem?_cons_succ]; rfl)
                                  case hs => kernel_rfl
                                  case hf => kernel_rfl
                                  case hr => kernel_rfl
                                  case hQ => exact fun _ _ _ h => h
                                  case hS => exact hHeld
                                  case hy =>
                                    refine Or.inl ⟨rfl, ?_⟩
                                    intro w hSw
                                    go_simp
                                  simp only [Act.put, List.setIfInBounds_toArray, List.set_cons_zero, List.set_cons_succ]
                                  apply wpAnyH_take (i := 12) (v := .pointer (some ⟨b, 1, none⟩))
                                  case hi => (simp only [List.getElem?_toArray, List.getElem?_cons_zero, List.getElem?_cons_succ]; rfl)
                                  case hs => kernel_rfl
                                  case hf => kernel_rfl
                                  case hr => kernel_rfl
                                  case hQ => exact fun _ _ _ h => h
                                  case hS => exact hHeld
                                  case hy =>
                                    refine Or.inl ⟨rfl, ?_⟩
                                    intro w hSw
                                    go_simp
                                  simp only [Act.put, List.setIfInBounds_toArray, List.set_cons_zero, List.set_cons_succ]
                                  apply wpAnyH_take (i := 13) (v := .int .i64 (q : Int))
                                  case hi => (simp only [List.getElem?_toArray, List.getElem?_cons_zero, List.getElem?_cons_succ]; rfl)
                                  case hs => kernel_rfl
                                  case hf => kernel_rfl
                                  case hr => kernel_rfl
                                  case hQ => exact fun _ _ _ h => h
                                  case hS => exact hHeld
                                  case hy =>
                                    refine Or.inl ⟨rfl, ?_⟩
                                    intro w hSw
                                    go_simp
                                  simp only [Act.put, List.setIfInBounds_toArray, List.set_cons_zero, List.set_cons_succ]
                                  apply wpAnyH_take (i := 14) (v := .pointer (some ⟨b7, q, none⟩))
                                  case hi => (simp only [List.getElem?_toArray, List.getElem?_cons_zero, List.getElem?_cons_succ]; rfl)
                                  case hs => kernel_rfl
                                  case hf => kernel_rfl
                                  case hr => kernel_rfl
                                  case hQ => exact fun _ _ _ h => h
                                  case hS => exact hHeld
                                  case hy =>
                                    refine Or.inl ⟨rfl, ?_⟩
                                    intro w hSw
                                    go_simp
                                  simp only [Act.put, List.setIfInBounds_toArray, List.set_cons_zero, List.set_cons_succ]
                                  apply wpAnyH_take (i := 16) (v := .pointer (some ⟨b, 2, none⟩))
                                  case hi => (simp only [List.getElem?_toArray, List.getElem?_cons_zero, List.getElem?_cons_succ]; rfl)
                                  case hs => kernel_rfl
                                  case hf => kernel_rfl
                                  case hr => kernel_rfl
                                  case hQ => exact fun _ _ _ h => h
                                  case hS => exact hHeld
                                  case hy =>
                                    refine Or.inl ⟨rfl, ?_⟩
                                    intro w hSw
                                    go_simp
                                  simp only [Act.put, List.setIfInBounds_toArray, List.set_cons_zero, List.set_cons_succ]
                                  apply wpAnyH_take (i := 17) (v := .int .i64 (p : Int))
                                  case hi => (simp only [List.getElem?_toArray, List.getElem?_cons_zero, List.getElem?_cons_succ]; rfl)
                                  case hs => kernel_rfl
                                  case hf => kernel_rfl
                                  case hr => kernel_rfl
                                  case hQ => exact fun _ _ _ h => h
                                  case hS => exact hHeld
                                  case hy =>
                                    refine Or.inl ⟨rfl, ?_⟩
                                    intro w hSw
                                    go_simp
                                  simp only [Act.put, List.setIfInBounds_toArray, List.set_cons_zero, List.set_cons_succ]
                                  apply wpAnyH_take (i := 18) (v := .slice (some ⟨g, 0, none⟩) L 128)
                                  case hi => (simp only [List.getElem?_toArray, List.getElem?_cons_zero, List.getElem?_cons_succ]; rfl)
                                  case hs => kernel_rfl
                                  case hf => kernel_rfl
                                  case hr => kernel_rfl
                                  case hQ => exact fun _ _ _ h => h
                                  case hS => exact hHeld
                                  case hy =>
                                    refine Or.inl ⟨rfl, ?_⟩
                                    intro w hSw
                                    go_simp
                                  simp only [Act.put, List.setIfInBounds_toArray, List.set_cons_zero, List.set_cons_succ]
                                  apply wpAnyH_take (i := 19) (v := .int .i64 (L : Int))
                                  case hi => (simp only [List.getElem?_toArray, List.getElem?_cons_zero, List.getElem?_cons_succ]; rfl)
                                  case hs => kernel_rfl
                                  case hf => kernel_rfl
                                  case hr => kernel_rfl
                                  case hQ => exact fun _ _ _ h => h
                                  case hS => exact hHeld
                                  case hy =>
                                    refine Or.inl ⟨rfl, ?_⟩
                                    intro w hSw
                                    go_simp
                                  simp only [Act.put, List.setIfInBounds_toArray, List.set_cons_zero, List.set_cons_succ]
                                  apply wpAnyH_take (i := 20) (v := .int .i64 ((p : Int) + (L : Int)))
                                  case hi => (simp only [List.getElem?_toArray, List.getElem?_cons_zero, List.getElem?_cons_succ]; rfl)
                                  case hs => kernel_rfl
                                  case hf => kernel_rfl
                                  case hr => kernel_rfl
                                  case hQ => exact fun _ _ _ h => h
                                  case hS => exact hHeld
                                  case hy =>
                                    refine Or.inl ⟨rfl, ?_⟩
                                    intro w hSw
                                    go_simp
                                  simp only [Act.put, List.setIfInBounds_toArray, List.set_cons_zero, List.set_cons_succ]
                                  refine wpAnyH_ready (rs := [5, 15]) (by kernel_rfl) (by simp) ?_
                                  refine AllReadyH.cons rfl (fun K hK => ?_) ?_
                                  · skip
                                    go_simp
                                    refine hK.out _ _ ?_ (fun hHeld => ?_)
                                    · exact hHeld
                                    clear hK K
                                    try simp only [Act.put, List.setIfInBounds_toArray, List.set_cons_zero, List.set_cons_succ]
                                    apply wpAnyH_take (i := 8) (v := .string (sv.extract 0 p))
                                    case hi => (simp only [List.getElem?_toArray, List.getElem?_cons_zero, List.getElem?_cons_succ]; rfl)
                                    case hs => kernel_rfl
                                    case hf => kernel_rfl
                                    case hr => kernel_rfl
                                    case hQ => exact fun _ _ _ h => h
                                    case hS => exact hHeld
                                    case hy =>
                                      refine Or.inl ⟨rfl, ?_⟩
                                      intro w hSw
                                      go_simp
                                    simp only [Act.put, List.setIfInBounds_toArray, List.set_cons_zero, List.set_cons_succ]
                                    apply wpAnyH_take (i := 11) (v := .string (sv.extract 0 p ++ sy))
                                    case hi => (simp only [List.getElem?_toArray, List.getElem?_cons_zero, List.getElem?_cons_succ]; rfl)
                                    case hs => kernel_rfl
                                    case hf => kernel_rfl
                                    case hr => kernel_rfl
                                    case hQ => exact fun _ _ _ h => h
                                    case hS => exact hHeld
                                    case hy =>
                                      refine Or.inl ⟨rfl, ?_⟩
                                      intro w hSw
                                      go_simp
                                    simp only [Act.put, List.setIfInBounds_toArray, List.set_cons_zero, List.set_cons_succ]
                                    refine wpAnyH_ready (rs := [15]) (by kernel_rfl) (by simp) ?_
                                    refine AllReadyH.cons rfl (fun K hK => ?_) AllReadyH.nil
                                    go_simp
                                    refine hK.out _ _ ?_ (fun hHeld => ?_)
                                    · exact hHeld
                                    clear hK K
                                    try simp only [Act.put, List.setIfInBounds_toArray, List.set_cons_zero, List.set_cons_succ]
                                    apply wpAnyH_take (i := 21) (v := .string (sv.extract (p + L) 128))
                                    case hi => (simp only [List.getElem?_toArray, List.getElem?_cons_zero, List.getElem?_cons_succ]; rfl)
                                    case hs => kernel_rfl
                                    case hf => kernel_rfl
                                    case hr => kernel_rfl
                                    case hQ => exact fun _ _ _ h => h
                                    case hS => exact hHeld
                                    case hy =>
                                      refine Or.inl ⟨rfl, ?_⟩
                                      intro w hSw
                                      go_simp
                                    simp only [Act.put, List.setIfInBounds_toArray, List.set_cons_zero, List.set_cons_succ]
                                    apply wpAnyH_take (i := 22) (v := .string (sv.extract 0 p ++ sy ++ sv.extract (p + L) 128))
                                    case hi => (simp only [List.getElem?_toArray, List.getElem?_cons_zero, List.getElem?_cons_succ]; rfl)
                                    case hs => kernel_rfl
                                    case hf => kernel_rfl
                                    case hr => kernel_rfl
                                    case hQ => exact fun _ _ _ h => h
                                    case hS => exact hHeld
                                    case hy =>
                                      refine Or.inl ⟨rfl, ?_⟩
                                      intro w hSw
                                      go_simp
                                    simp only [Act.put, List.setIfInBounds_toArray, List.set_cons_zero, List.set_cons_succ]
                                    apply wpAnyH_take (i := 23) (v := .pointer (some ⟨b7, q, none⟩))
                                    case hi => (simp only [List.getElem?_toArray, List.getElem?_cons_zero, List.getElem?_cons_succ]; rfl)
                                    case hs => kernel_rfl
                                    case hf => kernel_rfl
                                    case hr => kernel_rfl
                                    case hQ => exact fun _ _ _ h => h
                                    case hS => exact hHeld
                                    case hy =>
                                      refine Or.inl ⟨rfl, ?_⟩
                                      intro w hSw
                                      go_simp
                                    simp only [Act.put, List.setIfInBounds_toArray, List.set_cons_zero, List.set_cons_succ]
                                    refine wpAnyH_ready (rs := [24]) (by kernel_rfl) (by simp) ?_
                                    refine AllReadyH.cons rfl (fun K hK => ?_) AllReadyH.nil
                                    go_simp
                                    refine hK.out _ _ ?_ (fun hHeld => ?_)
                                    · exact Kp.setCell (F := fun k => k = b7) (p := ⟨b7, q, none⟩) hHeld (.inl rfl) _
                                    clear hK K
                                    try simp only [Act.put, List.setIfInBounds_toArray, List.set_cons_zero, List.set_cons_succ]
                                    refine wpAnyH_done (by kernel_rfl) ?_ _
                                    go_wp2_with fail
                                    go_meet
                                    exact ⟨Hst.out, Hz1.out⟩
                                  refine AllReadyH.cons rfl (fun K hK => ?_) AllReadyH.nil
                                  go_simp
                                  refine hK.out _ _ ?_ (fun hHeld => ?_)
                                  · exact hHeld
                                  clear hK K
                                  try simp only [Act.put, List.setIfInBounds_toArray, List.set_cons_zero, List.set_cons_succ]
                                  apply wpAnyH_take (i := 21) (v := .string (sv.extract (p + L) 128))
                                  case hi => (simp only [List.getElem?_toArray, List.getElem?_cons_zero, List.getElem?_cons_succ]; rfl)
                                  case hs => kernel_rfl
                                  case hf => kernel_rfl
                                  case hr => kernel_rfl
                                  case hQ => exact fun _ _ _ h => h
                                  case hS => exact hHeld
                                  case hy =>
                                    refine Or.inl ⟨rfl, ?_⟩
                                    intro w hSw
                                    go_simp
                                  simp only [Act.put, List.setIfInBounds_toArray, List.set_cons_zero, List.set_cons_succ]
                                  refine wpAnyH_ready (rs := [5]) (by kernel_rfl) (by simp) ?_
                                  refine AllReadyH.cons rfl (fun K hK => ?_) AllReadyH.nil
                                  go_simp
                                  refine hK.out _ _ ?_ (fun hHeld => ?_)
                                  · exact hHeld
                                  clear hK K
                                  try simp only [Act.put, List.setIfInBounds_toArray, List.set_cons_zero, List.set_cons_succ]
                                  apply wpAnyH_take (i := 8) (v := .string (sv.extract 0 p))
                                  case hi => (simp only [List.getElem?_toArray, List.getElem?_cons_zero, List.getElem?_cons_succ]; rfl)
                                  case hs => kernel_rfl
                                  case hf => kernel_rfl
                                  case hr => kernel_rfl
                                  case hQ => exact fun _ _ _ h => h
                                  case hS => exact hHeld
                                  case hy =>
                                    refine Or.inl ⟨rfl, ?_⟩
                                    intro w hSw
                                    go_simp
                                  simp only [Act.put, List.setIfInBounds_toArray, List.set_cons_zero, List.set_cons_succ]
                                  apply wpAnyH_take (i := 11) (v := .string (sv.extract 0 p ++ sy))
                                  case hi => (simp only [List.getElem?_toArray, List.getElem?_cons_zero, List.getElem?_cons_succ]; rfl)
                                  case hs => kernel_rfl
                                  case hf => kernel_rfl
                                  case hr => kernel_rfl
                                  case hQ => exact fun _ _ _ h => h
                                  case hS => exact hHeld
                                  case hy =>
                                    refine Or.inl ⟨rfl, ?_⟩
                                    intro w hSw
                                    go_simp
                                  simp only [Act.put, List.setIfInBounds_toArray, List.set_cons_zero, List.set_cons_succ]
                                  apply wpAnyH_take (i := 22) (v := .string (sv.extract 0 p ++ sy ++ sv.extract (p + L) 128))
                                  case hi => (simp only [List.getElem?_toArray, List.getElem?_cons_zero, List.getElem?_cons_succ]; rfl)
                                  case hs => kernel_rfl
                                  case hf => kernel_rfl
                                  case hr => kernel_rfl
                                  case hQ => exact fun _ _ _ h => h
                                  case hS => exact hHeld
                                  case hy =>
                                    refine Or.inl ⟨rfl, ?_⟩
                                    intro w hSw
                                    go_simp
                                  simp only [Act.put, List.setIfInBounds_toArray, List.set_cons_zero, List.set_cons_succ]
                                  apply wpAnyH_take (i := 23) (v := .pointer (some ⟨b7, q, none⟩))
                                  case hi => (simp only [List.getElem?_toArray, List.getElem?_cons_zero, List.getElem?_cons_succ]; rfl)
                                  case hs => kernel_rfl
                                  case hf => kernel_rfl
                                  case hr => kernel_rfl
                                  case hQ => exact fun _ _ _ h => h
                                  case hS => exact hHeld
                                  case hy =>
                                    refine Or.inl ⟨rfl, ?_⟩
                                    intro w hSw
                                    go_simp
                                  simp only [Act.put, List.setIfInBounds_toArray, List.set_cons_zero, List.set_cons_succ]
                                  refine wpAnyH_ready (rs := [24]) (by kernel_rfl) (by simp) ?_
                                  refine AllReadyH.cons rfl (fun K hK => ?_) AllReadyH.nil
                                  go_simp
                                  refine hK.out _ _ ?_ (fun hHeld => ?_)
                                  · exact Kp.setCell (F := fun k => k = b7) (p := ⟨b7, q, none⟩) hHeld (.inl rfl) _
                                  clear hK K
                                  try simp only [Act.put, List.setIfInBounds_toArray, List.set_cons_zero, List.set_cons_succ]
                                  refine wpAnyH_done (by kernel_rfl) ?_ _
                                  go_wp2_with fail
                                  go_meet
                                  exact ⟨Hst.out, Hz1.out⟩
                              case rest =>
                                obtain ⟨hP10, z3⟩ := hcut
                                have HP10 := Lib.hid hP10
                                have hnl' : (C.chs.map fun k : Nat => (k : Int)).length ≤ 200 := by rw [List.length_map]; exact hnl
                                have hkl : k ≤ (C.chs.map fun k : Nat => (k : Int)).length := by rw [List.length_map]; exact hk
                                clear hP10 HP9 HW z1 z2 Hs9 HPe Hs8 HC5 Hin Hroom
                                cases isb with
                                | true =>
                                  as_aux_lemma =>
                                    have hin := Lib.hid (His.out.1 rfl)
                                    clear hnl' hkl
                                    go_wp2_with fail
                                    go_meet
                                    refine ⟨C.wr q p ys, F9, ?_⟩
                                    rw [CSt.wr_chs_in hin.out]
                                    exact HP10.out
                                | false =>
                                  as_aux_lemma =>
                                    have hout := Lib.hid (show q ∉ C.ch from fun h => by have := His.out.2 h; cases this)
                                    obtain ⟨u1, hu1, hs1⟩ := HP10.out.sl.take_run k hkl
                                    obtain ⟨u2, hu2, hs2⟩ := HP10.out.sl.drop_run k hkl
                                    have Hs1 := Lib.hid hs1
                                    have Hs2 := Lib.hid hs2
                                    have Hnl := Lib.hid hnl'
                                    clear hs1 hs2 hnl' hkl
                                    go_upto_region 39 with fail
                                    have hl1 : ∀ W : World, Kp (fun _ => False) wc W → W.cell? ⟨b, 1, none⟩ = some (.int .i64 (q : Int)) := fun W hW => hW.cell z3 (fun h => h)
                                    generalize hA9 : Value.slice A1 C.chs.length c1 = v9 at *
                                    clear z3
                                    have hkk : Kp (fun _ => False) wc wc := Kp.refl _ _
                                    go_region_held_law (fun W => Kp (fun _ => False) wc W)
                                      (first | assumption | exact Kp.drew (by assumption) | exact Kp.alloc (by assumption) _ | exact Kp.drew (Kp.alloc (by assumption) _))
                                      (first
                                        | (refine step_app rfl _ _ rfl rfl rfl wc.heap.size _ _ [] _ rfl (by first | exact OwnI.newD [] rfl rfl (by simp) (by simp) (by simp) | exact OwnI.newA [] rfl rfl (by simp) (by simp) (by simp) | exact OwnI.new' [] rfl rfl (by simp) (by simp) (by simp)) rfl (Hs1.out.kp (F := fun _ => False) (w := wc) (by assumption) (fun _ _ h => h)) (Kp.size (F := fun _ => False) (by assumption)) (by have := Hnl.out; simp; omega) ?_; intro v7 w7 hown7 hk7 hkp7; replace hkp7 := hkp7 wc (Nat.le_refl _) (by assumption))
                                        | (refine step_app rfl _ _ rfl rfl rfl wc.heap.size _ _ _ _ rfl hown8 rfl (Hs2.out.kp (F := fun _ => False) (w := wc) (by assumption) (fun _ _ h => h)) (Kp.size (F := fun _ => False) (by assumption)) (by have := Hnl.out; simp; omega) ?_; intro v9 w9 hown9 hk9 hkp9; replace hkp9 := hkp9 wc (Nat.le_refl _) (by assumption))
                                        | (refine step_app rfl _ _ rfl rfl rfl wc.heap.size _ _ _ [(q : Int)] rfl (by first | exact hown7 | exact hown7.kp (Kp.alloc (Kp.refl (fun _ => False) _) _) (fun _ _ h => h)) rfl (by first | exact (OwnI.new' (base := 0) [(q : Int)] rfl rfl (by simp) (by simp) (by simp [maxLen])).slI | exact slI_far (OwnI.newD (base := 0) [(q : Int)] rfl rfl (by simp) (by simp) (by simp [maxLen])).slI hk7 (by omega) | exact slI_far (OwnI.newA (base := 0) [(q : Int)] rfl rfl (by simp) (by simp) (by simp [maxLen])).slI hk7 (by omega)) (Kp.size (F := fun _ => False) (by assumption)) (by have := Hnl.out; simp; omega) ?_; intro v8 w8 hown8 hk8 hkp8; replace hkp8 := hkp8 wc (Nat.le_refl _) (by assumption)))
                                    all_goals
                                      have Hown := Lib.hid hown9
                                      have Hkp9 := Lib.hid hkp9
                                      clear hown7 hk7 hown8 hk8 hown9 hk9 hl1 hu1 hu2 Hs1 Hs2
                                      go_wp2_with fail
                                      go_meet
                                      refine ⟨C.wr q p ys, F9, ?_⟩
                                      rw [CSt.wr_chs_out hout.out Hb1.out Hb2.out]
                                      exact HP10.out.setOwn Hkp9.out Hown.out (by simp)
                            · as_aux_lemma =>
                                have hwn : ¬ want = 0 := by rcases hw with ⟨h, _⟩ | ⟨h, _⟩ <;> omega
                                have hw0 : (want == 0) = false := by simpa using hwn
                                have HW := Lib.hid (cp_write_no HPe.out no p want _ ys Hs8.out hno0 hno1 hp0 hp1 (by
                                  rcases hw with ⟨h1, h2⟩ | ⟨h1, h2, h3, h4, h5, h6⟩
                                  · exact .inl ⟨h1, by rw [hys]; exact h2⟩
                                  · obtain ⟨i0, i1⟩ : 0 ≤ no ∧ no < 12 := of_decide_eq_true (Hin.out.symm.trans h2)
                                    obtain ⟨q, rfl⟩ := Int.eq_ofNat_of_zero_le i0
                                    have hmem := CSt.chs_at (no := q) (fun i x h1 h2 => by have := Hb.out i x h1 h2; omega) (fun x h => by have := Hb2.out x h; omega)
                                    refine .inr ⟨h1, i0, i1, h3, by rw [hys]; exact h4, fun h => ?_, C.chs_perm.length_eq.symm.trans h6⟩
                                    have h7 := Hisb.out
                                    rw [h5] at h7
                                    exact of_decide_eq_false h7.symm ⟨i0, hmem.1 (by simpa using h)⟩))
                                have Hwn := Lib.hid hwn
                                clear hw hwn Hb Hb2 Hisb Hin HC5 hno0 hno1 hp0 hp1
                                go_wp2_with (first | (go_at_call 10; refine HW.out.mono ?_; rintro e w9 ⟨v5, rfl, hv5, hk5⟩; obtain ⟨t5, z5, rfl⟩ := hv5.iface; have HP9 := Lib.hid (HPe.out.kp0 hk5); replace hv5 := Lib.hid hv5; clear hk5) | (go_at_call 9; refine (law_Is hv5.out Hwn.out (He.out.kp HP9.out.cr.kp Hi.none)).mono ?_; rintro e w10 ⟨rfl, hk7⟩; have HP10 := Lib.hid (HP9.out.kp0 hk7); clear hk7))
                                go_meet
                                exact ⟨C, F1, HP10.out⟩
                · have kb0 : (kd == 0) = false := by simp [k0]
                  by_cases k1 : kd = 1
                  · subst k1
                    as_aux_lemma =>
                      by_cases hin : 0 ≤ no ∧ no < 12
                      · obtain rfl : inb = true := by rw [Hin.out]; exact decide_eq_true hin
                        obtain ⟨q5, rfl⟩ := Int.eq_ofNat_of_zero_le hin.1
                        have hlt : q5 < 12 := by omega
                        have hz : (q5 : Int) < 12 := by omega
                        have hz0 : (0 : Int) ≤ (q5 : Int) := by omega
                        clear hin Hin
                        go_upto_region 45 with (go_at_call 11; refine (cp_read HPb.out q5 hlt).mono ?_; rintro e w6 ⟨g5, rfl, hs5, hk5⟩; have HP6 := Lib.hid (HPb.out.kp0 hk5); replace hs5 := Lib.hid hs5; have z1 := hk5.cell y1 (fun h => h); clear hk5 HPb y0 y1 y2 y3 y4)
                        have hc5 : ∀ nq, (convert 29 9 (.slice (some ⟨g5, 0, none⟩) 128 128)).run Tryz.prog (w6.drewN nq) = .ok (.string (str (C.view q5))) (w6.drewN nq) := fun nq => conv_str (hs5.out.kp (F := fun _ => False) ((Kp.refl _ _).drewN nq) (fun _ _ h => h))
                        have c7 := cell_blk HP6.out.r7 q5
                        rw [arrS_get _ _ hlt] at c7
                        generalize str (C.view q5) = s5 at *
                        go_wp2_with fail
                        go_quiet (fail)
                        clear hc5 c7
                        go_wp2_with fail
                        go_meet
                        exact ⟨C, F1, HP6.out.kp0 ((Kp.refl _ _).drewN _)⟩
                      · obtain rfl : inb = false := by rw [Hin.out]; exact decide_eq_false hin
                        have HR := Lib.hid (cp_read_no HPb.out no (by omega) hno0 hno1)
                        clear hin Hin
                        go_wp2_with (first | (go_at_call 11; refine HR.out.mono ?_; rintro e w6 ⟨v5, rfl, hv5, hk5⟩; obtain ⟨t5, z5, rfl⟩ := hv5.iface; have HP6 := Lib.hid (HPb.out.kp0 hk5); replace hv5 := Lib.hid hv5; clear hk5 y0 y1 y2 y3 y4) | (go_at_call 9; refine (law_Is hv5.out (by decide) (He.out.kp HP6.out.cr.kp Hi.none)).mono ?_; rintro e w7 ⟨rfl, hk7⟩; have HP7 := Lib.hid (HP6.out.kp0 hk7); clear hk7))
                        go_meet
                        exact ⟨C, F1, HP7.out⟩
                  · have kb1 : (kd == 1) = false := by simp [k1]
                    by_cases k2 : kd = 2
                    · subst k2
                      as_aux_lemma =>
                        have HT := Lib.hid (cp_flush HPb.out)
                        clear y0 y1 y2 y3 y4 hno0 hno1 hp0 hp1 Hin
                        go_wp2_with (first | (go_at_call 12; refine HT.out.mono ?_; rintro e w6 ⟨rfl, F2, hM2⟩; replace hM2 := Lib.hid hM2) | (refine wpList_loadS rfl _ rfl b7 rfl _ hM2.out.r7 ?_) | (refine wpList_storeS rfl _ _ rfl b8 _ _ rfl rfl hM2.out.r8 ?_; intro w7 hk7 hr7; have hM3 := Lib.hid (hM2.out.set8 hk7 hr7); clear hk7 hr7))
                        go_meet
                        refine ⟨C.flush, F2, ?_⟩
                        rw [HPb.out.flushed_chs]
                        exact hM3.out.nov.ext (fun j hj => (HPb.out.flushed j hj).1.symm) (fun j hj => (HPb.out.flushed j hj).2.symm)
                    · have kb2 : (kd == 2) = false := by simp [k2]
                      as_aux_lemma =>
                        have HT := Lib.hid (cp_drop HPb.out)
                        clear y0 y1 y2 y3 y4 hno0 hno1 hp0 hp1 Hin
                        go_wp2_with (first | (go_at_call 13; refine HT.out.mono ?_; rintro e w6 ⟨rfl, hM2⟩; replace hM2 := Lib.hid hM2) | (refine wpList_loadS rfl _ rfl b8 rfl _ hM2.out.r8 ?_) | (refine wpList_storeS rfl _ _ rfl b7 _ _ rfl rfl hM2.out.r7 ?_; intro w7 hk7 hr7; have hM3 := Lib.hid (hM2.out.set7 hk7 hr7); clear hk7 hr7))
                        go_meet
                        refine ⟨C.drop, F1, ?_⟩
                        rw [drop_chs]
                        exact hM3.out.nov.ext (fun j _ => (drop_view_row C j).symm) (fun j _ => rfl)
              case rest =>
                obtain ⟨C1, F2, hP⟩ := hcut
                have HP := Lib.hid hP
                have hl8 : C1.chs.length ≤ 200 := by
                  have := hP.cr.rep.few
                  have := C1.chs_perm.length_eq
                  omega
                clear hP HPb y0 y1 y2 y3 y4 HFb Hnc Hin hno0 hno1 hp0 hp1
                go_wp2_with (go_at_call 15; refine (cp_changed HP.out).mono ?_; rintro e w8 ⟨v8, rfl, hv8, hk8⟩; have HP8 := Lib.hid (HP.out.kp0 hk8); replace hv8 := Lib.hid hv8; clear hk8)
                refine (ref_SameInts hv8.out HP8.out.sl (by rw [List.length_map]; omega)).mono ?_
                rintro e w7 ⟨rfl, hk7⟩
                have HP7 := Lib.hid (HP8.out.kp0 hk7)
                clear hk7
                go_wp2_with fail
                clear HP8 HP hv8
                go_loopw [21] (fun x W => ∃ k : Nat, x = .int .i64 (k : Nat) ∧ k ≤ 12 ∧ CP w bd bc bj bm b7 b8 most C1 C1.view C1.D.row u10 C1.chs F2 W) (fun x _ => 12 - (intOf x).toNat)
                case atStart => exact ⟨0, rfl, by omega, HP7.out⟩
                case round =>
                  obtain ⟨k, rfl, hk, hP⟩ := hrel
                  have HP := Lib.hid hP
                  clear hP HP7
                  by_cases hlt : k < 12
                  · have hz : (k : Int) < 12 := by omega
                    have hz0 : (0 : Int) ≤ (k : Int) := by omega
                    go_upto_region 59 with (first | (go_at_call 11; refine (cp_read HP.out k hlt).mono ?_; rintro e w5 ⟨g5, rfl, hs5, hk5⟩; have HP5 := Lib.hid (HP.out.kp0 hk5); replace hs5 := Lib.hid hs5; clear hk5 HP) | (go_at_call 16; refine (cp_dread HP5.out k hlt).mono ?_; rintro e w6 ⟨g6, rfl, hs6, hk6⟩; have HP6 := Lib.hid (HP5.out.kp0 hk6); replace hs5 := Lib.hid (hs5.out.kp hk6 (fun _ _ h => h)); replace hs6 := Lib.hid hs6; clear hk6 HP5))
                    have hc5 : ∀ nq, (convert 29 9 (.slice (some ⟨g5, 0, none⟩) 128 128)).run Tryz.prog (w6.drewN nq) = .ok (.string (str (C1.view k))) (w6.drewN nq) := fun nq => conv_str (hs5.out.kp (F := fun _ => False) ((Kp.refl _ _).drewN nq) (fun _ _ h => h))
                    have hc6 : ∀ nq, (convert 29 9 (.slice (some ⟨g6, 0, none⟩) 128 128)).run Tryz.prog (w6.drewN nq) = .ok (.string (str (C1.D.row k))) (w6.drewN nq) := fun nq => conv_str (hs6.out.kp (F := fun _ => False) ((Kp.refl _ _).drewN nq) (fun _ _ h => h))
                    have c7 := cell_blk HP6.out.r7 k
                    have c8 := cell_blk HP6.out.r8 k
                    rw [arrS_get _ _ hlt] at c7 c8
                    generalize str (C1.view k) = s5 at *
                    generalize str (C1.D.row k) = s6 at *
                    go_wp2_with fail
                    go_quiet (fail)
                    clear hc5 hc6 c7 c8
                    go_wp2_with fail
                    go_roundw
                    case rel => exact ⟨k + 1, by go_num, by omega, HP6.out.kp0 ((Kp.refl _ _).drewN _)⟩
                    case measure => simp [intOf]; omega
                  · have hz : ¬ (k : Int) < 12 := by omega
                    go_wp2_with fail
                    go_roundg (50 - (i + 1))
                    case measure => omega
                    case rel => exact ⟨i + 1, C1, F2, by go_num, rfl, by omega, by omega, HP.out⟩
          · have h2i : ¬ (i : Int) < 50 := by omega
            have h2d : decide ((i : Int) < 50) = false := decide_eq_false h2i
            clear hP
            go_wp2_with fail
            go_ret
            exact ⟨rfl, HP.out.cr.kp⟩
        · have h1i : ¬ (i : Int) < (len : Int) := by omega
          clear hP
          go_wp2_with fail
          go_ret
          exact ⟨rfl, HP.out.cr.kp⟩
end Go.Proofs.YtmafihodbbagbaaGreatDoor
