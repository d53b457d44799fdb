/- AllocPlays: the law's walk. -/
import Derived.Test.YtinaolijnjoneaaGreatDoorP7
import Derived.Test.YtinaolijnjoneaaGreatDoorNum
import Derived.Test.YtinaolijnjoneaaGreatDoorLawIs
import Derived.Deep.CutBlock
import Derived.Deep.CutRange
import Derived.Deep.LoopGhost
import Derived.Deep.RegionHeldLaw
import Derived.BigRegion
namespace Go.Proofs.YtinaolijnjoneaaGreatDoor
open Go.RowKit
set_option maxHeartbeats 4000000
set_option maxRecDepth 20000

theorem and_nat7 (z : Int) (m : Nat) (hm : m < 9223372036854775808) : ∃ q : Nat, bits .and .i64 z m = (q : Int) ∧ q ≤ m := by
  have h : (BitVec.ofInt 64 z &&& BitVec.ofInt 64 (m : Int)).toNat ≤ m := by
    rw [BitVec.toNat_and]
    refine Nat.le_trans Nat.and_le_right ?_
    rw [BitVec.toNat_ofInt]; omega
  have e : bits .and .i64 z m = IntKind.i64.wrap ((BitVec.ofInt 64 z &&& BitVec.ofInt 64 (m : Int)).toNat : Int) := rfl
  rw [e, IntWalk.i64_in _ (by omega)]
  exact ⟨_, rfl, h⟩
theorem two_rows (w : World) (X : Obj) : ((w.alloc X).alloc X).drew.heap[w.heap.size]? = some X ∧ ((w.alloc X).alloc X).drew.heap[w.heap.size + 1]? = some X ∧ Kp (fun _ => False) w ((w.alloc X).alloc X).drew := by
  refine ⟨(((Kp.refl (fun _ => False) _).alloc X).drew).blk (new_blk w X) (fun h => h), ?_, (((Kp.refl _ _).alloc X).alloc X).drew⟩
  have := ((Kp.refl (fun _ => False) _).drew).blk (new_blk (w.alloc X) X) (fun h => h)
  rw [size_alloc] at this
  exact this
theorem plays7_walk {w : World} (hg : Gl w) (he : Ge w) (hng : NG ≤ w.heap.size) (a : Int) (A : Option Addr) (len cap : Nat) (hlen : len ≤ cap) (hcap : cap ≤ maxLen)
    (hA : 0 < len → ∃ ad, A = some ad ∧ ∀ j, j < len → ∃ kd no, w.cell? (ad.add (j * 2)) = some (.int .i64 kd) ∧ w.cell? (ad.add (j * 2 + 1)) = some (.int .i64 no) ∧ -9223372036854775808 ≤ no ∧ no ≤ 9223372036854775807) :
    Calls Tryz.prog 7 #[.int .i64 a, .slice A len cap] w fun e w' => e = .returned (.bool true) ∧ Kp (fun _ => False) w w' := by
  have HM := Lib.hid (made7_ok (w := w) hg hng 60 (by omega) (by omega))
  obtain ⟨q, hq, hq5⟩ := and_nat7 a 255 (by decide)
  simp only [Int.cast_ofNat_Int] at hq
  have e1 : ((q : Int).tmod 40) = ((q % 40 : Nat) : Int) := by rw [Int.tmod_eq_emod_of_nonneg (by omega)]; omega
  have hn3 : q % 40 < 40 := Nat.mod_lt _ (by omega)
  obtain ⟨n, hn⟩ : ∃ n, n = q % 40 + 1 := ⟨_, rfl⟩
  have e2 : ((q % 40 : Nat) : Int) + 1 = (n : Int) := by omega
  have hn1 : 1 ≤ n := by omega
  have hn40 : n ≤ 40 := by omega
  generalize q % 40 = q3 at *
  clear hn
  have HA := Lib.hid hA
  have Hg := Lib.hid hg
  have He := Lib.hid he
  have Hng := Lib.hid hng
  unfold maxLen at hcap
  clear hg hng he hA
  go_enter Tryz.func7, Tryz.ntmps7
  go_wp2_with fail
  refine HM.out.mono ?_
  rintro e w1 ⟨bd, bc, bj, bm, F, rfl, hr, hk1, hf⟩
  have Hr := Lib.hid (show CRep w1 bc bj bm bd (CSt.made 60) F from hr)
  have Hk1 := Lib.hid hk1
  have Hf := Lib.hid hf
  clear hr hk1 hf
  go_wp2_with (go_at_call 27; refine (awake7_ok (Hg.out.kp Hk1.out Hi.none) (Nat.le_trans Hng.out Hk1.out.size)).mono ?_; rintro e wz ⟨rfl, hkz⟩; have Hrz := Lib.hid (Hr.out.kp0 hkz); have Hkz := Lib.hid (Hk1.out.trans hkz (Gr.refl _ _)); clear hkz)
  refine (alloc_New_ok bc 2 15 n (by omega) (by omega) (by omega) (by omega)).mono ?_
  rintro e w2 ⟨rfl, hb, hk2⟩
  have HR := Lib.hid (pr_new Hrz.out Hkz.out Hf.out hk2 (show MBlk w2 wz.heap.size bc 2 15 n from hb) (Nat.le_refl _) hn1 hn40)
  generalize wz.heap.size = m at *
  clear hb hk2 Hr Hk1 Hrz Hkz Hf
  go_upto_region 8 with fail
  go_cut [9, 10] from 53 (fun x y W => ∃ b1 b2 : Nat, x = .slice (some ⟨b1, 0, none⟩) n n ∧ y = .slice (some ⟨b2, 0, none⟩) n n ∧ b1 ≠ b2 ∧ w2.heap.size ≤ b1 ∧ w2.heap.size ≤ b2 ∧ W.heap[b1]? = some (.cells (arrN n fun _ => false) 4 (0, 0)) ∧ W.heap[b2]? = some (.cells (arrN n fun _ => false) 4 (0, 0)) ∧ Kp (fun _ => False) w2 W)
  case first =>
    have hmk := fun W : World => make_bools n (by omega) W
    go_region
    all_goals (go_wp2_with fail; go_meet)
    · have h2 := two_rows w2 (.cells (arrN n fun _ => false) 4)
      exact ⟨_, _, rfl, rfl, by omega, by omega, by omega, h2.1, h2.2.1, h2.2.2⟩
    · have h2 := two_rows w2 (.cells (arrN n fun _ => false) 4)
      exact ⟨_, _, rfl, rfl, by omega, by omega, by omega, h2.2.1, h2.1, h2.2.2⟩
  case rest =>
    obtain ⟨b1, b2, rfl, rfl, hne, hlo1, hlo2, hb1, hb2, hkc⟩ := hcut
    have hws := HR.out.kp.size
    have HP := Lib.hid (show X7 w m bc bj bm bd n b1 b2 (fun _ => false) (fun _ => false) (fun _ => false) (fun _ => false) F wc from ⟨HR.out.kp0 hkc, fun h => by have := HR.out.fresh.1 _ h; omega, fun h => by have := HR.out.fresh.1 _ h; omega, hb1, hb2, fun h => by have := HR.out.fresh.2; omega, fun h => by have := HR.out.fresh.2; omega, hne, by omega, by omega, Hng.out⟩)
    clear hb1 hb2 hkc hlo1 hlo2 HR hws hne
    go_wp2_with fail
    go_loopg [11] 60 (fun g x wr => ∃ i S L F, x = .int .i64 (i : Nat) ∧ g = 60 - i ∧ i ≤ 60 ∧ i ≤ len ∧ X7 w m bc bj bm bd n b1 b2 S L S L F wr)
    case atStart => exact ⟨0, _, _, F, rfl, rfl, by omega, by omega, HP.out⟩
    case round =>
      obtain ⟨i, S, L, F1, rfl, hgk, hi, hl, hP⟩ := hrel
      have HP := Lib.hid hP
      by_cases h1 : i < len
      · have h1i : (i : Int) < (len : Int) := by omega
        have hi0 : (0 : Int) ≤ (i : Int) := by omega
        by_cases h2 : i < 60
        · have h2i : (i : Int) < 60 := by omega
          obtain ⟨ad, rfl, hcs⟩ := HA.out (by omega)
          obtain ⟨kd, no, c0, c1, hno0, hno1⟩ := hcs i h1
          have c0' := hP.pr.kp.cell c0 (fun h => h)
          have c1' := hP.pr.kp.cell c1 (fun h => h)
          rw [← Deep.add_add] at c1'
          replace c1' : wr.cell? ⟨(ad.add (i * 2)).block, (ad.add (i * 2)).off + 1, none⟩ = some (.int .i64 no) := c1'
          clear hcs c0 c1 hP
          go_upto_region 13 with fail
          have HP0 := HP
          have HPa := Lib.hid (HP.out.kp0 ((Kp.refl _ _).alloc (.cells #[.int .i64 kd, .int .i64 no] 59)))
          have nb := new_blk wr (.cells #[.int .i64 kd, .int .i64 no] 59)
          have hlt := lt_blk HP.out.r1
          generalize hwa : wr.alloc (.cells #[.int .i64 kd, .int .i64 no] 59) = wa at *
          obtain ⟨b, hbq⟩ : ∃ b, wr.heap.size = b := ⟨_, rfl⟩
          rw [hbq] at nb ⊢
          have x0 := cell_blk nb 0
          have x1 := cell_blk nb 1
          simp at x0 x1
          have HFb := Lib.hid (show ¬ F1 b from fun h => by have := HP.out.pr.fresh.1 _ h; omega)
          have Hnb := Lib.hid nb
          clear hwa c0' c1' nb hbq HP HP0 hlt
          obtain ⟨inb, hinb⟩ : ∃ inb : Bool, inb = decide (15 ≤ no ∧ no < 15 + (n : Int)) := ⟨_, rfl⟩
          go_cut [13] from 57 to 241 (fun x W => x = .bool inb ∧ W = wa)
          case first =>
            by_cases hlo : 15 ≤ no
            · by_cases hhi : no < 15 + (n : Int)
              · have d2 : decide (no < 15 + (n : Int)) = true := decide_eq_true hhi
                go_wp2_with fail
                go_meet
                exact ⟨by rw [hinb]; simp [hlo, hhi], rfl⟩
              · have d2 : decide (no < 15 + (n : Int)) = false := decide_eq_false hhi
                go_wp2_with fail
                go_meet
                exact ⟨by rw [hinb, decide_eq_false (p := 15 ≤ no ∧ no < 15 + (n : Int)) (by omega)], rfl⟩
            · have d1 : decide (15 ≤ no) = false := decide_eq_false hlo
              go_wp2_with fail
              go_meet
              exact ⟨by rw [hinb, decide_eq_false (p := 15 ≤ no ∧ no < 15 + (n : Int)) (by omega)], rfl⟩
          case rest =>
            obtain ⟨rfl, rfl⟩ := hcut
            go_upto_block 2 with fail
            go_cut [] from 57 to 241 (fun W => ∃ S' L' F', X7 w m bc bj bm bd n b1 b2 S' L' S' L' F' W)
            case first =>
              by_cases k0 : kd = 0
              · subst k0
                as_aux_lemma =>
                  clear hinb hno0 hno1 x1 HFb Hnb
                  go_wp2_with fail
                  go_loopw [14] (fun x W => ∃ q5 : Nat, x = .int .i64 (q5 : Nat) ∧ q5 ≤ n ∧ (∀ j, j < q5 → S j = true) ∧ W = wc) (fun x _ => n - (intOf x).toNat)
                  case atStart => exact ⟨0, rfl, by omega, fun j hj => by omega, rfl⟩
                  case round =>
                    obtain ⟨q5, rfl, hat, hall, rfl⟩ := hrel
                    have Hall := Lib.hid hall
                    clear hall
                    by_cases hlt : q5 < n
                    · have hz : (q5 : Int) < (n : Int) := by omega
                      have hz0 : (0 : Int) ≤ (q5 : Int) := by omega
                      have c9 := HPa.out.cell1 hlt
                      cases hs : S q5
                      · rw [hs] at c9
                        have hz3 : ((q5 : Int) == (n : Int)) = false := by simp; omega
                        have hz4 : ¬ (q5 : Int) = (n : Int) := by omega
                        have HT := Lib.hid (x7_take HPa.out q5 hlt hs Hall.out)
                        clear hs
                        go_wp2_with (go_at_call 29; refine HT.out.mono ?_; rintro e w5 ⟨rfl, F2, hM2, hk2⟩; have fr5 := hM2.froz1 q5; have c5 := hM2.cell1 hlt; replace hM2 := Lib.hid hM2; clear hk2 c9 x0)
                        go_meet
                        exact ⟨_, L, F2, hM2.out.store⟩
                      · rw [hs] at c9
                        have Hs := Lib.hid hs
                        clear hs
                        go_wp2_with fail
                        go_roundw
                        case rel => exact ⟨q5 + 1, by go_num, by omega, fun j hj => by rcases Nat.lt_succ_iff_lt_or_eq.1 hj with h | rfl; exact Hall.out j h; exact Hs.out, by trivial⟩
                        case measure => simp [intOf]; omega
                    · have hz : ¬ (q5 : Int) < (n : Int) := by omega
                      have hqn : q5 = n := by omega
                      have HT := Lib.hid (x7_full HPa.out (fun j hj => Hall.out j (by omega)))
                      subst hqn
                      go_wp2_with (first | (go_at_call 29; refine HT.out.mono ?_; rintro e w7 ⟨v7, rfl, hv7, hM7⟩; obtain ⟨t7, x7, rfl⟩ := hv7.iface; replace hM7 := Lib.hid hM7; replace hv7 := Lib.hid hv7) | (go_at_call 19; refine (law_Is hv7.out (by decide) (He.out.kp hM7.out.pr.kp Hi.none)).mono ?_; rintro e w8 ⟨rfl, hk8⟩; have hM8 := Lib.hid (hM7.out.kp0 hk8); clear hk8))
                      go_meet
                      exact ⟨S, L, F1, hM8.out⟩
              · have kb0 : (kd == 0) = false := by simp [k0]
                by_cases k1 : kd = 1
                · subst k1
                  as_aux_lemma =>
                    have hl0 : ∀ W : World, Kp F1 wc W → W.cell? ⟨b, 1, none⟩ = some (.int .i64 no) := fun W hW => by
                      have := cell_blk (hW.blk Hnb.out HFb.out) 1
                      simpa using this
                    by_cases hin : 15 ≤ no ∧ no < 15 + (n : Int)
                    · obtain rfl : inb = true := by rw [hinb]; exact decide_eq_true hin
                      obtain ⟨q5, hq5⟩ : ∃ q5 : Nat, no = 15 + (q5 : Int) := ⟨(no - 15).toNat, by omega⟩
                      subst hq5
                      have hqn : q5 < n := by omega
                      have e15 : 15 + (q5 : Int) - 15 = (q5 : Int) := by omega
                      have hz : (q5 : Int) < (n : Int) := by omega
                      have hz0 : (0 : Int) ≤ (q5 : Int) := by omega
                      have c9 := HPa.out.cell1 hqn
                      clear hinb hin
                      cases hs : S q5
                      · rw [hs] at c9
                        have HG := Lib.hid (fun (W : World) (hW : Kp (fun _ => False) wc W) => x7_give_no (HPa.out.kp0 hW) (15 + (q5 : Int)) 7 (.inr ⟨rfl, q5, rfl, hqn, hs⟩) hno0 hno1)
                        have hl1 : ∀ W : World, Kp (fun _ => False) wc W → W.cell? ⟨b, 1, none⟩ = some (.int .i64 (15 + (q5 : Int))) := fun W hW => hl0 W (hW.mono (fun _ h => h.elim))
                        clear hs hl0
                        go_wp2_with fail
                        have hkk : Kp (fun _ => False) wc wc := Kp.refl _ _
                        go_region_held_law (fun W => Kp (fun _ => False) wc W)
                          (first | assumption | exact Kp.drew (by assumption) | exact Kp.trans (by assumption) (by assumption) (Gr.refl _ _))
                          (first | (go_at_call 30; refine (HG.out _ (by first | assumption | exact Kp.drew (by assumption))).mono ?_; rintro e w5 ⟨v5, rfl, hv5, hk5⟩; obtain ⟨t5, x5, rfl⟩ := hv5.iface) | (go_at_call 18; refine (ref_Num (15 + (q5 : Int)) hno0 hno1).mono ?_; rintro e w6 ⟨rfl, hk6⟩) | (go_at_call 19; refine (law_Is (by first | exact hv5 | exact hv5.kp (F := fun _ => False) hk6 (FCl.none _) | exact hv5.kp (F := fun _ => False) ((Kp.refl _ _).drew) (FCl.none _) | exact (hv5.kp (F := fun _ => False) hk6 (FCl.none _)).kp (F := fun _ => False) ((Kp.refl _ _).drew) (FCl.none _)) (by decide) (He.out.kp (HPa.out.kp0 (by first | assumption | exact Kp.drew (by assumption))).pr.kp Hi.none)).mono ?_; rintro e w7 ⟨rfl, hk7⟩))
                        all_goals (have hend := Lib.hid (HPa.out.kp0 (show Kp (fun _ => False) wc w7 by assumption)); clear hl1)
                        all_goals (go_wp2_with fail; go_meet; exact ⟨S, L, F1, hend.out⟩)
                      · rw [hs] at c9
                        have HG := Lib.hid (fun (W : World) (hW : Kp (fun _ => False) wc W) => x7_give (HPa.out.kp0 hW) q5 hqn hs)
                        clear hs
                        go_upto_region 34 with fail
                        go_cut [147] from 57 to 241 (fun x W => x = .bool false ∧ ∃ F', X7 w m bc bj bm bd n b1 b2 (upd S q5 false) L S L F' W ∧ W.cell? ⟨b, 1, none⟩ = some (.int .i64 (15 + (q5 : Int))))
                        case first =>
                          have hkk : Kp F1 wc wc := Kp.refl _ _
                          have hk0 : Kp (fun _ => False) wc wc := Kp.refl _ _
                          go_wp2_with fail
                          go_region_held_law (fun W => Kp F1 wc W)
                            (first | assumption | exact Kp.drew (by assumption) | exact Kp.trans (by assumption) (by assumption) (Gr.refl _ _))
                            (first | (go_at_call 30; refine (HG.out _ (by first | assumption | exact Kp.drew (by assumption))).mono ?_; rintro e w5 ⟨rfl, F2, hM2, hk2⟩) | (go_at_call 18; refine (ref_Num (15 + (q5 : Int)) hno0 hno1).mono ?_; rintro e w6 ⟨rfl, hk6⟩; have hk6' := hk6.mono (F' := F1) (fun _ h => h.elim)) | (go_at_call 19; refine (law_Is_nil _ _ _ _).mono ?_; rintro e w7 ⟨rfl, rfl⟩))
                          all_goals (go_wp2_with fail; go_meet)
                          all_goals (refine ⟨by rfl, F2, by first | exact hM2 | exact hM2.kp0 hk6 | exact hM2.kp0 ((Kp.refl _ _).drew) | exact (hM2.kp0 hk6).kp0 ((Kp.refl _ _).drew), hl0 _ (by first | assumption | exact Kp.drew (by assumption))⟩)
                        case rest =>
                          obtain ⟨rfl, F2, hM2, x1'⟩ := hcut
                          have fr5 := hM2.froz1 q5
                          have c5 := hM2.cell1 hqn
                          replace hM2 := Lib.hid hM2
                          clear c9 hl0 x0 x1
                          go_wp2_with fail
                          go_meet
                          exact ⟨_, L, F2, hM2.out.store⟩
                    · obtain rfl : inb = false := by rw [hinb]; exact decide_eq_false hin
                      have HG := Lib.hid (fun (W : World) (hW : Kp (fun _ => False) wc W) => x7_give_no (HPa.out.kp0 hW) no 1 (.inl ⟨rfl, by omega⟩) hno0 hno1)
                      have hl1 : ∀ W : World, Kp (fun _ => False) wc W → W.cell? ⟨b, 1, none⟩ = some (.int .i64 no) := fun W hW => hl0 W (hW.mono (fun _ h => h.elim))
                      clear hinb hl0 hin
                      go_wp2_with fail
                      have hkk : Kp (fun _ => False) wc wc := Kp.refl _ _
                      go_region_held_law (fun W => Kp (fun _ => False) wc W)
                        (first | assumption | exact Kp.drew (by assumption) | exact Kp.trans (by assumption) (by assumption) (Gr.refl _ _))
                        (first | (go_at_call 30; refine (HG.out _ (by first | assumption | exact Kp.drew (by assumption))).mono ?_; rintro e w5 ⟨v5, rfl, hv5, hk5⟩; obtain ⟨t5, x5, rfl⟩ := hv5.iface) | (go_at_call 18; refine (ref_Num no hno0 hno1).mono ?_; rintro e w6 ⟨rfl, hk6⟩) | (go_at_call 19; refine (law_Is (by first | exact hv5 | exact hv5.kp (F := fun _ => False) hk6 (FCl.none _) | exact hv5.kp (F := fun _ => False) ((Kp.refl _ _).drew) (FCl.none _) | exact (hv5.kp (F := fun _ => False) hk6 (FCl.none _)).kp (F := fun _ => False) ((Kp.refl _ _).drew) (FCl.none _)) (by decide) (He.out.kp (HPa.out.kp0 (by first | assumption | exact Kp.drew (by assumption))).pr.kp Hi.none)).mono ?_; rintro e w7 ⟨rfl, hk7⟩))
                      all_goals (have hend := Lib.hid (HPa.out.kp0 (show Kp (fun _ => False) wc w7 by assumption)); clear hl1)
                      all_goals (go_wp2_with fail; go_meet; exact ⟨S, L, F1, hend.out⟩)
                · have kb1 : (kd == 1) = false := by simp [k1]
                  by_cases k2 : kd = 2
                  · subst k2
                    as_aux_lemma =>
                      by_cases hin : 15 ≤ no ∧ no < 15 + (n : Int)
                      · obtain rfl : inb = true := by rw [hinb]; exact decide_eq_true hin
                        obtain ⟨q5, hq5⟩ : ∃ q5 : Nat, no = 15 + (q5 : Int) := ⟨(no - 15).toNat, by omega⟩
                        subst hq5
                        have hqn : q5 < n := by omega
                        have e15 : 15 + (q5 : Int) - 15 = (q5 : Int) := by omega
                        have hz : (q5 : Int) < (n : Int) := by omega
                        have hz0 : (0 : Int) ≤ (q5 : Int) := by omega
                        have c9 := HPa.out.cell1 hqn
                        have hT := x7_taken HPa.out q5 hqn
                        generalize S q5 = sq at c9 hT
                        have HT := Lib.hid hT
                        clear hinb hin hT
                        cases sq
                        · go_wp2_with (go_at_call 31; refine HT.out.mono ?_; rintro e w5 ⟨rfl, hk5⟩; have x1' := hk5.cell x1 (fun h => h); have c9' := hk5.cell c9 (fun h => h); have hM5 := Lib.hid (HPa.out.kp0 hk5); clear hk5 x0 x1 c9)
                          go_meet
                          exact ⟨S, L, F1, hM5.out⟩
                        · go_wp2_with (go_at_call 31; refine HT.out.mono ?_; rintro e w5 ⟨rfl, hk5⟩; have x1' := hk5.cell x1 (fun h => h); have c9' := hk5.cell c9 (fun h => h); have hM5 := Lib.hid (HPa.out.kp0 hk5); clear hk5 x0 x1 c9)
                          go_meet
                          exact ⟨S, L, F1, hM5.out⟩
                      · obtain rfl : inb = false := by rw [hinb]; exact decide_eq_false hin
                        have HT := Lib.hid (pr_taken_out HPa.out.pr no (by omega) hno0 hno1)
                        clear hinb hin
                        go_wp2_with (first | (go_at_call 31; refine HT.out.mono ?_; rintro e w5 ⟨v5, rfl, hv5, hk5⟩; obtain ⟨t5, z5, rfl⟩ := hv5.iface; have x1' := hk5.cell x1 (fun h => h); have hM5 := Lib.hid (HPa.out.kp0 hk5); replace hv5 := Lib.hid hv5; clear hk5 x0 x1) | (go_at_call 18; refine (ref_Num no hno0 hno1).mono ?_; rintro e w6 ⟨rfl, hk6⟩; have hM6 := Lib.hid (hM5.out.kp0 hk6); have hv6 := Lib.hid (hv5.out.kp hk6 (FCl.none _)); clear hk6) | (go_at_call 19; refine (law_Is hv6.out (by decide) (He.out.kp hM6.out.pr.kp Hi.none)).mono ?_; rintro e w7 ⟨rfl, hk7⟩; have hM7 := Lib.hid (hM6.out.kp0 hk7); clear hk7))
                        go_meet
                        exact ⟨S, L, F1, hM7.out⟩
                  · have kb2 : (kd == 2) = false := by simp [k2]
                    have r1 := HPa.out.r1
                    have r2 := HPa.out.r2
                    by_cases k3 : kd = 3
                    · subst k3
                      as_aux_lemma =>
                        have HT := Lib.hid (x7_flush HPa.out)
                        clear hinb hno0 hno1 x1 HFb Hnb
                        go_wp2_with (first | (go_at_call 16; refine HT.out.mono ?_; rintro e w5 ⟨rfl, F2, hM2⟩; replace hM2 := Lib.hid hM2; clear r1 r2) | ((with_reducible refine at_copy rfl ?_); refine wpList_copyN rfl _ _ rfl b2 b1 n _ _ rfl rfl hM2.out.r2 hM2.out.r1 ?_; intro w6 hk6 hr6; have hM6 := Lib.hid (hM2.out.set2 hk6 hr6); clear hk6 hr6))
                        go_meet
                        exact ⟨_, _, F2, hM6.out⟩
                    · have kb3 : (kd == 3) = false := by simp [k3]
                      as_aux_lemma =>
                        have HT := Lib.hid (x7_drop HPa.out)
                        clear hinb hno0 hno1 x1 HFb Hnb
                        go_wp2_with (first | (go_at_call 13; refine HT.out.mono ?_; rintro e w5 ⟨rfl, hM2⟩; replace hM2 := Lib.hid hM2; clear r1 r2) | ((with_reducible refine at_copy rfl ?_); refine wpList_copyN rfl _ _ rfl b1 b2 n _ _ rfl rfl hM2.out.r1 hM2.out.r2 ?_; intro w6 hk6 hr6; have hM6 := Lib.hid (hM2.out.set1 hk6 hr6); clear hk6 hr6))
                        go_meet
                        exact ⟨_, _, F1, hM6.out⟩
            case rest =>
              obtain ⟨S1, L1, F2, hP⟩ := hcut
              have HP := Lib.hid hP
              obtain ⟨ii, hii, hzi, hszi, hbyi⟩ := info_parts Tryz.infoInt
              clear hP HPa x0 x1 HFb Hnb hinb hno0 hno1
              go_wp2_with fail
              go_loopw [20, 21, 22] (fun x v y W => ∃ k fr : Nat, k ≤ n ∧ fr + (allL S1 k).length = k ∧ x = .int .i64 (fr : Nat) ∧ y = .int .i64 (k : Nat) ∧ W.ownsRow wc.heap.size 3 1 v (allL S1 k).length (ints (allL S1 k)) ∧ Kp (fun _ => False) wc W) (fun _ _ y _ => n - (intOf y).toNat)
              case atStart => exact ⟨0, 0, Nat.zero_le _, rfl, rfl, rfl, World.ownsRow_nil _ _ _ _, Kp.refl _ _⟩
              case round =>
                obtain ⟨k, fr, hk, hfr, rfl, rfl, hown, hkp⟩ := hrel
                have Hown := Lib.hid hown
                have Hkp := Lib.hid hkp
                have Hst := Lib.hid (allL_step S1 k)
                clear hown hkp
                by_cases hlt : k < n
                · have hz : (k : Int) < (n : Int) := by omega
                  have hz0 : (0 : Int) ≤ (k : Int) := by omega
                  have c9 := (HP.out.kp0 Hkp.out).cell1 hlt
                  cases hs : S1 k
                  · rw [hs] at c9
                    have ho2 : wr.ownsRow wc.heap.size 3 1 u21 (allL S1 (k + 1)).length (ints (allL S1 (k + 1))) := by
                      rw [Hst.out, hs, if_neg (by simp), List.append_nil]; exact Hown.out
                    have hle : (allL S1 (k + 1)).length = (allL S1 k).length := by rw [Hst.out, hs, if_neg (by simp), List.append_nil]
                    have HO2 := Lib.hid ho2
                    clear ho2 hs
                    go_wp2_with fail
                    go_roundw
                    case rel => exact ⟨k + 1, fr + 1, by omega, by omega, by go_num, by go_num, HO2.out, Hkp.out⟩
                    case measure => simp [intOf]; omega
                  · rw [hs] at c9
                    have Hs := Lib.hid hs
                    have hle : (allL S1 (k + 1)).length = (allL S1 k).length + 1 := by rw [Hst.out, hs, if_pos rfl, List.length_append]; rfl
                    clear hs
                    go_wp2_with (at_builtin; refine wpList_append_lies _ rfl _ _ 34 rfl wc.heap.size 3 ii (.int .i64 0) 1 8 Tryz.underlying34 hii hzi hszi hbyi rfl (by decide) _ _ _ rfl (Hown.out.alloc _) ⟨wr.heap.size, 0, none⟩ 1 1 [.int .i64 (15 + (k : Int))] rfl rfl (fun j u hj => by rw [add0, cell_blk (new_blk wr _)]; cases j with | zero => simpa using hj | succ j => simp at hj) (by simp [Value.oneCell']) (by omega) (by unfold maxLen; omega) (by omega) (by have := Hkp.out.size; have := size_alloc wr (.cells #[.int .i64 (15 + (k : Int))] 3); omega) _ rfl ?_; intro g2 cap2 w2 hown2 hgr2 hat2 hlt2)
                    have ho2 : w2.ownsRow wc.heap.size 3 1 (.slice (some ⟨g2, 0, none⟩) ((allL S1 k).length + 1) cap2) (allL S1 (k + 1)).length (ints (allL S1 (k + 1))) := by
                      rw [hle, Hst.out, Hs.out, if_pos rfl, ints_app]; exact hown2
                    have hk2 : Kp (fun _ => False) wc w2 := (Hkp.out.alloc _).grown hgr2 (fun r hr => .inr (World.ownsRow.lt Hown.out r hr).1)
                    have HO2 := Lib.hid ho2
                    have HK2 := Lib.hid hk2
                    clear hown2 ho2 hk2 hgr2
                    go_roundw
                    case rel => exact ⟨k + 1, fr, by omega, by omega, rfl, by go_num, HO2.out, HK2.out⟩
                    case measure => simp [intOf]; omega
                · have hz : ¬ (k : Int) < (n : Int) := by omega
                  have hkn : k = n := by omega
                  subst hkn
                  have HP2 := Lib.hid (HP.out.kp0 Hkp.out)
                  obtain ⟨hsl, _, _⟩ := own_slI Hown.out
                  have Hsl := Lib.hid hsl
                  have hF := pr_free HP2.out.pr
                  rw [show ((k : Int) - ((allL S1 k).length : Int)) = (fr : Int) by omega] at hF
                  have HF := Lib.hid hF
                  have hle := allL_le S1 k
                  clear hF hsl
                  go_wp2_with (first | (go_at_call 32; refine HF.out.mono ?_; rintro e w9 ⟨rfl, hk9⟩; have HP9 := Lib.hid (HP2.out.kp0 hk9); have Hsl9 := Lib.hid (Hsl.out.kp hk9 (fun _ _ h => h)); clear hk9) | (go_at_call 33; refine (pr_all HP9.out.pr).mono ?_; rintro e w8 ⟨v8, rfl, hv8, hk8⟩; have HP8 := Lib.hid (HP9.out.kp0 hk8); have Hsl8 := Lib.hid (Hsl9.out.kp hk8 (fun _ _ h => h)); replace hv8 := Lib.hid hv8; clear hk8) | (go_at_call 20; refine (ref_SameInts hv8.out Hsl8.out (by omega)).mono ?_; rintro e w7 ⟨rfl, hk7⟩; have HP7 := Lib.hid (HP8.out.kp0 hk7); clear hk7))
                  go_roundg (60 - (i + 1))
                  case measure => omega
                  case rel => exact ⟨i + 1, S1, L1, F2, by go_num, rfl, by omega, by omega, HP7.out⟩
        · have h2i : ¬ (i : Int) < 60 := by omega
          have h2d : decide ((i : Int) < 60) = false := decide_eq_false h2i
          clear hP
          go_wp2_with fail
          go_ret
          exact ⟨rfl, HP.out.pr.kp⟩
      · have h1i : ¬ (i : Int) < (len : Int) := by omega
        clear hP
        go_wp2_with fail
        go_ret
        exact ⟨rfl, HP.out.pr.kp⟩
end Go.Proofs.YtinaolijnjoneaaGreatDoor
