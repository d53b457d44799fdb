/- AllocLeast: the law's walk. -/
import Derived.Test.YtinaolijnjoneaaDoorOne
import Derived.Test.YtinaolijnjoneaaDoorLawIs
namespace Go.Proofs.YtinaolijnjoneaaDoor
open Go.RowKit
set_option maxHeartbeats 2000000
set_option maxRecDepth 20000

theorem i64_bits_and (z : Int) (m : Nat) (hm : m < 9223372036854775808) : 0 ≤ bits .and .i64 z m ∧ bits .and .i64 z m ≤ m := by
  have h : (BitVec.ofInt 64 z &&& BitVec.ofInt 64 (m : Int)).toNat ≤ m := by
    rw [BitVec.toNat_and]
    refine Nat.le_trans Nat.and_le_right ?_
    rw [BitVec.toNat_ofInt]; omega
  have e : bits .and .i64 z m = IntKind.i64.wrap ((BitVec.ofInt 64 z &&& BitVec.ofInt 64 (m : Int)).toNat : Int) := rfl
  rw [e, IntWalk.i64_in _ (by omega)]
  omega
/-- Thirty bools in memory. -/
def arr (f : Nat → Bool) : Array Value := ((List.range 30).map fun j => Value.bool (f j)).toArray
theorem arr_get (f : Nat → Bool) (j : Nat) (h : j < 30) : (arr f)[j]? = some (.bool (f j)) := by simp [arr, h]
theorem arr_set (f : Nat → Bool) (q : Nat) (b : Bool) : (arr f).setIfInBounds q (.bool b) = arr (upd f q b) := by
  apply Array.ext_getElem?
  intro i
  rw [Array.getElem?_setIfInBounds]
  by_cases h : q = i
  · subst h
    by_cases h2 : q < 30
    · rw [if_pos rfl, if_pos (by simpa [arr] using h2), arr_get _ _ h2]; simp
    · rw [if_pos rfl, if_neg (by simpa [arr] using h2)]
      simp [arr, h2]
  · rw [if_neg h]
    by_cases h2 : i < 30
    · rw [arr_get _ _ h2, arr_get _ _ h2, upd_other _ _ (fun e => h e.symm)]
    · simp [arr, h2]
theorem upd_id {f : Nat → Bool} {q : Nat} {b : Bool} (h : f q = b) : upd f q b = f := by
  funext j
  simp only [upd]
  split
  · subst_vars; rfl
  · rfl
/-- How many of the first k are set. -/
def cnt (f : Nat → Bool) : Nat → Nat
  | 0 => 0
  | k + 1 => cnt f k + if f k then 1 else 0
theorem cnt_le (f : Nat → Bool) (k : Nat) : cnt f k ≤ k := by
  induction k with
  | zero => simp [cnt]
  | succ k ih => rw [cnt]; split <;> omega
theorem cnt_zero (f : Nat → Bool) (k : Nat) (h : cnt f k = 0) : ∀ j, j < k → f j = false := by
  induction k with
  | zero => intro j hj; omega
  | succ k ih =>
    intro j hj
    rw [cnt] at h
    by_cases e : j = k
    · subst e
      cases hf : f j with
      | false => rfl
      | true => rw [hf] at h; simp at h
    · exact ih (by omega) j (by omega)
theorem cnt_none (k : Nat) : cnt (fun _ => false) k = 0 := by
  induction k with
  | zero => rfl
  | succ k ih => rw [cnt, ih]; rfl
theorem cnt_upd_far (f : Nat → Bool) (q : Nat) (b : Bool) (k : Nat) (h : k ≤ q) : cnt (upd f q b) k = cnt f k := by
  induction k with
  | zero => rfl
  | succ k ih => rw [cnt, cnt, ih (by omega), upd_other _ _ (by omega)]
theorem cnt_upd (f : Nat → Bool) (q : Nat) (k : Nat) (hq : q < k) (h0 : f q = false) : cnt (upd f q true) k = cnt f k + 1 := by
  induction k with
  | zero => omega
  | succ k ih =>
    rw [cnt, cnt]
    by_cases e : q = k
    · subst e; rw [cnt_upd_far _ _ _ _ (Nat.le_refl _), upd_same, h0]; simp
    · rw [ih (by omega), upd_other _ _ (fun x => e x.symm)]; omega
theorem cnt_updF (f : Nat → Bool) (q : Nat) (k : Nat) (hq : q < k) (h0 : f q = true) : cnt (upd f q false) k + 1 = cnt f k := by
  induction k with
  | zero => omega
  | succ k ih =>
    rw [cnt, cnt]
    by_cases e : q = k
    · subst e; rw [cnt_upd_far _ _ _ _ (Nat.le_refl _), upd_same, h0]; simp
    · rw [← ih (by omega), upd_other _ _ (fun x => e x.symm)]; omega
/-- The least that is set. -/
theorem least_of (f : Nat → Bool) : ∀ k, 0 < cnt f k → ∃ i, i < k ∧ f i = true ∧ ∀ j, j < i → f j = false := by
  intro k
  induction k with
  | zero => intro h; simp [cnt] at h
  | succ k ih =>
    intro h
    by_cases h2 : 0 < cnt f k
    · obtain ⟨i, h3, h4, h5⟩ := ih h2; exact ⟨i, by omega, h4, h5⟩
    · have := cnt_zero f k (by omega)
      refine ⟨k, by omega, ?_, this⟩
      rw [cnt] at h
      cases hf : f k with
      | true => rfl
      | false => rw [hf] at h; simp at h; omega

/-- Between two rounds: those that are free are the marked ones, n of them. -/
structure LR (w : World) (m bc bj bm bd b : Nat) (f : Nat → Bool) (n : Nat) (wr : World) : Prop where
  ex : ∃ F, MR w m bc bj bm bd 20 30 (fun j => !(f j)) F wr ∧ ¬ F b
  blk : wr.heap[b]? = some (.cells (arr f) 37 (0, 0))
  num : cnt f 30 = n
  lo : w.heap.size ≤ b
  ne : m ≠ b
/-- The mark of a block is turned behind its Give or ahead of its Take. -/
theorem lr_set {w wr : World} {m bc bj bm bd b q : Nat} {f : Nat → Bool} {S : Nat → Bool} {F : Nat → Prop} {x : Bool} (hM : MR w m bc bj bm bd 20 30 S F wr) (hF : ¬ F b) (hb : wr.heap[b]? = some (.cells (arr f) 37 (0, 0))) (hlo : w.heap.size ≤ b) (hne : m ≠ b) (hN : NG ≤ w.heap.size) :
    MR w m bc bj bm bd 20 30 S F (wr.setCell ⟨b, q, none⟩ (.bool x)) ∧ (wr.setCell ⟨b, q, none⟩ (.bool x)).heap[b]? = some (.cells (arr (upd f q x)) 37 (0, 0)) :=
  ⟨hM.other (Kp.setCell (F := fun i => i = b) (Kp.refl _ _) (.inl rfl) _) hF hne hlo hN, by rw [set_blk hb, arr_set]⟩

theorem least_walk {w : World} (hg : Gl w) (he : Ge w) (hng : NG ≤ w.heap.size) (A : Option Addr) (len cap : Nat) (hlen : len ≤ cap) (hcap : cap ≤ maxLen)
    (hA : 0 < len → ∃ ad, A = some ad ∧ ∀ j, j < len → ∃ z, w.cell? (ad.add j) = some (.int .i64 z)) :
    Calls Tryd.prog 4 #[.slice A len cap] w fun e w' => e = .returned (.bool true) ∧ Kp (fun _ => False) w w' := by
  have HM := Lib.hid (made7_ok (w := w) hg hng 60 (by omega) (by omega))
  have HA := Lib.hid hA
  have Hg := Lib.hid hg
  have He := Lib.hid he
  have Hng := Lib.hid hng
  unfold maxLen at hcap
  clear hg hng he hA
  go_enter Tryd.func4, Tryd.ntmps4
  go_wp2_with fail
  refine HM.out.mono ?_
  rintro e w1 ⟨bd, bc, bj, bm, F, rfl, hr, hk1, hf⟩
  have Hr := Lib.hid (show CRep w1 bc bj bm bd (CSt.made 60) F from hr)
  have Hk1 := Lib.hid hk1
  have Hf := Lib.hid hf
  clear hr hk1 hf
  go_wp2_with fail
  refine (alloc_New_ok bc 0 20 30 (by omega) (by omega) (by omega) (by omega)).mono ?_
  rintro e w2 ⟨rfl, hb, hk2⟩
  have HR := Lib.hid (mr_new Hr.out Hk1.out Hf.out hk2 (show MBlk w2 w1.heap.size bc 0 20 30 from hb) (Nat.le_refl _) (by omega) (by omega) (by omega))
  generalize w1.heap.size = m at *
  clear hb hk2
  go_wp2_with fail
  go_loopw [7] (fun x wr => ∃ i F, x = .int .i64 (i : Nat) ∧ i ≤ 30 ∧ MR w m bc bj bm bd 20 30 (fun j => decide (j < i)) F wr) (fun x _ => 30 - (intOf x).toNat)
  case atStart => exact ⟨0, F, rfl, by omega, HR.out.ext (fun j _ => by simp)⟩
  case round =>
    obtain ⟨i, F1, rfl, hi, hM⟩ := hrel
    have HM1 := Lib.hid hM
    clear hM
    by_cases hlt : i < 30
    · have hz : (i : Int) < 30 := by omega
      go_wp2_with (go_at_call 9; refine (mr_take HM1.out i hlt (by simp) (fun j hj => by simpa using hj)).mono ?_; rintro e w5 ⟨rfl, F2, hM2, hk2, hg2⟩; replace hM2 := Lib.hid hM2; clear hk2 hg2)
      go_roundw
      case rel => exact ⟨i + 1, F2, by go_num, by omega, hM2.out.ext (fun j _ => by simp only [upd]; split <;> simp <;> omega)⟩
      case measure => simp [intOf]; omega
    · have hi30 : i = 30 := by omega
      have hz : ¬ ((i : Int) < 30) := by omega
      go_wp2_with fail
      rename World => wa
      generalize hbe : wa.heap.size = b
      go_loopw [11, 12] (fun x y wr' => ∃ n i f, x = .int .i64 (n : Nat) ∧ y = .int .i64 (i : Nat) ∧ i ≤ 40 ∧ i ≤ len ∧ LR w m bc bj bm bd b f n wr') (fun _ y _ => 40 - (intOf y).toNat)
      case atStart =>
        subst hbe
        refine ⟨0, 0, fun _ => false, rfl, rfl, by omega, by omega, ⟨⟨F1, (HM1.out.kp0 ((Kp.refl _ _).alloc _)).ext (fun j hj => by simp; omega), fun h => Nat.lt_irrefl _ (HM1.out.fresh.1 _ h)⟩, new_blk _ _, cnt_none 30, HM1.out.lt, Nat.ne_of_lt HM1.out.fresh.2⟩⟩
      case round =>
        obtain ⟨n, i, f, rfl, rfl, h40, hl, hL⟩ := hrel
        obtain ⟨⟨F2, hM2, hF2⟩, hb, hnum, hlo, hne⟩ := hL
        by_cases hli : i < len
        · by_cases hi40 : i < 40
          · obtain ⟨ad, hAd, hzs⟩ := HA.out (by omega)
            obtain ⟨z, hz⟩ := hzs i hli
            have hz' := hM2.kp.cell hz (fun h => h)
            subst hAd
            clear hz hzs
            obtain ⟨q, hq0, hq5⟩ : ∃ q : Nat, bits .and .i64 z 255 = (q : Int) ∧ q ≤ 255 := ⟨(bits .and .i64 z 255).toNat, by have := i64_bits_and z 255 (by decide); simp only [Int.cast_ofNat_Int] at this; omega, by have := i64_bits_and z 255 (by decide); simp only [Int.cast_ofNat_Int] at this; omega⟩
            have e1 : ((q : Int).tmod 30) = ((q % 30 : Nat) : Int) := by rw [Int.tmod_eq_emod_of_nonneg (by omega)]; omega
            have hk30 : q % 30 < 30 := by omega
            generalize q % 30 = k at *
            have hk0 : (0 : Int) ≤ (k : Int) := by omega
            have hk1 : (k : Int) < 30 := by omega
            have hi1 : ((i : Nat) : Int) < (len : Int) := by omega
            have hi2 : ((i : Nat) : Int) < 40 := by omega
            cases hfk : f k with
            | false =>
              have hG := mr_give hM2 k hk30 (by simp [hfk])
              simp only [Int.natCast_add, Int.cast_ofNat_Int] at hG
              have HG := Lib.hid hG
              have HB := Lib.hid hb
              have HFK := Lib.hid hfk
              have HF2 := Lib.hid hF2
              have hbl := lt_blk hb
              clear hG hb hM2 hF2 hfk
              go_wp2_with (go_at_call 12; refine HG.out.mono ?_; rintro e w5 ⟨rfl, F3, hM3, hk3, hg3⟩; have hb5 := hk3.blk HB.out HF2.out; have fr5 := frozen_blk hb5 k; have c5 := cell_blk hb5 k; rw [arr_get _ _ hk30, HFK.out] at c5; replace hM3 := Lib.hid hM3; replace hb5 := Lib.hid hb5; have hF3 := Lib.hid (Gr.not hg3 HF2.out hbl); clear hk3 hg3)
              go_quiet (fail)
              have hn30 := cnt_le f 30
              go_wp2_with fail
              have hs := lr_set (q := k) (x := true) (hM3.out.kp0 ((Kp.refl _ _).drewN nq)) hF3.out (show (w5.drewN nq).heap[b]? = _ from hb5.out) hlo hne Hng.out
              go_roundw
              case rel => exact ⟨n + 1, i + 1, upd f k true, by go_num, by go_num, by omega, by omega, ⟨⟨F3, hs.1.ext (fun j hj => by simp only [upd]; split <;> simp), hF3.out⟩, hs.2, by rw [cnt_upd f k 30 hk30 HFK.out, hnum], hlo, hne⟩⟩
              case measure => simp [intOf]; omega
            | true =>
              have hG := mr_give_free hM2 k hk30 (by simp [hfk])
              simp only [Int.natCast_add, Int.cast_ofNat_Int] at hG
              have HG := Lib.hid hG
              have HB := Lib.hid hb
              have HFK := Lib.hid hfk
              have HM2 := Lib.hid hM2
              clear hG hb hM2 hfk
              go_wp2_with (go_at_call 12; refine HG.out.mono ?_; rintro e w5 ⟨v5, rfl, hv5, hk5⟩; obtain ⟨t5, x5, rfl⟩ := hv5.iface; have hb5 := hk5.blk HB.out (fun h => h); have fr5 := frozen_blk hb5 k; have c5 := cell_blk hb5 k; rw [arr_get _ _ hk30, HFK.out] at c5; have hM5 := Lib.hid (HM2.out.kp0 hk5); replace hb5 := Lib.hid hb5; replace hv5 := Lib.hid hv5; clear hk5)
              go_region_held3 (fun W => W.cell? ⟨b, k, none⟩ = some (.bool true))
                (first | go_keep | exact hk6.cell (by assumption) (fun h => h))
                (first | (go_at_call 13; refine (law_Num (hv5.out.kp (F := fun _ => False) (by repeat (first | exact Kp.refl _ _ | refine Kp.drew ?_ | refine Kp.drewN ?_ _)) (FCl.none _)) (He.out.kp (hM5.out.kp.drew) Hi.none)).mono ?_; rintro e w6 ⟨rfl, hk6⟩))
              have hb6 := hk6.blk (show w5.drew.heap[b]? = _ from hb5.out) (fun h => h)
              have fr6 := frozen_blk hb6 k
              have hM6 := Lib.hid ((hM5.out.kp0 (Kp.refl _ _).drew).kp0 hk6)
              have hb6 := Lib.hid hb6
              clear hk6
              go_wp2_with fail
              have hs := lr_set (q := k) (x := true) hM6.out hF2 hb6.out hlo hne Hng.out
              go_roundw
              case rel => exact ⟨n, i + 1, f, rfl, by go_num, by omega, by omega, ⟨⟨F2, hs.1, hF2⟩, by rw [hs.2, upd_id HFK.out], hnum, hlo, hne⟩⟩
              case measure => simp [intOf]; omega
          · have hi2 : ¬ ((i : Nat) : Int) < 40 := by omega
            have hi1 : ((i : Nat) : Int) < (len : Int) := by omega
            have hi3 : decide (((i : Nat) : Int) < 40) = false := by simp; omega
            have hbl := lt_blk hb
            go_wp2_with fail
            go_loopw [11] (fun x wr' => ∃ n f, x = .int .i64 (n : Nat) ∧ LR w m bc bj bm bd b f n wr') (fun x _ => (intOf x).toNat)
            case atStart => exact ⟨n, f, rfl, ⟨⟨F2, hM2, hF2⟩, hb, hnum, hlo, hne⟩⟩
            case round =>
              obtain ⟨n, f, rfl, hL⟩ := hrel
              obtain ⟨⟨F4, hM4, hF4⟩, hb, hnum, hlo, hne⟩ := hL
              have hn30 := cnt_le f 30
              by_cases hn : 0 < n
              · have hn1 : (0 : Int) < ((n : Nat) : Int) := by omega
                obtain ⟨p, hp30, hfp, hpl⟩ := least_of f 30 (by omega)
                have HB := Lib.hid hb
                have HFP := Lib.hid hfp
                have HPL := Lib.hid hpl
                have HM4 := Lib.hid hM4
                have HF4 := Lib.hid hF4
                clear hb hfp hpl hM4 hF4
                go_wp2_with fail
                go_loop [15] (fun c => ∃ k : Nat, k ≤ p ∧ c = .int .i64 k) (fun c => 30 - (intOf c).toNat)
                case atStart => exact ⟨0, Nat.zero_le _, rfl⟩
                case round =>
                  obtain ⟨k, hkp, rfl⟩ := hrel
                  have hk0 : (0 : Int) ≤ (k : Int) := by omega
                  have hk1 : (k : Int) < 30 := by omega
                  have c5 := cell_blk HB.out k
                  rw [arr_get _ _ (by omega)] at c5
                  have fr5 := frozen_blk HB.out k
                  by_cases hlt : k < p
                  · rw [HPL.out k hlt] at c5
                    go_wp2_with fail
                    go_round
                    case rel => exact ⟨k + 1, by omega, by go_num⟩
                    case measure => simp [intOf]; omega
                  · have hkp' : k = p := by omega
                    subst hkp'
                    rw [HFP.out] at c5
                    have hs := lr_set (q := k) (x := false) HM4.out HF4.out HB.out hlo hne Hng.out
                    have HT := Lib.hid (mr_take hs.1 k hp30 (by simp [HFP.out]) (fun j hj => by simp [HPL.out j hj]))
                    have HS2 := Lib.hid hs.2
                    have hbl := lt_blk hs.2
                    clear hs
                    go_wp2_with (go_at_call 9; refine HT.out.mono ?_; rintro e w7 ⟨rfl, F5, hM5, hk5, hg5⟩; have hb5 := Lib.hid (hk5.blk HS2.out HF4.out); have hF5 := Lib.hid (Gr.not hg5 HF4.out hbl); replace hM5 := Lib.hid hM5; clear hk5 hg5)
                    go_roundw
                    case rel => exact ⟨n - 1, upd f k false, by go_num, ⟨⟨F5, hM5.out.ext (fun j hj => by simp only [upd]; split <;> simp), hF5.out⟩, hb5.out, by have := cnt_updF f k 30 hp30 HFP.out; omega, hlo, hne⟩⟩
                    case measure => simp [intOf]; omega
              · have hn1 : ¬ (0 : Int) < ((n : Nat) : Int) := by omega
                have hz0 := cnt_zero f 30 (by omega)
                have HT := Lib.hid (mr_full hM4 (fun j hj => by simp [hz0 j hj]))
                have HM4 := Lib.hid hM4
                clear hM4 hb
                go_wp2_with (first | (go_at_call 9; refine HT.out.mono ?_; rintro e w7 ⟨v7, rfl, hv7, hk7⟩; obtain ⟨t7, x7, rfl⟩ := hv7.iface; have hM7 := Lib.hid (HM4.out.kp0 hk7); replace hv7 := Lib.hid hv7; clear hk7) | (go_at_call 13; refine (law_Num hv7.out (He.out.kp hM7.out.kp Hi.none)).mono ?_; rintro e w8 ⟨rfl, hk8⟩; have hM8 := Lib.hid (hM7.out.kp0 hk8); clear hk8) | (go_at_call 11; refine (awake7_ok (Hg.out.kp hM8.out.kp Hi.none) (Nat.le_trans Hng.out hM8.out.kp.size)).mono ?_; rintro e w9 ⟨rfl, hk9⟩; have hK9 := Lib.hid (hM8.out.kp.trans hk9 (Gr.refl _ _)); clear hk9))
                go_ret
                exact ⟨rfl, hK9.out⟩
        · have hi1 : ¬ ((i : Nat) : Int) < (len : Int) := by omega
          have hbl := lt_blk hb
          go_wp2_with fail
          go_loopw [11] (fun x wr' => ∃ n f, x = .int .i64 (n : Nat) ∧ LR w m bc bj bm bd b f n wr') (fun x _ => (intOf x).toNat)
          case atStart => exact ⟨n, f, rfl, ⟨⟨F2, hM2, hF2⟩, hb, hnum, hlo, hne⟩⟩
          case round =>
            obtain ⟨n, f, rfl, hL⟩ := hrel
            obtain ⟨⟨F4, hM4, hF4⟩, hb, hnum, hlo, hne⟩ := hL
            have hn30 := cnt_le f 30
            by_cases hn : 0 < n
            · have hn1 : (0 : Int) < ((n : Nat) : Int) := by omega
              obtain ⟨p, hp30, hfp, hpl⟩ := least_of f 30 (by omega)
              have HB := Lib.hid hb
              have HFP := Lib.hid hfp
              have HPL := Lib.hid hpl
              have HM4 := Lib.hid hM4
              have HF4 := Lib.hid hF4
              clear hb hfp hpl hM4 hF4
              go_wp2_with fail
              go_loop [15] (fun c => ∃ k : Nat, k ≤ p ∧ c = .int .i64 k) (fun c => 30 - (intOf c).toNat)
              case atStart => exact ⟨0, Nat.zero_le _, rfl⟩
              case round =>
                obtain ⟨k, hkp, rfl⟩ := hrel
                have hk0 : (0 : Int) ≤ (k : Int) := by omega
                have hk1 : (k : Int) < 30 := by omega
                have c5 := cell_blk HB.out k
                rw [arr_get _ _ (by omega)] at c5
                have fr5 := frozen_blk HB.out k
                by_cases hlt : k < p
                · rw [HPL.out k hlt] at c5
                  go_wp2_with fail
                  go_round
                  case rel => exact ⟨k + 1, by omega, by go_num⟩
                  case measure => simp [intOf]; omega
                · have hkp' : k = p := by omega
                  subst hkp'
                  rw [HFP.out] at c5
                  have hs := lr_set (q := k) (x := false) HM4.out HF4.out HB.out hlo hne Hng.out
                  have HT := Lib.hid (mr_take hs.1 k hp30 (by simp [HFP.out]) (fun j hj => by simp [HPL.out j hj]))
                  have HS2 := Lib.hid hs.2
                  have hbl := lt_blk hs.2
                  clear hs
                  go_wp2_with (go_at_call 9; refine HT.out.mono ?_; rintro e w7 ⟨rfl, F5, hM5, hk5, hg5⟩; have hb5 := Lib.hid (hk5.blk HS2.out HF4.out); have hF5 := Lib.hid (Gr.not hg5 HF4.out hbl); replace hM5 := Lib.hid hM5; clear hk5 hg5)
                  go_roundw
                  case rel => exact ⟨n - 1, upd f k false, by go_num, ⟨⟨F5, hM5.out.ext (fun j hj => by simp only [upd]; split <;> simp), hF5.out⟩, hb5.out, by have := cnt_updF f k 30 hp30 HFP.out; omega, hlo, hne⟩⟩
                  case measure => simp [intOf]; omega
            · have hn1 : ¬ (0 : Int) < ((n : Nat) : Int) := by omega
              have hz0 := cnt_zero f 30 (by omega)
              have HT := Lib.hid (mr_full hM4 (fun j hj => by simp [hz0 j hj]))
              have HM4 := Lib.hid hM4
              clear hM4 hb
              go_wp2_with (first | (go_at_call 9; refine HT.out.mono ?_; rintro e w7 ⟨v7, rfl, hv7, hk7⟩; obtain ⟨t7, x7, rfl⟩ := hv7.iface; have hM7 := Lib.hid (HM4.out.kp0 hk7); replace hv7 := Lib.hid hv7; clear hk7) | (go_at_call 13; refine (law_Num hv7.out (He.out.kp hM7.out.kp Hi.none)).mono ?_; rintro e w8 ⟨rfl, hk8⟩; have hM8 := Lib.hid (hM7.out.kp0 hk8); clear hk8) | (go_at_call 11; refine (awake7_ok (Hg.out.kp hM8.out.kp Hi.none) (Nat.le_trans Hng.out hM8.out.kp.size)).mono ?_; rintro e w9 ⟨rfl, hk9⟩; have hK9 := Lib.hid (hM8.out.kp.trans hk9 (Gr.refl _ _)); clear hk9))
              go_ret
              exact ⟨rfl, hK9.out⟩
end Go.Proofs.YtinaolijnjoneaaDoor
