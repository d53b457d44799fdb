/- AllocFills: the law's walk. -/
import Derived.Test.YtinaolijnjoneaaDoorOne
import Derived.Test.YtinaolijnjoneaaDoorLawIs
namespace Go.Proofs.YtinaolijnjoneaaDoor
open Go.RowKit
set_option maxHeartbeats 2000000
set_option maxRecDepth 20000

theorem fills_and (z : Int) (m : Nat) (hm : m < 9223372036854775808) : ∃ q : Nat, bits .and .i64 z m = (q : Int) ∧ q ≤ m := by
  have h : (BitVec.ofInt 64 z &&& BitVec.ofInt 64 (m : Int)).toNat ≤ m := by
    rw [BitVec.toNat_and]
    refine Nat.le_trans Nat.and_le_right ?_
    rw [BitVec.toNat_ofInt]; omega
  have e : bits .and .i64 z m = IntKind.i64.wrap ((BitVec.ofInt 64 z &&& BitVec.ofInt 64 (m : Int)).toNat : Int) := rfl
  rw [e, IntWalk.i64_in _ (by omega)]
  exact ⟨_, rfl, h⟩
/-- n bools in memory. -/
def arrN (n : Nat) (f : Nat → Bool) : Array Value := ((List.range n).map fun j => Value.bool (f j)).toArray
theorem arrN_get (n : Nat) (f : Nat → Bool) (j : Nat) (h : j < n) : (arrN n f)[j]? = some (.bool (f j)) := by simp [arrN, h]
theorem arrN_set (n : Nat) (f : Nat → Bool) (q : Nat) (b : Bool) : (arrN n f).setIfInBounds q (.bool b) = arrN n (upd f q b) := by
  apply Array.ext_getElem?
  intro i
  rw [Array.getElem?_setIfInBounds]
  by_cases h : q = i
  · subst h
    by_cases h2 : q < n
    · rw [if_pos rfl, if_pos (by simpa [arrN] using h2), arrN_get _ _ _ h2]; simp
    · rw [if_pos rfl, if_neg (by simpa [arrN] using h2)]
      simp [arrN, h2]
  · rw [if_neg h]
    by_cases h2 : i < n
    · rw [arrN_get _ _ _ h2, arrN_get _ _ _ h2, upd_other _ _ (fun e => h e.symm)]
    · simp [arrN, h2]
theorem arrN_new (n : Nat) : (List.replicate n (Value.bool false)).toArray = arrN n fun _ => false := by
  apply Array.ext'
  simp only [arrN]
  exact (List.map_const' ..).symm ▸ by simp
theorem arrN_ext (n : Nat) {f g : Nat → Bool} (h : ∀ j, j < n → f j = g j) : arrN n f = arrN n g := by
  unfold arrN
  congr 1
  exact List.map_congr_left fun j hj => by rw [h j (List.mem_range.1 hj)]
/-- Round the n blocks. -/
def rnd (n a : Nat) : Nat := if a < n then a else a - n
theorem rnd_lt {n a : Nat} (h : a < 2 * n) : rnd n a < n := by unfold rnd; split <;> omega
theorem rnd_tmod {n a : Nat} (h : a < 2 * n) (hn : 0 < n) : (a : Int).tmod n = ((rnd n a : Nat) : Int) := by
  rw [Int.tmod_eq_emod_of_nonneg (by omega), ← Int.natCast_emod]
  congr 1
  unfold rnd
  split
  · exact Nat.mod_eq_of_lt (by assumption)
  · rw [Nat.mod_eq_sub_mod (by omega), Nat.mod_eq_of_lt (by omega)]
/-- What is taken behind i Gives from at on. -/
def left (n at_ i : Nat) : Nat → Bool := fun j => decide (i ≤ if at_ ≤ j then j - at_ else j + n - at_)
theorem left_zero (n at_ : Nat) (j : Nat) : left n at_ 0 j = true := by simp [left]
theorem left_at {n at_ i : Nat} (ha : at_ < n) (hi : i < n) : left n at_ i (rnd n (at_ + i)) = true := by
  unfold left rnd
  rw [decide_eq_true_iff]
  split <;> split <;> omega
theorem left_step {n at_ i : Nat} (ha : at_ < n) (hi : i < n) (j : Nat) (hj : j < n) : upd (left n at_ i) (rnd n (at_ + i)) false j = left n at_ (i + 1) j := by
  unfold left rnd upd
  by_cases h : j = if at_ + i < n then at_ + i else at_ + i - n
  · rw [if_pos h]
    symm
    rw [decide_eq_false_iff_not]
    split at h <;> split <;> omega
  · rw [if_neg h]
    rw [decide_eq_decide]
    split at h <;> split <;> omega
theorem left_all {n at_ : Nat} (ha : at_ < n) (j : Nat) (hj : j < n) : left n at_ n j = false := by
  unfold left
  rw [decide_eq_false_iff_not]
  split <;> omega

theorem Tryd.infoBool : (Tryd.prog.info? 4).map (fun i => (i.zero, i.size, i.bytes)) = some (some (.bool false), 1, 1) := by kernel_rfl

theorem fills_walk {w : World} (hg : Gl w) (he : Ge w) (hng : NG ≤ w.heap.size) (a s : Int) :
    Calls Tryd.prog 6 #[.int .i64 a, .int .i64 s] w fun e w' => e = .returned (.bool true) ∧ Kp (fun _ => False) w w' := by
  have HM := Lib.hid (made7_ok (w := w) hg hng 60 (by omega) (by omega))
  obtain ⟨q, hq, hq5⟩ := fills_and a 511 (by decide)
  obtain ⟨p, hp, hp5⟩ := fills_and s 255 (by decide)
  simp only [Int.cast_ofNat_Int] at hq hp
  have e1 : ((q : Int).tmod 300) = ((q % 300 : Nat) : Int) := by rw [Int.tmod_eq_emod_of_nonneg (by omega)]; omega
  have hn3 : q % 300 < 300 := Nat.mod_lt _ (by omega)
  obtain ⟨n, hn⟩ : ∃ n, n = q % 300 + 1 := ⟨_, rfl⟩
  have e2 : ((q % 300 : Nat) : Int) + 1 = (n : Int) := by omega
  have hn1 : 1 ≤ n := by omega
  have hn300 : n ≤ 300 := by omega
  generalize q % 300 = q3 at *
  clear hn
  have e3 : (p : Int).tmod n = ((p % n : Nat) : Int) := by rw [Int.tmod_eq_emod_of_nonneg (by omega), Int.natCast_emod]
  have hpn : p % n < n := Nat.mod_lt _ (by omega)
  generalize p % n = at_ at *
  have Hg := Lib.hid hg
  have He := Lib.hid he
  have Hng := Lib.hid hng
  clear hg hng he
  go_enter Tryd.func6, Tryd.ntmps6
  go_wp2_with fail
  refine HM.out.mono ?_
  rintro e w1 ⟨bd, bc, bj, bm, F, rfl, hr, hk1, hf⟩
  have Hr := Lib.hid (show CRep w1 bc bj bm bd (CSt.made 60) F from hr)
  have Hk1 := Lib.hid hk1
  have Hf := Lib.hid hf
  clear hr hk1 hf
  go_wp2_with fail
  refine (alloc_New_ok bc 0 1000 n (by omega) (by omega) (by omega) (by omega)).mono ?_
  rintro e w2 ⟨rfl, hb, hk2⟩
  have HR := Lib.hid (mr_new Hr.out Hk1.out Hf.out hk2 (show MBlk w2 w1.heap.size bc 0 1000 n from hb) (Nat.le_refl _) (by omega) (by omega) (by omega))
  generalize w1.heap.size = m at *
  clear hb hk2
  go_wp2_with (at_make; refine wpList_makeN rfl 22 4 (.bool false) 1 Tryd.underlying22 Tryd.infoBool rfl _ _ rfl (n : Int) rfl rfl (by omega) (by omega) (by omega) ?_; rw [Int.toNat_natCast, arrN_new])
  rename World => w2
  generalize hbe : w2.heap.size = b
  have hlo : w.heap.size ≤ b := hbe ▸ HR.out.lt
  have hne : m ≠ b := hbe ▸ Nat.ne_of_lt HR.out.fresh.2
  go_loopw [10] (fun x wr => ∃ i F, x = .int .i64 (i : Nat) ∧ i ≤ n ∧ MR w m bc bj bm bd 1000 n (fun j => decide (j < i)) F wr ∧ ¬ F b ∧ wr.heap[b]? = some (.cells (arrN n fun j => decide (j < i)) 4 (0, 0))) (fun x _ => n - (intOf x).toNat)
  case atStart =>
    subst hbe
    exact ⟨0, F, rfl, by omega, (HR.out.kp0 ((Kp.refl _ _).alloc _)).ext (fun j _ => by simp), fun h => Nat.lt_irrefl _ (HR.out.fresh.1 _ h), by rw [new_blk]; simp⟩
  case round =>
    obtain ⟨i, F1, rfl, hi, hM, hFb, hb⟩ := hrel
    by_cases hlt : i < n
    · have hz : (i : Int) < (n : Int) := by omega
      have hz0 : (0 : Int) ≤ (i : Int) := by omega
      have hT := mr_take hM i hlt (by simp) (fun j hj => by simpa using hj)
      simp only [Int.natCast_add, Int.cast_ofNat_Int] at hT
      have HT := Lib.hid hT
      have HB := Lib.hid hb
      have HFb := Lib.hid hFb
      have hbl := lt_blk hb
      clear hT hb hM hFb
      have d1 : decide (1000 + (i : Int) < 1000) = false := decide_eq_false (by omega)
      have d2 : decide (1000 + (n : Int) ≤ 1000 + (i : Int)) = false := decide_eq_false (by omega)
      go_wp2_with (go_at_call 9; refine HT.out.mono ?_; rintro e w5 ⟨rfl, F2, hM2, hk2, hg2⟩; have hb5 := hk2.blk HB.out HFb.out; have fr5 := frozen_blk hb5 i; have c5 := cell_blk hb5 i; rw [arrN_get _ _ _ hlt] at c5; simp only [Nat.lt_irrefl, decide_false] at c5; replace hM2 := Lib.hid hM2; replace hb5 := Lib.hid hb5; have hF2 := Lib.hid (Gr.not hg2 HFb.out hbl); clear hk2 hg2)
      go_roundw
      case rel =>
        refine ⟨i + 1, F2, by go_num, by omega, (hM2.out.other (Kp.setCell (F := fun k => k = b) (p := ⟨b, i, none⟩) (Kp.refl _ _) (.inl rfl) _) hF2.out hne hlo Hng.out).ext (fun j _ => by simp only [upd]; split <;> simp <;> omega), hF2.out, ?_⟩
        rw [set_blk hb5.out, arrN_set]
        exact congrArg (fun x => some (Obj.cells x 4 (0, 0))) (arrN_ext n fun j _ => by simp only [upd]; split <;> simp <;> omega)
      case measure => simp [intOf]; omega
    · have hz : ¬ ((i : Int) < (n : Int)) := by omega
      have HT := Lib.hid (mr_full hM (fun j hj => by simp; omega))
      have HM1 := Lib.hid hM
      clear hM hb hFb
      go_wp2_with (first | (go_at_call 9; refine HT.out.mono ?_; rintro e w7 ⟨v7, rfl, hv7, hk7⟩; obtain ⟨t7, x7, rfl⟩ := hv7.iface; have hM7 := Lib.hid (HM1.out.kp0 hk7); replace hv7 := Lib.hid hv7; clear hk7) | (go_at_call 14; refine (law_Is hv7.out (by decide) (He.out.kp hM7.out.kp Hi.none)).mono ?_; rintro e w8 ⟨rfl, hk8⟩; have hM8 := Lib.hid (hM7.out.kp0 hk8); clear hk8))
      go_loopw [16] (fun x wr' => ∃ j F, x = .int .i64 (j : Nat) ∧ j ≤ n ∧ MR w m bc bj bm bd 1000 n (left n at_ j) F wr') (fun x _ => n - (intOf x).toNat)
      case atStart => exact ⟨0, F1, rfl, by omega, hM8.out.ext (fun j hj => by rw [left_zero]; simp; omega)⟩
      case round =>
        obtain ⟨j, F2, rfl, hj, hM2⟩ := hrel
        by_cases hlt2 : j < n
        · have hz2 : (j : Int) < (n : Int) := by omega
          have hr1 := rnd_lt (n := n) (a := at_ + j) (by omega)
          have hG := mr_give hM2 (rnd n (at_ + j)) hr1 (left_at hpn hlt2)
          simp only [Int.natCast_add, Int.cast_ofNat_Int] at hG
          have e4 := rnd_tmod (n := n) (a := at_ + j) (by omega) (by omega)
          rw [Int.natCast_add] at e4
          have HST := Lib.hid (left_step (n := n) hpn hlt2)
          have HG := Lib.hid hG
          clear hG hM2
          generalize rnd n (at_ + j) = r at *
          go_wp2_with (go_at_call 12; refine HG.out.mono ?_; rintro e w5 ⟨rfl, F3, hM3, hk3, hg3⟩; replace hM3 := Lib.hid hM3; clear hk3 hg3)
          go_roundw
          case rel => exact ⟨j + 1, F3, by go_num, by omega, hM3.out.ext HST.out⟩
          case measure => simp [intOf]; omega
        · have hz2 : ¬ ((j : Int) < (n : Int)) := by omega
          have hjn : j = n := by omega
          have hF := mr_free hM2 (k := 0) (by omega) (fun x hx => by rw [hjn, left_all hpn x hx]; simp)
          simp only [Int.natCast_zero, Int.cast_ofNat_Int, Int.sub_zero] at hF
          have HF := Lib.hid hF
          have HM3 := Lib.hid hM2
          clear hF hM2 hjn
          go_wp2_with (first | (go_at_call 10; refine HF.out.mono ?_; rintro e w9 ⟨rfl, hk9⟩; have hM9 := Lib.hid (HM3.out.kp0 hk9); clear hk9) | (go_at_call 11; refine (awake7_ok (Hg.out.kp hM9.out.kp Hi.none) (Nat.le_trans Hng.out hM9.out.kp.size)).mono ?_; rintro e wx ⟨rfl, hkx⟩; have hKx := Lib.hid (hM9.out.kp.trans hkx (Gr.refl _ _)); clear hkx))
          go_ret
          exact ⟨rfl, hKx.out⟩
end Go.Proofs.YtinaolijnjoneaaDoor
