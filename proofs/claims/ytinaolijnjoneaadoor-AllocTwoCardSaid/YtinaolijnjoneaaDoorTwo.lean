/- AllocTwo: the law's walk. -/
import Derived.Test.YtinaolijnjoneaaDoorMade7
namespace Go.Proofs.YtinaolijnjoneaaDoor
open Go.RowKit
set_option maxHeartbeats 2000000
set_option maxRecDepth 20000

/-- What holds between two turns: n blocks of the first map are taken, m of the second one. -/
def TwoRel (w : World) (a b bc bj bm bd n m : Nat) (wr : World) : Prop :=
  ∃ C F, MapOn wr a bc bj bm bd 0 20 40 C F ∧ MapOn wr b bc bj bm bd 1 100 40 C F ∧ (∀ j, j < 40 → bitC C 0 j = decide (j < n)) ∧ (∀ j, j < 40 → bitC C 1 j = decide (j < m)) ∧ (∀ x ∈ C.ch, x < 2) ∧ C.most = 80 ∧ Kp (fun _ => False) w wr ∧ (∀ k, F k → w.heap.size ≤ k)

theorem two_take1 {w wr : World} {a b bc bj bm bd n m : Nat} (h : TwoRel w a b bc bj bm bd n m wr) (hn : n < 40) :
    Calls Tryd.prog 9 #[.pointer (some ⟨a, 0, none⟩)] wr fun e w' => e = .returned (.tuple #[.int .i64 (20 + n : Nat), .nilIface]) ∧ TwoRel w a b bc bj bm bd (n + 1) m w' := by
  obtain ⟨C, F, ha, hb, b1, b2, hc, hm, hk, hf⟩ := h
  refine (alloc_Take_ok ha n hn (by rw [b1 n hn]; simp) (fun j hj => by rw [b1 j (by omega)]; simpa using hj) (.inr (room_of ha.rep hc (by omega)))).mono ?_
  rintro e w' ⟨rfl, F', hr, hk', hg⟩
  refine ⟨rfl, C.flip 0 n, F', ha.flip hn hr hk' hg, ha.flip' hb hn hr hk' hg, fun j hj => ?_, fun j hj => ?_, fun x hx => ?_, hm, hk.over hk' hf, hg.over hf hk.size⟩
  · rw [ha.bit hn, b1 n hn]
    by_cases h : j = n
    · subst h; simp
    · rw [if_neg h, b1 j hj]; simp; omega
  · rw [flip_far (by omega), b2 j hj]
  · rcases flip_ch x hx with h | h
    · exact hc x h
    · omega
theorem two_take2 {w wr : World} {a b bc bj bm bd n m : Nat} (h : TwoRel w a b bc bj bm bd n m wr) (hn : m < 40) :
    Calls Tryd.prog 9 #[.pointer (some ⟨b, 0, none⟩)] wr fun e w' => e = .returned (.tuple #[.int .i64 (100 + m : Nat), .nilIface]) ∧ TwoRel w a b bc bj bm bd n (m + 1) w' := by
  obtain ⟨C, F, ha, hb, b1, b2, hc, hm, hk, hf⟩ := h
  refine (alloc_Take_ok hb m hn (by rw [b2 m hn]; simp) (fun j hj => by rw [b2 j (by omega)]; simpa using hj) (.inr (room_of hb.rep hc (by omega)))).mono ?_
  rintro e w' ⟨rfl, F', hr, hk', hg⟩
  refine ⟨rfl, C.flip 1 m, F', hb.flip' ha hn hr hk' hg, hb.flip hn hr hk' hg, fun j hj => ?_, fun j hj => ?_, fun x hx => ?_, hm, hk.over hk' hf, hg.over hf hk.size⟩
  · rw [flip_far (by omega), b1 j hj]
  · rw [hb.bit hn, b2 m hn]
    by_cases h : j = m
    · subst h; simp
    · rw [if_neg h, b2 j hj]; simp; omega
  · rcases flip_ch x hx with h | h
    · exact hc x h
    · omega
theorem two_free {w wr : World} {a b bc bj bm bd n m : Nat} (h : TwoRel w a b bc bj bm bd n m wr) (hn : n ≤ 40) (hm : m ≤ 40) :
    (Calls Tryd.prog 10 #[.pointer (some ⟨a, 0, none⟩)] wr fun e w' => e = .returned (.tuple #[.int .i64 (40 - (n : Int)), .nilIface]) ∧ Kp (fun _ => False) wr w') ∧
    (∀ w1, Kp (fun _ => False) wr w1 → Calls Tryd.prog 10 #[.pointer (some ⟨b, 0, none⟩)] w1 fun e w' => e = .returned (.tuple #[.int .i64 (40 - (m : Int)), .nilIface]) ∧ Kp (fun _ => False) w1 w') := by
  obtain ⟨C, F, ha, hb, b1, b2, hc, hmm, hk, hf⟩ := h
  constructor
  · refine (alloc_Free_ok ha).mono ?_
    rintro e w' ⟨rfl, hk'⟩
    rw [taken_len hn b1]
    exact ⟨rfl, hk'⟩
  · intro w1 h1
    refine (alloc_Free_ok (hb.step (hb.rep.kp0 h1) (h1.mono (fun _ h => h.elim)) (Gr.refl _ _) rfl hb.live hb.vb)).mono ?_
    rintro e w' ⟨rfl, hk'⟩
    rw [taken_len hm b2]
    exact ⟨rfl, hk'⟩

theorem two_walk {w : World} (hg : Gl w) (hng : NG ≤ w.heap.size) (A : Option Addr) (len cap : Nat) (hlen : len ≤ cap) (hcap : cap ≤ maxLen)
    (hA : 0 < len → ∃ ad, A = some ad ∧ ∀ j, j < len → ∃ b, w.cell? (ad.add j) = some (.bool b)) :
    Calls Tryd.prog 3 #[.slice A len cap] w fun e w' => e = .returned (.bool true) ∧ Kp (fun _ => False) w w' := by
  have HM := Lib.hid (made7_ok (w := w) hg hng 60 (by omega) (by omega))
  have HA := Lib.hid hA
  have Hg := Lib.hid hg
  have Hng := Lib.hid hng
  unfold maxLen at hcap
  clear hg hng hA
  go_enter Tryd.func3, Tryd.ntmps3
  go_wp2_with fail
  refine HM.out.mono ?_
  rintro e w1 ⟨bd, bc, bj, bm, F, rfl, hr, hk1, hf⟩
  have Hr := Lib.hid (show CRep w1 bc bj bm bd (CSt.made 60) F from hr)
  have Hk1 := Lib.hid hk1
  have Hf := Lib.hid hf
  clear hr hk1 hf
  go_wp2_with fail
  refine (alloc_New_ok bc 0 20 40 (by omega) (by omega) (by omega) (by omega)).mono ?_
  rintro e w2 ⟨rfl, hb, hk2⟩
  have M0 := Lib.hid (made_map Hr.out hk2 (show MBlk w2 w1.heap.size bc 0 20 40 from hb) (Nat.le_refl _) (by omega) (by omega) (by unfold nb; omega) (by omega))
  have Hk2 := Lib.hid hk2
  generalize w1.heap.size = a at *
  clear hb hk2
  go_wp2_with fail
  refine (alloc_New_ok bc 1 100 40 (by omega) (by omega) (by omega) (by omega)).mono ?_
  rintro e w3 ⟨rfl, hb, hk3⟩
  have M1 := Lib.hid (mapOn_new (at_ := 1) (from_ := 100) (n := 40) M0.out.rep hk3 (show MBlk w3 w2.heap.size bc 1 100 40 from hb) (Nat.le_refl _) rfl new_vb (by omega) (by omega) (by show 1 + nb 40 ≤ 60; unfold nb; omega) (by omega))
  have M0' := Lib.hid (M0.out.step (M0.out.rep.kp0 hk3) (hk3.mono (fun _ h => h.elim)) (Gr.refl _ _) rfl rfl new_vb)
  have Hk3 := Lib.hid ((Hk1.out.trans Hk2.out (Gr.refl _ _)).trans hk3 (Gr.refl _ _))
  generalize w2.heap.size = b at *
  have hrel0 : TwoRel w a b bc bj bm bd 0 0 w3 := ⟨_, _, M0'.out, M1.out, fun j _ => by simp [CSt.made, new_bit], fun j _ => by simp [CSt.made, new_bit], fun x hx => by simp [CSt.made, CSt.new] at hx, rfl, Hk3.out, Hf.out⟩
  have HR := Lib.hid hrel0
  clear hb hk3 hrel0
  go_wp2_with fail
  go_loopw [9, 10, 11] (fun x y z wr => ∃ n m : Nat, x = .int .i64 n ∧ y = .int .i64 m ∧ z = .int .i64 (n + m : Nat) ∧ n + m ≤ 40 ∧ n + m ≤ len ∧ TwoRel w a b bc bj bm bd n m wr) (fun _ _ z _ => len - (intOf z).toNat)
  case atStart => exact ⟨0, 0, rfl, rfl, rfl, by omega, by omega, HR.out⟩
  case round =>
    obtain ⟨n, m, rfl, rfl, rfl, h40, hl, hT⟩ := hrel
    have HT := Lib.hid hT
    clear hT
    by_cases hlt : n + m < len
    · by_cases h4 : n + m < 40
      · obtain ⟨ad, hAd, hbs⟩ := HA.out (by omega)
        obtain ⟨q, hq⟩ := hbs (n + m) hlt
        obtain ⟨C, F, _, _, _, _, _, _, hkr, _⟩ := id HT.out
        have hq' := hkr.cell hq (fun h => h)
        subst hAd
        clear hq hbs hkr
        have hl1 : ((n + m : Nat) : Int) < (len : Int) := by omega
        have hl2 : ((n + m : Nat) : Int) < 40 := by omega
        have hl0 : (0 : Int) ≤ ((n + m : Nat) : Int) := by omega
        have hz : (((n + m : Nat) : Int)).toNat = n + m := by omega
        have hn40 : n < 40 := by omega
        have hm40 : m < 40 := by omega
        generalize hs : n + m = s at *
        have Hs := Lib.hid hs
        clear hs
        cases q with
        | true =>
          go_wp2_with (go_at_call 9; refine (two_take1 HT.out hn40).mono ?_; rintro e w5 ⟨rfl, hT5⟩; have HT5 := Lib.hid hT5; clear hT5)
          go_roundw
          case rel => exact ⟨n + 1, m, by go_num, rfl, by rw [show ((n + 1 + m : Nat) : Int) = (s : Int) + 1 from by have := Hs.out; omega], by have := Hs.out; omega, by have := Hs.out; omega, HT5.out⟩
          case measure => simp [intOf]; omega
        | false =>
          go_wp2_with (go_at_call 9; refine (two_take2 HT.out hm40).mono ?_; rintro e w5 ⟨rfl, hT5⟩; have HT5 := Lib.hid hT5; clear hT5)
          go_roundw
          case rel => exact ⟨n, m + 1, rfl, by go_num, by rw [show ((n + (m + 1) : Nat) : Int) = (s : Int) + 1 from by have := Hs.out; omega], by have := Hs.out; omega, by have := Hs.out; omega, HT5.out⟩
          case measure => simp [intOf]; omega
      · have hl1 : ((n + m : Nat) : Int) < (len : Int) := by omega
        have hl2 : ¬ ((n + m : Nat) : Int) < 40 := by omega
        have hl3 : decide (((n + m : Nat) : Int) < 40) = false := by simp; omega
        obtain ⟨hfa, hfb⟩ := two_free HT.out (by omega) (by omega)
        have HFA := Lib.hid hfa
        have HFB := Lib.hid hfb
        obtain ⟨C, F, _, _, _, _, _, _, hkr, _⟩ := id HT.out
        have Hkr := Lib.hid hkr
        clear hfa hfb hkr
        go_wp2_with fail
        refine HFA.out.mono ?_
        rintro e w5 ⟨rfl, hk5⟩
        have Hk5 := Lib.hid hk5
        clear hk5
        go_wp2_with fail
        refine (HFB.out _ Hk5.out).mono ?_
        rintro e w6 ⟨rfl, hk6⟩
        have Hk6 := Lib.hid ((Hkr.out.trans Hk5.out (Gr.refl _ _)).trans hk6 (Gr.refl _ _))
        clear hk6
        have HAW := Lib.hid (awake7_ok (Hg.out.kp Hk6.out Hi.none) (Nat.le_trans Hng.out Hk6.out.size))
        go_wp2_with fail
        refine HAW.out.mono ?_
        rintro e w7 ⟨rfl, hk7⟩
        have Hk7 := Lib.hid hk7
        clear hk7
        go_wp2_with fail
        go_ret
        exact ⟨rfl, Hk6.out.trans Hk7.out (Gr.refl _ _)⟩
    · have hl1 : ¬ ((n + m : Nat) : Int) < (len : Int) := by omega
      have hl3 : decide (((n + m : Nat) : Int) < (len : Int)) = false := by simp; omega
      obtain ⟨hfa, hfb⟩ := two_free HT.out (by omega) (by omega)
      have HFA := Lib.hid hfa
      have HFB := Lib.hid hfb
      obtain ⟨C, F, _, _, _, _, _, _, hkr, _⟩ := id HT.out
      have Hkr := Lib.hid hkr
      clear hfa hfb hkr
      go_wp2_with fail
      refine HFA.out.mono ?_
      rintro e w5 ⟨rfl, hk5⟩
      have Hk5 := Lib.hid hk5
      clear hk5
      go_wp2_with fail
      refine (HFB.out _ Hk5.out).mono ?_
      rintro e w6 ⟨rfl, hk6⟩
      have Hk6 := Lib.hid ((Hkr.out.trans Hk5.out (Gr.refl _ _)).trans hk6 (Gr.refl _ _))
      clear hk6
      have HAW := Lib.hid (awake7_ok (Hg.out.kp Hk6.out Hi.none) (Nat.le_trans Hng.out Hk6.out.size))
      go_wp2_with fail
      refine HAW.out.mono ?_
      rintro e w7 ⟨rfl, hk7⟩
      have Hk7 := Lib.hid hk7
      clear hk7
      go_wp2_with fail
      go_ret
      exact ⟨rfl, Hk6.out.trans Hk7.out (Gr.refl _ _)⟩
end Go.Proofs.YtinaolijnjoneaaDoor
