/- AllocBounds: the law's walk. -/
import Derived.Test.YtinaolijnjoneaaDoorMade7
import Derived.Test.YtinaolijnjoneaaDoorLawIs
namespace Go.Proofs.YtinaolijnjoneaaDoor
open Go.RowKit
set_option maxHeartbeats 2000000
set_option maxRecDepth 20000

theorem alloc_New_bad {w : World} (bc : Nat) (a f n : Int) (h : ¬ (1 ≤ n ∧ n ≤ 2048 ∧ 0 ≤ a ∧ 0 ≤ f)) :
    Calls Tryd.prog 8 #[.pointer (some ⟨bc, 0, none⟩), .int .i64 a, .int .i64 f, .int .i64 n] w fun e w' => ∃ v, e = .returned (.tuple #[.pointer none, v]) ∧ IsErr w' v [(tx [97, 108, 108, 111, 99], tx [])] 1 ∧ Kp (fun _ => False) w w' := by
  have H := Lib.hid h
  clear h
  go_enter Tryd.func8, Tryd.ntmps8
  by_cases h1 : 1 ≤ n
  · by_cases h2 : n ≤ 2048
    · by_cases h3 : 0 ≤ a
      · have h4 : ¬ 0 ≤ f := fun h4 => H.out ⟨h1, h2, h3, h4⟩
        go_wp2_with (go_at_call 18; refine (alloc_wrong _ _ _ (by decide)).mono ?_; rintro e w1 ⟨v, rfl, hv, hk⟩; replace hv := Lib.hid hv; replace hk := Lib.hid hk)
        go_ret2
        exact ⟨v, rfl, hv.out, hk.out⟩
      · go_wp2_with (go_at_call 18; refine (alloc_wrong _ _ _ (by decide)).mono ?_; rintro e w1 ⟨v, rfl, hv, hk⟩; replace hv := Lib.hid hv; replace hk := Lib.hid hk)
        go_ret2
        exact ⟨v, rfl, hv.out, hk.out⟩
    · go_wp2_with (go_at_call 18; refine (alloc_wrong _ _ _ (by decide)).mono ?_; rintro e w1 ⟨v, rfl, hv, hk⟩; replace hv := Lib.hid hv; replace hk := Lib.hid hk)
      go_ret2
      exact ⟨v, rfl, hv.out, hk.out⟩
  · go_wp2_with (go_at_call 18; refine (alloc_wrong _ _ _ (by decide)).mono ?_; rintro e w1 ⟨v, rfl, hv, hk⟩; replace hv := Lib.hid hv; replace hk := Lib.hid hk)
    go_ret2
    exact ⟨v, rfl, hv.out, hk.out⟩
theorem alloc_New_nil {w : World} (a f n : Int) :
    Calls Tryd.prog 8 #[.pointer none, .int .i64 a, .int .i64 f, .int .i64 n] w fun e w' => ∃ v, e = .returned (.tuple #[.pointer none, v]) ∧ IsErr w' v [(tx [97, 108, 108, 111, 99], tx [])] 1 ∧ Kp (fun _ => False) w w' := by
  go_enter Tryd.func8, Tryd.ntmps8
  go_wp2_with (go_at_call 18; refine (alloc_wrong _ _ _ (by decide)).mono ?_; rintro e w1 ⟨v, rfl, hv, hk⟩; replace hv := Lib.hid hv; replace hk := Lib.hid hk)
  go_ret2
  exact ⟨v, rfl, hv.out, hk.out⟩

theorem bnd_walk {w : World} (hg : Gl w) (he : Ge w) (hng : NG ≤ w.heap.size) (a f n : Int) :
    Calls Tryd.prog 5 #[.int .i64 a, .int .i64 f, .int .i64 n] w fun e w' => e = .returned (.bool true) ∧ Kp (fun _ => False) w w' := by
  have HM := Lib.hid (made7_ok (w := w) hg hng 60 (by omega) (by omega))
  have Hg := Lib.hid hg
  have He := Lib.hid he
  have Hng := Lib.hid hng
  clear hg he hng
  go_enter Tryd.func5, Tryd.ntmps5
  go_wp2_with fail
  refine HM.out.mono ?_
  rintro e w1 ⟨bd, bc, bj, bm, F, rfl, hr, hk1, hf⟩
  have Hk1 := Lib.hid hk1
  clear hr hk1 hf
  go_wp2_with fail
  by_cases hok : 1 ≤ n ∧ n ≤ 2048 ∧ 0 ≤ a ∧ 0 ≤ f
  · obtain ⟨h1, h2, h3, h4⟩ := hok
    refine (alloc_New_ok bc a f n h1 h2 h3 h4).mono ?_
    rintro e w2 ⟨rfl, _, hk2⟩
    have Hk2 := Lib.hid (Hk1.out.trans hk2 (Gr.refl _ _))
    clear hk2
    go_wp2_with (first | (go_at_call 8; refine (alloc_New_nil _ _ _).mono ?_; rintro e w3 ⟨v3, rfl, hv3, hk3⟩; obtain ⟨t3, x3, rfl⟩ := hv3.iface; replace hv3 := Lib.hid hv3; replace hk3 := Lib.hid (Hk2.out.trans hk3 (Gr.refl _ _))) | (go_at_call 14; refine (law_Is hv3.out (by decide) (He.out.kp hk3.out Hi.none)).mono ?_; rintro e w4 ⟨rfl, hk4⟩; replace hk4 := Lib.hid (hk3.out.trans hk4 (Gr.refl _ _))) | (go_at_call 11; refine (awake7_ok (Hg.out.kp hk4.out Hi.none) (Nat.le_trans Hng.out hk4.out.size)).mono ?_; rintro e w5 ⟨rfl, hk5⟩; replace hk5 := Lib.hid (hk4.out.trans hk5 (Gr.refl _ _))))
    go_ret
    exact ⟨rfl, hk5.out⟩
  · refine (alloc_New_bad bc a f n hok).mono ?_
    have H := Lib.hid hok
    clear hok
    rintro e w2 ⟨v2, rfl, hv2, hk2⟩
    obtain ⟨t2, x2, rfl⟩ := hv2.iface
    replace hv2 := Lib.hid hv2
    replace hk2 := Lib.hid (Hk1.out.trans hk2 (Gr.refl _ _))
    by_cases h1 : 1 ≤ n
    · by_cases h2 : n ≤ 2048
      · by_cases h3 : 0 ≤ a
        · have h4 : ¬ 0 ≤ f := fun h4 => H.out ⟨h1, h2, h3, h4⟩
          go_wp2_with (first | (go_at_call 14; refine (law_Is hv2.out (by decide) (He.out.kp hk2.out Hi.none)).mono ?_; rintro e wi ⟨rfl, hki⟩; replace hki := Lib.hid (hk2.out.trans hki (Gr.refl _ _)); clear hv2) | (go_at_call 8; refine (alloc_New_nil _ _ _).mono ?_; rintro e w3 ⟨v3, rfl, hv3, hk3⟩; obtain ⟨t3, x3, rfl⟩ := hv3.iface; replace hv3 := Lib.hid hv3; replace hk3 := Lib.hid (hki.out.trans hk3 (Gr.refl _ _))) | (go_at_call 14; refine (law_Is hv3.out (by decide) (He.out.kp hk3.out Hi.none)).mono ?_; rintro e w4 ⟨rfl, hk4⟩; replace hk4 := Lib.hid (hk3.out.trans hk4 (Gr.refl _ _))) | (go_at_call 11; refine (awake7_ok (Hg.out.kp hk4.out Hi.none) (Nat.le_trans Hng.out hk4.out.size)).mono ?_; rintro e w5 ⟨rfl, hk5⟩; replace hk5 := Lib.hid (hk4.out.trans hk5 (Gr.refl _ _))))
          go_ret
          exact ⟨rfl, hk5.out⟩
        · go_wp2_with (first | (go_at_call 14; refine (law_Is hv2.out (by decide) (He.out.kp hk2.out Hi.none)).mono ?_; rintro e wi ⟨rfl, hki⟩; replace hki := Lib.hid (hk2.out.trans hki (Gr.refl _ _)); clear hv2) | (go_at_call 8; refine (alloc_New_nil _ _ _).mono ?_; rintro e w3 ⟨v3, rfl, hv3, hk3⟩; obtain ⟨t3, x3, rfl⟩ := hv3.iface; replace hv3 := Lib.hid hv3; replace hk3 := Lib.hid (hki.out.trans hk3 (Gr.refl _ _))) | (go_at_call 14; refine (law_Is hv3.out (by decide) (He.out.kp hk3.out Hi.none)).mono ?_; rintro e w4 ⟨rfl, hk4⟩; replace hk4 := Lib.hid (hk3.out.trans hk4 (Gr.refl _ _))) | (go_at_call 11; refine (awake7_ok (Hg.out.kp hk4.out Hi.none) (Nat.le_trans Hng.out hk4.out.size)).mono ?_; rintro e w5 ⟨rfl, hk5⟩; replace hk5 := Lib.hid (hk4.out.trans hk5 (Gr.refl _ _))))
          go_ret
          exact ⟨rfl, hk5.out⟩
      · go_wp2_with (first | (go_at_call 14; refine (law_Is hv2.out (by decide) (He.out.kp hk2.out Hi.none)).mono ?_; rintro e wi ⟨rfl, hki⟩; replace hki := Lib.hid (hk2.out.trans hki (Gr.refl _ _)); clear hv2) | (go_at_call 8; refine (alloc_New_nil _ _ _).mono ?_; rintro e w3 ⟨v3, rfl, hv3, hk3⟩; obtain ⟨t3, x3, rfl⟩ := hv3.iface; replace hv3 := Lib.hid hv3; replace hk3 := Lib.hid (hki.out.trans hk3 (Gr.refl _ _))) | (go_at_call 14; refine (law_Is hv3.out (by decide) (He.out.kp hk3.out Hi.none)).mono ?_; rintro e w4 ⟨rfl, hk4⟩; replace hk4 := Lib.hid (hk3.out.trans hk4 (Gr.refl _ _))) | (go_at_call 11; refine (awake7_ok (Hg.out.kp hk4.out Hi.none) (Nat.le_trans Hng.out hk4.out.size)).mono ?_; rintro e w5 ⟨rfl, hk5⟩; replace hk5 := Lib.hid (hk4.out.trans hk5 (Gr.refl _ _))))
        go_ret
        exact ⟨rfl, hk5.out⟩
    · go_wp2_with (first | (go_at_call 14; refine (law_Is hv2.out (by decide) (He.out.kp hk2.out Hi.none)).mono ?_; rintro e wi ⟨rfl, hki⟩; replace hki := Lib.hid (hk2.out.trans hki (Gr.refl _ _)); clear hv2) | (go_at_call 8; refine (alloc_New_nil _ _ _).mono ?_; rintro e w3 ⟨v3, rfl, hv3, hk3⟩; obtain ⟨t3, x3, rfl⟩ := hv3.iface; replace hv3 := Lib.hid hv3; replace hk3 := Lib.hid (hki.out.trans hk3 (Gr.refl _ _))) | (go_at_call 14; refine (law_Is hv3.out (by decide) (He.out.kp hk3.out Hi.none)).mono ?_; rintro e w4 ⟨rfl, hk4⟩; replace hk4 := Lib.hid (hk3.out.trans hk4 (Gr.refl _ _))) | (go_at_call 11; refine (awake7_ok (Hg.out.kp hk4.out Hi.none) (Nat.le_trans Hng.out hk4.out.size)).mono ?_; rintro e w5 ⟨rfl, hk5⟩; replace hk5 := Lib.hid (hk4.out.trans hk5 (Gr.refl _ _))))
      go_ret
      exact ⟨rfl, hk5.out⟩
end Go.Proofs.YtinaolijnjoneaaDoor
