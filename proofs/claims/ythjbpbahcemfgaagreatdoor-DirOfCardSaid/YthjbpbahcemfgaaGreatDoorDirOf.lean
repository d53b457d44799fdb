/- DirOf: the law's walk. -/
import Derived.Test.YthjbpbahcemfgaaGreatDoorAwk10
import Derived.Test.YthjbpbahcemfgaaGreatDoorLawIs
import Derived.Test.YthjbpbahcemfgaaGreatDoorNum
namespace Go.Proofs.YthjbpbahcemfgaaGreatDoor
open Go.RowKit
set_option maxHeartbeats 4000000
set_option maxRecDepth 20000

theorem dirOf_walk {w : World} (hg : Gl w) (he : Ge w) (hng : NG ≤ w.heap.size) (id : Int) (h0 : -9223372036854775808 ≤ id) (h9 : id ≤ 9223372036854775807) :
    Calls Tryz.prog 5 #[.int .i64 id] w fun e w' => e = .returned (.bool true) ∧ Kp (fun _ => False) w w' := by
  have HM := Lib.hid (made10_ok (w := w) hg hng)
  have He := Lib.hid he
  have HA := Lib.hid (fun (W : World) (h1 : Gl W) (h2 : NG ≤ W.heap.size) => awake10_ok (w := W) h1 h2)
  clear hg hng he
  go_enter Tryz.func5, Tryz.ntmps5
  go_wp2_with fail
  refine HM.out.mono ?_
  rintro e w1 ⟨bD, bt, bx, bc, bj, bm, bd, F, rfl, _, hi⟩
  have HI := Lib.hid hi
  clear hi
  go_wp2_with fail
  refine (iu_make HI.out (i := 2) (kd := 1) (by omega) (by omega) rfl (fun j h1 h2 => by have : j = 1 := by omega
                                                                                         subst this; decide) (.inl rfl) (by omega)).mono ?_
  rintro e w2 ⟨rfl, F2, hi, _, _⟩
  have HI2 := Lib.hid hi
  clear hi HI
  have HN := Lib.hid (fun W : World => ref_Num (w := W) id h0 h9)
  have HF := Lib.hid (fun (W : World) (h : Gl W) => dir_Of_nil (w := W) h 1 (by decide) (by decide))
  have HG := Lib.hid (fun (W : World) (hk : Kp (fun _ => False) w2 W) => show Gl W ∧ NG ≤ W.heap.size ∧ Ge W ∧ Kp (fun _ => False) w W from ⟨(HI2.out.kp0 hk).gl, (HI2.out.kp0 hk).ngr, He.out.kp (HI2.out.kp0 hk).kp Hi.none, (HI2.out.kp0 hk).kp⟩)
  by_cases hlo : id < 1
  · have HO := Lib.hid (dir_Of_arg HI2.out (ino := id) (.inl hlo) h0 h9)
    go_wp2_with fail
    refine HO.out.mono ?_
    rintro e w3 ⟨v, l, rfl, hv, hk⟩
    obtain ⟨t, y, rfl⟩ := hv.iface
    have Hv := Lib.hid hv
    have Hk3 := Lib.hid hk
    clear hv hk
    go_wp2_with fail
    refine (HF.out _ (HG.out _ Hk3.out).1).mono ?_
    rintro e w4 ⟨v2, rfl, hv2, hk⟩
    obtain ⟨t2, y2, rfl⟩ := hv2.iface
    have Hv2 := Lib.hid hv2
    have Hk4 := Lib.hid (Hk3.out.trans hk (Gr.refl _ _))
    have Hv4 := Lib.hid (Hv.out.kp hk (FCl.none _))
    clear hv2 hk
    go_wp2_with fail
    refine (law_Num Hv2.out (HG.out _ Hk4.out).2.2.1).mono ?_
    rintro e w5 ⟨rfl, hk⟩
    have Hk5 := Lib.hid (Hk4.out.trans hk (Gr.refl _ _))
    have Hv5 := Lib.hid (Hv4.out.kp hk (FCl.none _))
    clear hk
    have Hk6 := Hk5
    have Hv6 := Hv5
    go_wp2_with fail
    refine (HN.out _).mono ?_
    rintro e w7 ⟨rfl, hk⟩
    have Hk7 := Lib.hid (Hk6.out.trans hk (Gr.refl _ _))
    have Hv7 := Lib.hid (Hv6.out.kp hk (FCl.none _))
    clear hk
    go_wp2_with fail
    refine (law_Is Hv7.out (by decide) (HG.out _ Hk7.out).2.2.1).mono ?_
    rintro e w8 ⟨rfl, hk⟩
    have Hk8 := Lib.hid (Hk7.out.trans hk (Gr.refl _ _))
    clear hk
    go_wp2_with fail
    refine (HA.out _ (HG.out _ Hk8.out).1 (HG.out _ Hk8.out).2.1).mono ?_
    rintro e w9 ⟨rfl, hk⟩
    have Hk9 := Lib.hid ((HG.out _ Hk8.out).2.2.2.trans hk (Gr.refl _ _))
    clear hk
    go_wp2_with fail
    go_ret
    exact ⟨rfl, Hk9.out⟩
  by_cases hhi : 6 < id
  · have HO := Lib.hid (dir_Of_arg HI2.out (ino := id) (.inr hhi) h0 h9)
    go_wp2_with fail
    refine HO.out.mono ?_
    rintro e w3 ⟨v, l, rfl, hv, hk⟩
    obtain ⟨t, y, rfl⟩ := hv.iface
    have Hv := Lib.hid hv
    have Hk3 := Lib.hid hk
    clear hv hk
    go_wp2_with fail
    refine (HF.out _ (HG.out _ Hk3.out).1).mono ?_
    rintro e w4 ⟨v2, rfl, hv2, hk⟩
    obtain ⟨t2, y2, rfl⟩ := hv2.iface
    have Hv2 := Lib.hid hv2
    have Hk4 := Lib.hid (Hk3.out.trans hk (Gr.refl _ _))
    have Hv4 := Lib.hid (Hv.out.kp hk (FCl.none _))
    clear hv2 hk
    go_wp2_with fail
    refine (law_Num Hv2.out (HG.out _ Hk4.out).2.2.1).mono ?_
    rintro e w5 ⟨rfl, hk⟩
    have Hk5 := Lib.hid (Hk4.out.trans hk (Gr.refl _ _))
    have Hv5 := Lib.hid (Hv4.out.kp hk (FCl.none _))
    clear hk
    have Hk6 := Hk5
    have Hv6 := Hv5
    go_wp2_with fail
    refine (HN.out _).mono ?_
    rintro e w7 ⟨rfl, hk⟩
    have Hk7 := Lib.hid (Hk6.out.trans hk (Gr.refl _ _))
    have Hv7 := Lib.hid (Hv6.out.kp hk (FCl.none _))
    clear hk
    go_wp2_with fail
    refine (law_Is Hv7.out (by decide) (HG.out _ Hk7.out).2.2.1).mono ?_
    rintro e w8 ⟨rfl, hk⟩
    have Hk8 := Lib.hid (Hk7.out.trans hk (Gr.refl _ _))
    clear hk
    go_wp2_with fail
    refine (HA.out _ (HG.out _ Hk8.out).1 (HG.out _ Hk8.out).2.1).mono ?_
    rintro e w9 ⟨rfl, hk⟩
    have Hk9 := Lib.hid ((HG.out _ Hk8.out).2.2.2.trans hk (Gr.refl _ _))
    clear hk
    go_wp2_with fail
    go_ret
    exact ⟨rfl, Hk9.out⟩
  by_cases h2 : id = 2
  · subst h2
    have HO := Lib.hid (dir_Of_not HI2.out (ino := 2) (by omega) (by omega) (by rw [setR_same]; decide))
    go_wp2_with fail
    refine HO.out.mono ?_
    rintro e w3 ⟨v, rfl, hv, hk⟩
    obtain ⟨t, y, rfl⟩ := hv.iface
    have Hv := Lib.hid hv
    have Hk3 := Lib.hid hk
    clear hv hk
    go_wp2_with fail
    refine (HF.out _ (HG.out _ Hk3.out).1).mono ?_
    rintro e w4 ⟨v2, rfl, hv2, hk⟩
    obtain ⟨t2, y2, rfl⟩ := hv2.iface
    have Hv2 := Lib.hid hv2
    have Hk4 := Lib.hid (Hk3.out.trans hk (Gr.refl _ _))
    have Hv4 := Lib.hid (Hv.out.kp hk (FCl.none _))
    clear hv2 hk
    go_wp2_with fail
    refine (law_Num Hv2.out (HG.out _ Hk4.out).2.2.1).mono ?_
    rintro e w5 ⟨rfl, hk⟩
    have Hk5 := Lib.hid (Hk4.out.trans hk (Gr.refl _ _))
    have Hv5 := Lib.hid (Hv4.out.kp hk (FCl.none _))
    clear hk
    go_wp2_with fail
    refine (law_Num Hv5.out (HG.out _ Hk5.out).2.2.1).mono ?_
    rintro e w6 ⟨rfl, hk⟩
    have Hk6 := Lib.hid (Hk5.out.trans hk (Gr.refl _ _))
    have Hv6 := Lib.hid (Hv5.out.kp hk (FCl.none _))
    clear hk
    go_wp2_with fail
    refine (HN.out _).mono ?_
    rintro e w7 ⟨rfl, hk⟩
    have Hk7 := Lib.hid (Hk6.out.trans hk (Gr.refl _ _))
    have Hv7 := Lib.hid (Hv6.out.kp hk (FCl.none _))
    clear hk
    go_wp2_with fail
    refine (law_Is Hv7.out (by decide) (HG.out _ Hk7.out).2.2.1).mono ?_
    rintro e w8 ⟨rfl, hk⟩
    have Hk8 := Lib.hid (Hk7.out.trans hk (Gr.refl _ _))
    clear hk
    go_wp2_with fail
    refine (HA.out _ (HG.out _ Hk8.out).1 (HG.out _ Hk8.out).2.1).mono ?_
    rintro e w9 ⟨rfl, hk⟩
    have Hk9 := Lib.hid ((HG.out _ Hk8.out).2.2.2.trans hk (Gr.refl _ _))
    clear hk
    go_wp2_with fail
    go_ret
    exact ⟨rfl, Hk9.out⟩
  by_cases h2' : 2 < id
  · obtain ⟨n, rfl⟩ := Int.eq_ofNat_of_zero_le (show 0 ≤ id by omega)
    have HO := Lib.hid (dir_Of_not HI2.out (ino := n) (by omega) (by omega) (by rw [setR_other _ _ (by omega), setR_other _ _ (by omega)]; decide))
    have hn2 : ((n : Int) == 2) = false := by simpa using h2
    go_wp2_with fail
    refine HO.out.mono ?_
    rintro e w3 ⟨v, rfl, hv, hk⟩
    obtain ⟨t, y, rfl⟩ := hv.iface
    have Hv := Lib.hid hv
    have Hk3 := Lib.hid hk
    clear hv hk
    go_wp2_with fail
    refine (HF.out _ (HG.out _ Hk3.out).1).mono ?_
    rintro e w4 ⟨v2, rfl, hv2, hk⟩
    obtain ⟨t2, y2, rfl⟩ := hv2.iface
    have Hv2 := Lib.hid hv2
    have Hk4 := Lib.hid (Hk3.out.trans hk (Gr.refl _ _))
    have Hv4 := Lib.hid (Hv.out.kp hk (FCl.none _))
    clear hv2 hk
    go_wp2_with fail
    refine (law_Num Hv2.out (HG.out _ Hk4.out).2.2.1).mono ?_
    rintro e w5 ⟨rfl, hk⟩
    have Hk5 := Lib.hid (Hk4.out.trans hk (Gr.refl _ _))
    have Hv5 := Lib.hid (Hv4.out.kp hk (FCl.none _))
    clear hk
    go_wp2_with fail
    refine (law_Num Hv5.out (HG.out _ Hk5.out).2.2.1).mono ?_
    rintro e w6 ⟨rfl, hk⟩
    have Hk6 := Lib.hid (Hk5.out.trans hk (Gr.refl _ _))
    have Hv6 := Lib.hid (Hv5.out.kp hk (FCl.none _))
    clear hk
    go_wp2_with fail
    refine (HN.out _).mono ?_
    rintro e w7 ⟨rfl, hk⟩
    have Hk7 := Lib.hid (Hk6.out.trans hk (Gr.refl _ _))
    have Hv7 := Lib.hid (Hv6.out.kp hk (FCl.none _))
    clear hk
    go_wp2_with fail
    refine (law_Is Hv7.out (by decide) (HG.out _ Hk7.out).2.2.1).mono ?_
    rintro e w8 ⟨rfl, hk⟩
    have Hk8 := Lib.hid (Hk7.out.trans hk (Gr.refl _ _))
    clear hk
    go_wp2_with fail
    refine (HA.out _ (HG.out _ Hk8.out).1 (HG.out _ Hk8.out).2.1).mono ?_
    rintro e w9 ⟨rfl, hk⟩
    have Hk9 := Lib.hid ((HG.out _ Hk8.out).2.2.2.trans hk (Gr.refl _ _))
    clear hk
    go_wp2_with fail
    go_ret
    exact ⟨rfl, Hk9.out⟩
  · obtain rfl : id = 1 := by omega
    have HO := Lib.hid (dir_Of_ok HI2.out (ino := 1) (by omega) (by omega) rfl)
    go_wp2_with fail
    refine HO.out.mono ?_
    rintro e w3 ⟨b2, rfl, _, hk, _⟩
    have Hk3 := Lib.hid hk
    clear hk
    go_wp2_with fail
    refine (HF.out _ (HG.out _ Hk3.out).1).mono ?_
    rintro e w4 ⟨v2, rfl, hv2, hk⟩
    obtain ⟨t2, y2, rfl⟩ := hv2.iface
    have Hv2 := Lib.hid hv2
    have Hk4 := Lib.hid (Hk3.out.trans hk (Gr.refl _ _))
    clear hv2 hk
    go_wp2_with fail
    refine (law_Num Hv2.out (HG.out _ Hk4.out).2.2.1).mono ?_
    rintro e w5 ⟨rfl, hk⟩
    have Hk5 := Lib.hid (Hk4.out.trans hk (Gr.refl _ _))
    clear hk
    go_wp2_with fail
    refine (HN.out _).mono ?_
    rintro e w7 ⟨rfl, hk⟩
    have Hk7 := Lib.hid (Hk5.out.trans hk (Gr.refl _ _))
    clear hk
    go_wp2_with fail
    refine (law_Is_nil _ _ _ _).mono ?_
    rintro e w8 ⟨rfl, rfl⟩
    go_wp2_with fail
    refine (HA.out _ (HG.out _ Hk7.out).1 (HG.out _ Hk7.out).2.1).mono ?_
    rintro e w9 ⟨rfl, hk⟩
    have Hk9 := Lib.hid ((HG.out _ Hk7.out).2.2.2.trans hk (Gr.refl _ _))
    clear hk
    go_wp2_with fail
    go_ret
    exact ⟨rfl, Hk9.out⟩
end Go.Proofs.YthjbpbahcemfgaaGreatDoor
