/- The cache: Write refused for what it is given. -/
import Derived.Test.YtmafihodbbagbaaGreatDoorCacheR
namespace Go.Proofs.YtmafihodbbagbaaGreatDoor
open Go.RowKit
set_option maxHeartbeats 1000000
set_option maxRecDepth 20000

theorem cache_Write_bad {w : World} {bc bj bm bd : Nat} {C : CSt} {F : Nat → Prop} (h : CRep w bc bj bm bd C F) (no p : Int) (v : Value) (ys : List Int) (hv : Sl w v ys)
    (hbad : (no < 0 ∨ (C.blocks : Int) ≤ no) ∨ p < 0 ∨ 128 < p ∨ 128 - p < ys.length) (hr0 : -9223372036854775808 ≤ no) (hr : no ≤ 9223372036854775807) (hp0 : -9223372036854775808 ≤ p) (hp1 : p ≤ 9223372036854775807) :
    Calls Tryz.prog 10 #[.pointer (some ⟨bc, 0, none⟩), .int .i64 no, .int .i64 p, v] w fun e w' => ∃ v, e = .returned v ∧ IsErr w' v [(tx [99, 97, 99, 104, 101], tx (Lib.itoa no))] 1 ∧ Kp (fun _ => False) w w' := by
  obtain ⟨A, cv, rfl, hv1, hv2, hv3⟩ := id hv
  have hM := cell_blk h.cblk 2
  simp at hM
  obtain ⟨es, cl, hm1, hm2, hm3⟩ := h.mblk
  have H := Lib.hid h
  have hlk : ∃ v0 is, (Instr.lookup 66 (.map (some bm)) (.int .i64 no) true).run Tryz.prog w = .ok (.tuple #[v0, .bool is]) w := by
    by_cases hin : ∃ n : Nat, no = (n : Int) ∧ n ∈ C.ch
    · obtain ⟨n, rfl, hn⟩ := hin
      obtain ⟨j, hj⟩ := List.mem_iff_getElem?.1 hn
      obtain ⟨e, he, hr⟩ := hm3 j n hj
      exact ⟨_, _, run_lookup_yes (w := w) (E := 29) Tryz.underlying66 hm1 hm2 h.nd hj he⟩
    · exact ⟨_, _, run_lookup_no (w := w) (E := 29) Tryz.underlying66 (zero_bytes w) hm1 hm2 no (fun k hk e => hin ⟨k, e.symm, hk⟩)⟩
  obtain ⟨v0, is, hlk⟩ := hlk
  have HL := Lib.hid hlk
  have hw := fun (W : World) (hW : w = W) => cache_wrong no 1 W (by rw [← hW]; exact H.out.disk.gl) hr0 hr (by decide)
  have HW := Lib.hid hw
  unfold maxLen at hv2
  clear hlk h hm1 hm2 hm3 hv hv3 hw
  by_cases hno : no < 0 ∨ (C.blocks : Int) ≤ no
  · go_enter Tryz.func10, Tryz.ntmps10
    go_wp2_with (first | (at_lookup; refine wpList_lookup_run rfl _ _ _ _ rfl _ _ _ rfl rfl HL.out ?_) | (go_at_call 27; refine (cache_there_no H.out _ hno).mono ?_; rintro e w1 ⟨rfl, rfl⟩) | (go_at_call 28; refine (HW.out _ rfl).mono ?_; rintro e w1 ⟨v5, rfl, hv5, hk5⟩; replace hv5 := Lib.hid hv5; replace hk5 := Lib.hid hk5))
    go_ret
    exact ⟨v5, rfl, hv5.out, hk5.out⟩
  · have hn0 : 0 ≤ no := by omega
    have hn1 : no < (C.blocks : Int) := by omega
    by_cases hp : p < 0
    · clear hbad hno
      have d1 : decide (p < 0) = true := decide_eq_true hp
      go_enter Tryz.func10, Tryz.ntmps10
      go_wp2_with (first | (at_lookup; refine wpList_lookup_run rfl _ _ _ _ rfl _ _ _ rfl rfl HL.out ?_) | (go_at_call 27; refine (cache_there H.out _ hn0 hn1).mono ?_; rintro e w1 ⟨rfl, rfl⟩) | (go_at_call 28; refine (HW.out _ rfl).mono ?_; rintro e w1 ⟨v5, rfl, hv5, hk5⟩; replace hv5 := Lib.hid hv5; replace hk5 := Lib.hid hk5))
      go_ret
      exact ⟨v5, rfl, hv5.out, hk5.out⟩
    · have d1 : decide (p < 0) = false := decide_eq_false hp
      by_cases hp2 : 128 < p
      · clear hbad hno
        have d2 : decide (128 < p) = true := decide_eq_true hp2
        go_enter Tryz.func10, Tryz.ntmps10
        go_wp2_with (first | (at_lookup; refine wpList_lookup_run rfl _ _ _ _ rfl _ _ _ rfl rfl HL.out ?_) | (go_at_call 27; refine (cache_there H.out _ hn0 hn1).mono ?_; rintro e w1 ⟨rfl, rfl⟩) | (go_at_call 28; refine (HW.out _ rfl).mono ?_; rintro e w1 ⟨v5, rfl, hv5, hk5⟩; replace hv5 := Lib.hid hv5; replace hk5 := Lib.hid hk5))
        go_ret
        exact ⟨v5, rfl, hv5.out, hk5.out⟩
      · have d2 : decide (128 < p) = false := decide_eq_false hp2
        have hlen : 128 - p < (ys.length : Int) := by omega
        have d3 : decide (128 - p < (ys.length : Int)) = true := decide_eq_true hlen
        clear hbad hno
        go_enter Tryz.func10, Tryz.ntmps10
        go_wp2_with (first | (at_lookup; refine wpList_lookup_run rfl _ _ _ _ rfl _ _ _ rfl rfl HL.out ?_) | (go_at_call 27; refine (cache_there H.out _ hn0 hn1).mono ?_; rintro e w1 ⟨rfl, rfl⟩) | (go_at_call 28; refine (HW.out _ rfl).mono ?_; rintro e w1 ⟨v5, rfl, hv5, hk5⟩; replace hv5 := Lib.hid hv5; replace hk5 := Lib.hid hk5))
        go_ret
        exact ⟨v5, rfl, hv5.out, hk5.out⟩
end Go.Proofs.YtmafihodbbagbaaGreatDoor
