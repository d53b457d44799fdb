/- Layer 10's own helpers: made. -/
/- Layer 10's own helpers: awake. -/
import Derived.Test.YthjbpbahcemfgaaGreatDoorDirK
import Derived.Test.YthjbpbahcemfgaaGreatDoorMadeC
import Derived.Test.YthjbpbahcemfgaaGreatDoorDirS2
namespace Go.Proofs.YthjbpbahcemfgaaGreatDoor
open Go.RowKit
set_option maxHeartbeats 2000000
set_option maxRecDepth 20000

theorem made10_ok {w : World} (hg : Gl w) (hng : NG ≤ w.heap.size) :
    Calls Tryz.prog 8 #[] w fun e w' => ∃ bD bt bx bc bj bm bd F, e = .returned (.tuple #[.pointer (some ⟨bt, 0, none⟩), .pointer (some ⟨bD, 0, none⟩)]) ∧ DirS w bD bt bx bc bj bm bd [] 0 F w' ∧ IU w bt bx bc bj bm bd (setR (fun _ => (0, [])) 1 (2, [])) 0 F w' := by
  have HM := Lib.hid (made7_ok (w := w) hg hng 120 (by omega) (by omega))
  have Hng := Lib.hid hng
  clear hg hng
  go_enter Tryz.func8, Tryz.ntmps8
  go_wp2_with fail
  refine HM.out.mono ?_
  rintro e w1 ⟨bd, bc, bj, bm, F, rfl, hr, hk1, hf⟩
  have Hr := Lib.hid (show CRep w1 bc bj bm bd (CSt.made 120) F from hr)
  have Hk1 := Lib.hid hk1
  have Hf := Lib.hid hf
  clear hr hk1 hf
  go_wp2_with fail
  refine (alloc_New_ok bc 0 20 80 (by omega) (by omega) (by omega) (by omega)).mono ?_
  rintro e w2 ⟨rfl, hb, hk2⟩
  have Hb := Lib.hid (show MBlk w2 w1.heap.size bc 0 20 80 from hb)
  have Hk2 := Lib.hid hk2
  clear hb hk2
  go_wp2_with fail
  refine (inode_New_ok bc w1.heap.size 5 6 (by omega) (by omega)).mono ?_
  rintro e w3 ⟨rfl, ht, hk3⟩
  have HI := Lib.hid (iu_new Hr.out Hk1.out Hf.out Hk2.out Hb.out (Nat.le_refl _) hk3 ht (Nat.le_refl _) Hng.out)
  clear ht hk3 Hr Hk1 Hf Hk2 Hb
  go_wp2_with fail
  refine (iu_make HI.out (i := 1) (kd := 2) (by omega) (by omega) rfl (fun j h1 h2 => by omega) (.inr rfl) (by omega)).mono ?_
  rintro e w4 ⟨rfl, F4, hi, _, _⟩
  have HI4 := Lib.hid hi
  clear hi HI
  go_wp2_with fail
  refine (dir_Of_ok HI4.out (ino := 1) (by omega) (by omega) rfl).mono ?_
  rintro e w5 ⟨bD, rfl, hb, hk, hle⟩
  have hB : DirB w bD w2.heap.size w1.heap.size bc bj bm bd [] 0 F4 w5 := by
    refine ⟨⟨_, HI4.out.kp0 hk, rfl, fun k hk => ?_⟩, hb, fun hF => ?_⟩
    · rw [setR_other _ _ hk]
    · have := HI4.out.fresh _ hF; omega
  have HE : Hid (DirS w bD w2.heap.size w1.heap.size bc bj bm bd [] 0 F4 w5) := ⟨hB, (fun x hx => by cases hx), (by unfold Names; exact List.nodup_nil), Nat.zero_le _⟩
  have HE2 := Lib.hid (HI4.out.kp0 hk)
  clear hB
  clear hb hk HI4
  go_wp2_with fail
  go_ret2
  exact ⟨_, _, _, _, _, _, _, _, rfl, HE.out, HE2.out⟩
end Go.Proofs.YthjbpbahcemfgaaGreatDoor
namespace Go.Proofs.YthjbpbahcemfgaaGreatDoor
open Go.RowKit
set_option maxHeartbeats 4000000
set_option maxRecDepth 20000

theorem same2 {w : World} {g1 g2 : Nat} {x y : ByteArray} (h1 : Two w g1 x y) (h2 : Two w g2 x y) :
    Calls Tryz.prog 45 #[.slice (some ⟨g1, 0, none⟩) 2 2, .slice (some ⟨g2, 0, none⟩) 2 2] w fun e w' => e = .returned (.bool true) ∧ Kp (fun _ => False) w w' := by
  have H1 := Lib.hid h1
  have H2 := Lib.hid h2
  clear h1 h2
  go_enter Tryz.func45, Tryz.ntmps45
  go_wp2_with fail
  go_loopw [5] (fun i W => ∃ k : Nat, i = .int .i64 k ∧ k ≤ 2 ∧ ∃ n, W = w.drewN n) (fun i _ => 2 - (intOf i).toNat)
  case atStart => exact ⟨0, rfl, by omega, 0, rfl⟩
  case round =>
    obtain ⟨k, rfl, hk, n, rfl⟩ := hrel
    rcases (show k = 0 ∨ k = 1 ∨ k = 2 by omega) with rfl | rfl | rfl
    · have a0 : w.cell? ⟨g1, 0, none⟩ = some (.string x) := H1.out.c0
      have b0 : w.cell? ⟨g2, 0, none⟩ = some (.string x) := H2.out.c0
      go_wp2_with fail
      go_quiet (fail)
      go_wp2_with fail
      go_roundw
      case rel => exact ⟨1, rfl, by omega, _, rfl⟩
      case measure => simp [intOf]
    · have a1 : w.cell? ⟨g1, 1, none⟩ = some (.string y) := H1.out.c1
      have b1 : w.cell? ⟨g2, 1, none⟩ = some (.string y) := H2.out.c1
      go_wp2_with fail
      go_quiet (fail)
      go_wp2_with fail
      go_roundw
      case rel => exact ⟨2, rfl, by omega, _, rfl⟩
      case measure => simp [intOf]
    · go_wp2_with fail
      go_ret
      exact ⟨rfl, (Kp.refl _ _).drewN n⟩
theorem DirS.kp {w : World} {bD bt bx bc bj bm bd q : Nat} {l : List Rc} {F : Nat → Prop} {wr : World} (h : DirS w bD bt bx bc bj bm bd l q F wr) : Kp (fun _ => False) w wr := by
  obtain ⟨⟨⟨R, h1, _⟩, _⟩, _⟩ := h
  exact h1.kp
theorem DirS.gl {w : World} {bD bt bx bc bj bm bd q : Nat} {l : List Rc} {F : Nat → Prop} {wr : World} (h : DirS w bD bt bx bc bj bm bd l q F wr) : Gl wr := by
  obtain ⟨⟨⟨R, h1, _⟩, _⟩, _⟩ := h
  exact h1.gl
theorem DirS.ngr {w : World} {bD bt bx bc bj bm bd q : Nat} {l : List Rc} {F : Nat → Prop} {wr : World} (h : DirS w bD bt bx bc bj bm bd l q F wr) : NG ≤ wr.heap.size := by
  obtain ⟨⟨⟨R, h1, _⟩, _⟩, _⟩ := h
  exact h1.ngr
theorem nm_b : NmOk [98] := ⟨by decide, by decide, by decide, by decide, by decide⟩
theorem nm_a : NmOk [97] := ⟨by decide, by decide, by decide, by decide, by decide⟩
theorem two_lit (w : World) (x y : ByteArray) : Two (w.alloc (.cells #[.string x, .string y] 9)) w.heap.size x y := ⟨_, 0, new_blk w _, rfl, rfl, rfl⟩
theorem Two.kp {w w' : World} {g : Nat} {x y : ByteArray} (h : Two w g x y) (k : Kp (fun _ => False) w w') : Two w' g x y := by
  obtain ⟨cs, fr, h1, h2⟩ := h
  exact ⟨cs, fr, k.blk h1 (fun h => h), h2⟩
theorem awake10_ok {w : World} (hg : Gl w) (hng : NG ≤ w.heap.size) :
    Calls Tryz.prog 15 #[] w fun e w' => e = .returned (.bool true) ∧ Kp (fun _ => False) w w' := by
  have HM := Lib.hid (made10_ok (w := w) hg hng)
  have eb : str [98] = ({ data := #[98] } : ByteArray) := by decide +kernel
  have ea : str [97] = ({ data := #[97] } : ByteArray) := by decide +kernel
  have Eb := Lib.hid eb
  have Ea := Lib.hid ea
  clear hg hng eb ea
  go_enter Tryz.func15, Tryz.ntmps15
  go_wp2_with fail
  refine HM.out.mono ?_
  rintro e w1 ⟨bD, bt, bx, bc, bj, bm, bd, F, rfl, hd, _⟩
  have HD1 := Lib.hid hd
  clear hd
  have HP1 := Lib.hid (dir_Put_ok HD1.out (x := ⟨[98], 3⟩) (q' := 1) ⟨nm_b, by decide, by decide⟩ (fun y hy => by cases hy) (by decide) (by decide) (by decide))
  rw [Eb.out] at HP1
  go_wp2_with fail
  refine HP1.out.mono ?_
  rintro e w2 ⟨rfl, F2, hd, _, _⟩
  have HD2 := Lib.hid (show DirS w bD bt bx bc bj bm bd [⟨[98], 3⟩] 1 F2 w2 from hd)
  clear hd HP1
  have HP2 := Lib.hid (dir_Put_ok HD2.out (x := ⟨[97], 4⟩) (q' := 1) ⟨nm_a, by decide, by decide⟩ (fun y hy => by simp at hy; subst hy; decide) (by decide) (by decide) (by decide))
  rw [Ea.out] at HP2
  go_wp2_with fail
  refine HP2.out.mono ?_
  rintro e w3 ⟨rfl, F3, hd, _, _⟩
  have HD3 := Lib.hid (show DirS w bD bt bx bc bj bm bd [⟨[98], 3⟩, ⟨[97], 4⟩] 1 F3 w3 from hd)
  clear hd HP2
  have HL := Lib.hid (dir_List2 HD3.out (by decide +kernel))
  go_wp2_with fail
  refine HL.out.mono ?_
  rintro e w4 ⟨g, rfl, ht, hk⟩
  have HD4 := Lib.hid (HD3.out.kp0 hk)
  have HT := Lib.hid ht
  clear ht hk HL HD3
  have HF := Lib.hid (dir_Find_ok HD4.out (i := 0) (x := ⟨[98], 3⟩) rfl)
  rw [Eb.out] at HF
  go_wp2_with fail
  refine HF.out.mono ?_
  rintro e w5 ⟨rfl, hk⟩
  have HD5 := Lib.hid (HD4.out.kp0 hk)
  have HT5 := Lib.hid (HT.out.kp hk)
  rw [Ea.out, Eb.out] at HT5
  clear hk HF HD4
  have HT6 := Lib.hid (HT5.out.kp ((Kp.refl _ w5).alloc (.cells #[.string ({ data := #[97] } : ByteArray), .string ({ data := #[98] } : ByteArray)] 9)))
  have HK6 := Lib.hid (HD5.out.kp.alloc (.cells #[.string ({ data := #[97] } : ByteArray), .string ({ data := #[98] } : ByteArray)] 9))
  have HS := Lib.hid (same2 HT6.out (two_lit w5 _ _))
  go_wp2_with fail
  refine HS.out.mono ?_
  rintro e w7 ⟨rfl, hk⟩
  have HK7 := Lib.hid (HK6.out.trans hk (Gr.refl _ _))
  clear hk
  go_wp2_with fail
  go_ret
  exact ⟨rfl, HK7.out⟩
end Go.Proofs.YthjbpbahcemfgaaGreatDoor
