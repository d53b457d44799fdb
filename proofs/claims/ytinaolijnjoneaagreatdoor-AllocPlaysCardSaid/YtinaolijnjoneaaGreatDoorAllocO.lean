/- Which blocks are taken: a block that is not there is refused; Taken. -/
import Derived.Test.YtinaolijnjoneaaGreatDoorAllocF
namespace Go.Proofs.YtinaolijnjoneaaGreatDoor
open Go.RowKit
set_option maxHeartbeats 1000000
set_option maxRecDepth 20000

theorem alloc_there_no {w : World} {bx bc at_ from_ n : Nat} (h : MBlk w bx bc at_ from_ n) (no : Int) (h1 : no < from_ ∨ (from_ : Int) + n ≤ no) (hb : (from_ : Int) + n ≤ 9223372036854775807) (h0 : -9223372036854775808 ≤ no) (h9 : no ≤ 9223372036854775807) :
    Calls Tryz.prog 62 #[.pointer (some ⟨bx, 0, none⟩), .int .i64 no] w fun e w' => (∃ z, e = .returned (.tuple #[.int .i64 z, .bool false])) ∧ ∃ k, w' = w.drewN k := by
  have c2 := cell_blk h 2
  have c3 := cell_blk h 3
  simp at c2 c3
  clear h
  by_cases hlo : (from_ : Int) ≤ no
  · have hn : ¬ no - (from_ : Int) < (n : Int) := by omega
    have hw : IntKind.i64.wrap (no - (from_ : Int)) = no - (from_ : Int) := IntWalk.i64_in _ (by omega)
    have d1 : decide ((from_ : Int) ≤ no) = true := decide_eq_true hlo
    have d2 : decide (no - (from_ : Int) < (n : Int)) = false := decide_eq_false hn
    clear h1
    go_enter Tryz.func62, Tryz.ntmps62
    go_wp2_with fail
    go_quiet (fail)
    go_wp2
    go_ret2
    exact ⟨⟨no - (from_ : Int), by simp [d2]⟩, _, rfl⟩
  · have d1 : decide ((from_ : Int) ≤ no) = false := decide_eq_false hlo
    clear h1
    go_enter Tryz.func62, Tryz.ntmps62
    go_wp2_with fail
    go_quiet (fail)
    go_wp2
    go_ret2
    exact ⟨⟨_, rfl⟩, _, rfl⟩

theorem alloc_Give_out {w : World} {bx bc bj bm bd at_ from_ n : Nat} {C : CSt} {F : Nat → Prop} (h : MapOn w bx bc bj bm bd at_ from_ n C F) (no : Int) (h1 : no < from_ ∨ (from_ : Int) + n ≤ no) (h0 : -9223372036854775808 ≤ no) (h9 : no ≤ 9223372036854775807) :
    Calls Tryz.prog 30 #[.pointer (some ⟨bx, 0, none⟩), .int .i64 no] w fun e w' => ∃ v, e = .returned v ∧ IsErr w' v [(tx [97, 108, 108, 111, 99], tx (Lib.itoa no))] 1 ∧ Kp (fun _ => False) w w' := by
  have hfar := h.far
  have HIt := Lib.hid (itoa_any no h0 h9 w h.rep.disk.gl)
  have HTh := Lib.hid (fun (W : World) (hk : Kp (fun _ => False) w W) => alloc_there_no (hk.blk h.blk (fun h => h)) no h1 hfar h0 h9)
  clear h h1
  go_enter Tryz.func30, Tryz.ntmps30
  go_wp2_with fail
  refine HIt.out.mono ?_
  rintro e w1 ⟨rfl, hk1⟩
  have Hk1 := Lib.hid hk1
  clear hk1
  go_wp2_with fail
  refine (HTh.out _ Hk1.out).mono ?_
  rintro e w2 ⟨⟨z, rfl⟩, q, rfl⟩
  go_wp2_with fail
  refine (alloc_wrong _ _ _ (by decide)).mono ?_
  rintro e w5 ⟨v5, rfl, hv5, hk5⟩
  replace hv5 := Lib.hid hv5
  replace hk5 := Lib.hid hk5
  go_wp2_with fail
  go_ret
  exact ⟨v5, rfl, hv5.out, (Hk1.out.drewN q).trans hk5.out (Gr.refl _ _)⟩

theorem alloc_Taken_out {w : World} {bx bc bj bm bd at_ from_ n : Nat} {C : CSt} {F : Nat → Prop} (h : MapOn w bx bc bj bm bd at_ from_ n C F) (no : Int) (h1 : no < from_ ∨ (from_ : Int) + n ≤ no) (h0 : -9223372036854775808 ≤ no) (h9 : no ≤ 9223372036854775807) :
    Calls Tryz.prog 31 #[.pointer (some ⟨bx, 0, none⟩), .int .i64 no] w fun e w' => ∃ v, e = .returned (.tuple #[.bool false, v]) ∧ IsErr w' v [(tx [97, 108, 108, 111, 99], tx (Lib.itoa no))] 1 ∧ Kp (fun _ => False) w w' := by
  have hfar := h.far
  have HIt := Lib.hid (itoa_any no h0 h9 w h.rep.disk.gl)
  have HTh := Lib.hid (fun (W : World) (hk : Kp (fun _ => False) w W) => alloc_there_no (hk.blk h.blk (fun h => h)) no h1 hfar h0 h9)
  clear h h1
  go_enter Tryz.func31, Tryz.ntmps31
  go_wp2_with fail
  refine HIt.out.mono ?_
  rintro e w1 ⟨rfl, hk1⟩
  have Hk1 := Lib.hid hk1
  clear hk1
  go_wp2_with fail
  refine (HTh.out _ Hk1.out).mono ?_
  rintro e w2 ⟨⟨z, rfl⟩, q, rfl⟩
  go_wp2_with fail
  refine (alloc_wrong _ _ _ (by decide)).mono ?_
  rintro e w5 ⟨v5, rfl, hv5, hk5⟩
  replace hv5 := Lib.hid hv5
  replace hk5 := Lib.hid hk5
  go_wp2_with fail
  go_ret2
  exact ⟨v5, rfl, hv5.out, (Hk1.out.drewN q).trans hk5.out (Gr.refl _ _)⟩

theorem alloc_Taken_ok {w : World} {bx bc bj bm bd at_ from_ n : Nat} {C : CSt} {F : Nat → Prop} (h : MapOn w bx bc bj bm bd at_ from_ n C F) (i : Nat) (hi : i < n) :
    Calls Tryz.prog 31 #[.pointer (some ⟨bx, 0, none⟩), .int .i64 (from_ + i : Nat)] w fun e w' => e = .returned (.tuple #[.bool (bitC C at_ i), .nilIface]) ∧ Kp (fun _ => False) w w' := by
  have hvl := h.vl
  have hnb : nb n ≤ 2 ∧ n ≤ 1024 * nb n ∧ 1024 * nb n < n + 1024 := by have := h.n1; have := h.n2; unfold nb; omega
  have hbit : bitAt (mbytes C at_ (nb n)) i = bitC C at_ i := mbytes_bit hvl (by omega)
  have hlen := mbytes_len (C := C) (at_ := at_) (k := nb n) hvl
  have hbyt : Byt (mbytes C at_ (nb n)) := mbytes_byt (fun j hj => h.vb _ (by have := h.inb; omega))
  have hfar := h.far
  have hno : ((from_ + i : Nat) : Int) - (from_ : Int) = (i : Int) := by omega
  have HIt := Lib.hid (itoa_any ((from_ + i : Nat) : Int) (by omega) (by omega) w h.rep.disk.gl)
  have HTh := Lib.hid (fun (W : World) (hk : Kp (fun _ => False) w W) => alloc_there (hk.blk h.blk (fun h => h)) ((from_ + i : Nat) : Int) (by omega) (by omega) hfar)
  have HB := Lib.hid (fun (W : World) (hk : Kp (fun _ => False) w W) => alloc_bytes_ok (hk.blk h.blk (fun h => h)) (h.rep.kp0 hk) h.live h.n1 h.n2 h.inb)
  have HI := Lib.hid (fun (W : World) (v : Value) (hs : Sl W v (mbytes C at_ (nb n))) => alloc_is (w := W) v _ i hs (by rw [hlen]; omega) hbyt)
  have Hbit := Lib.hid hbit
  have Hno := Lib.hid hno
  clear h hvl hbit hlen hbyt hnb hno
  generalize hz : ((from_ + i : Nat) : Int) = z at *
  have Hz := Lib.hid hz
  clear hz
  go_enter Tryz.func31, Tryz.ntmps31
  go_wp2_with fail
  refine HIt.out.mono ?_
  rintro e w1 ⟨rfl, hk1⟩
  have Hk1 := Lib.hid hk1
  clear hk1
  go_wp2_with fail
  refine (HTh.out _ Hk1.out).mono ?_
  rintro e w2 ⟨rfl, q, rfl⟩
  rw [Hno.out]
  go_wp2_with fail
  refine (HB.out _ (Hk1.out.drewN q)).mono ?_
  rintro e w3 ⟨v, rfl, hs, hk3, hbo⟩
  have Hs := Lib.hid hs
  have Hk3 : Hid (Kp (fun _ => False) w w3) := (Hk1.out.drewN q).trans hk3 (Gr.refl _ _)
  clear hs hk3 hbo
  go_wp2_with fail
  refine (HI.out _ _ Hs.out).mono ?_
  rintro e w4 ⟨rfl, rfl⟩
  rw [Hbit.out]
  go_wp2_with fail
  go_ret2
  exact ⟨rfl, Hk3.out⟩
end Go.Proofs.YtinaolijnjoneaaGreatDoor
