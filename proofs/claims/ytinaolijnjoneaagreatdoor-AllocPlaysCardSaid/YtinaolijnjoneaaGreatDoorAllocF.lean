/- Which blocks are taken: what is refused: a map that is full, a block that is free, one that is not there. -/
import Derived.Test.YtinaolijnjoneaaGreatDoorAllocG
namespace Go.Proofs.YtinaolijnjoneaaGreatDoor
open Go.RowKit
set_option maxHeartbeats 1000000
set_option maxRecDepth 20000

theorem alloc_Take_full {w : World} {bx bc bj bm bd at_ from_ n : Nat} {C : CSt} {F : Nat → Prop} (h : MapOn w bx bc bj bm bd at_ from_ n C F) (hfull : ∀ j, j < n → bitC C at_ j = true) :
    Calls Tryz.prog 29 #[.pointer (some ⟨bx, 0, none⟩)] w fun e w' => ∃ v, e = .returned (.tuple #[.int .i64 0, v]) ∧ IsErr w' v [(tx [97, 108, 108, 111, 99], tx [])] 15 ∧ Kp (fun _ => False) w w' := by
  have hvl := h.vl
  have hnb : nb n ≤ 2 ∧ n ≤ 1024 * nb n ∧ 1024 * nb n < n + 1024 := by have := h.n1; have := h.n2; unfold nb; omega
  have hn2 := h.n2
  have hbit : ∀ j, j < n → bitAt (mbytes C at_ (nb n)) j = true := fun j hj => by
    rw [mbytes_bit hvl (by omega)]; exact hfull j hj
  have hlen := mbytes_len (C := C) (at_ := at_) (k := nb n) hvl
  have hbyt : Byt (mbytes C at_ (nb n)) := mbytes_byt (fun j hj => h.vb _ (by have := h.inb; omega))
  have c3 := cell_blk h.blk 3
  simp at c3
  have HB := Lib.hid (alloc_bytes_ok h.blk h.rep h.live h.n1 h.n2 h.inb)
  have HI := Lib.hid (fun (W : World) (v : Value) (j : Nat) (hj : j < n) (hs : Sl W v (mbytes C at_ (nb n))) => alloc_is (w := W) v _ j hs (by rw [hlen]; omega) hbyt)
  have Hbit := Lib.hid hbit
  have C3 := Lib.hid c3
  clear h hvl hbit hlen hbyt hfull hnb c3
  go_enter Tryz.func29, Tryz.ntmps29
  go_wp2_with fail
  refine HB.out.mono ?_
  rintro e w1 ⟨v, rfl, hs, hk, hbo⟩
  have Hs := Lib.hid hs
  have Hk := Lib.hid hk
  have c3 := hk.cell C3.out (fun h => h)
  clear hs hk hbo
  go_wp2_with fail
  go_loop [21] (fun c => ∃ k : Nat, k ≤ n ∧ c = .int .i64 k) (fun c => n - (intOf c).toNat)
  case atStart => exact ⟨0, Nat.zero_le _, rfl⟩
  case round =>
    obtain ⟨k, hk, rfl⟩ := hrel
    by_cases hlt : k < n
    · have hb : Hid (bitAt (mbytes C at_ (nb n)) k = true) := Hbit.out k hlt
      go_wp2_with (go_at_call 59; refine (HI.out _ _ k hlt Hs.out).mono ?_; rintro e w2 ⟨rfl, rfl⟩; rw [hb.out])
      go_round
      case rel => exact ⟨k + 1, by omega, by go_num⟩
      case measure => simp [intOf]; omega
    · have hki : k = n := by omega
      subst hki
      go_wp2_with (go_at_call 56; refine (alloc_wrong _ _ _ (by decide)).mono ?_; rintro e w2 ⟨v2, rfl, hv2, hk2⟩; replace hv2 := Lib.hid hv2; replace hk2 := Lib.hid hk2)
      go_ret2
      exact ⟨v2, rfl, hv2.out, Hk.out.trans hk2.out (Gr.refl _ _)⟩

theorem alloc_Give_free {w : World} {bx bc bj bm bd at_ from_ n : Nat} {C : CSt} {F : Nat → Prop} (h : MapOn w bx bc bj bm bd at_ from_ n C F) (i : Nat) (hi : i < n) (hfree : bitC C at_ i = false) :
    Calls Tryz.prog 30 #[.pointer (some ⟨bx, 0, none⟩), .int .i64 (from_ + i : Nat)] w fun e w' => ∃ v, e = .returned v ∧ IsErr w' v [(tx [97, 108, 108, 111, 99], tx (Lib.itoa (from_ + i : Nat)))] 7 ∧ Kp (fun _ => False) w w' := by
  have hvl := h.vl
  have hnb : nb n ≤ 2 ∧ n ≤ 1024 * nb n ∧ 1024 * nb n < n + 1024 := by have := h.n1; have := h.n2; unfold nb; omega
  have hbit : bitAt (mbytes C at_ (nb n)) i = false := by rw [mbytes_bit hvl (by omega)]; exact hfree
  have hlen := mbytes_len (C := C) (at_ := at_) (k := nb n) hvl
  have hbyt : Byt (mbytes C at_ (nb n)) := mbytes_byt (fun j hj => h.vb _ (by have := h.inb; omega))
  have hfar := h.far
  have hno : ((from_ + i : Nat) : Int) - (from_ : Int) = (i : Int) := by omega
  have HIt := Lib.hid (itoa_any ((from_ + i : Nat) : Int) (by omega) (by omega) w h.rep.disk.gl)
  have HTh := Lib.hid (fun (W : World) (hk : Kp (fun _ => False) w W) => alloc_there (hk.blk h.blk (fun h => h)) ((from_ + i : Nat) : Int) (by omega) (by omega) hfar)
  have HB := Lib.hid (fun (W : World) (hk : Kp (fun _ => False) w W) => alloc_bytes_ok (hk.blk h.blk (fun h => h)) (h.rep.kp0 hk) h.live h.n1 h.n2 h.inb)
  have HI := Lib.hid (fun (W : World) (v : Value) (hs : Sl W v (mbytes C at_ (nb n))) => alloc_is (w := W) v _ i hs (by rw [hlen]; omega) hbyt)
  have Hbit := Lib.hid hbit
  have Hno := Lib.hid hno
  clear h hvl hbit hlen hbyt hfree hnb hno
  generalize hz : ((from_ + i : Nat) : Int) = z at *
  have Hz := Lib.hid hz
  clear hz
  go_enter Tryz.func30, Tryz.ntmps30
  go_wp2_with fail
  refine HIt.out.mono ?_
  rintro e w1 ⟨rfl, hk1⟩
  have Hk1 := Lib.hid hk1
  clear hk1
  go_wp2_with fail
  refine (HTh.out _ Hk1.out).mono ?_
  rintro e w2 ⟨rfl, q, rfl⟩
  rw [Hno.out]
  go_wp2_with fail
  refine (HB.out _ (Hk1.out.drewN q)).mono ?_
  rintro e w3 ⟨v, rfl, hs, hk3, hbo⟩
  have Hs := Lib.hid hs
  have Hk3 : Hid (Kp (fun _ => False) w w3) := (Hk1.out.drewN q).trans hk3 (Gr.refl _ _)
  clear hs hk3 hbo
  go_wp2_with fail
  refine (HI.out _ _ Hs.out).mono ?_
  rintro e w4 ⟨rfl, rfl⟩
  rw [Hbit.out]
  go_wp2_with fail
  refine (alloc_wrong _ _ _ (by decide)).mono ?_
  rintro e w5 ⟨v5, rfl, hv5, hk5⟩
  replace hv5 := Lib.hid hv5
  replace hk5 := Lib.hid hk5
  go_wp2_with fail
  go_ret
  exact ⟨v5, rfl, hv5.out, Hk3.out.trans hk5.out (Gr.refl _ _)⟩
end Go.Proofs.YtinaolijnjoneaaGreatDoor
