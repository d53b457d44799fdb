/- Which blocks are taken: what is refused: a map that is full, a block that is free, one that is not there. -/
/- Which blocks are taken: a block that is not there is refused; Taken. -/
/- InodePlays: does a table stand as these rows say. -/
/- text by any number. -/
/- InodePlays: the state of its loop; what is refused. -/
import Derived.Test.YthjbpbahcemfgaaGreatDoorAllocG
import Derived.Test.YthjbpbahcemfgaaGreatDoorBlk
import Derived.Test.YthjbpbahcemfgaaGreatDoorNum
import Derived.Test.YthjbpbahcemfgaaGreatDoorLawIs
import Derived.BigQuiet
import Derived.Test.YthjbpbahcemfgaaGreatDoorSizesL
namespace Go.Proofs.YthjbpbahcemfgaaGreatDoor
set_option linter.unusedVariables false
set_option linter.unusedSimpArgs false
open Go.RowKit
set_option maxHeartbeats 1000000
set_option maxRecDepth 20000

theorem alloc_Take_full {w : World} {bx bc bj bm bd at_ from_ n : Nat} {C : CSt} {F : Nat → Prop} (h : MapOn w bx bc bj bm bd at_ from_ n C F) (hfull : ∀ j, j < n → bitC C at_ j = true) :
    Calls Tryz.prog 93 #[.pointer (some ⟨bx, 0, none⟩)] w fun e w' => ∃ v, e = .returned (.tuple #[.int .i64 0, v]) ∧ IsErr w' v [(tx [97, 108, 108, 111, 99], tx [])] 15 ∧ Kp (fun _ => False) w w' := by
  have hvl := h.vl
  have hnb : nb n ≤ 2 ∧ n ≤ 1024 * nb n ∧ 1024 * nb n < n + 1024 := by have := h.n1; have := h.n2; unfold nb; omega
  have hn2 := h.n2
  have hbit : ∀ j, j < n → bitAt (mbytes C at_ (nb n)) j = true := fun j hj => by
    rw [mbytes_bit hvl (by omega)]; exact hfull j hj
  have hlen := mbytes_len (C := C) (at_ := at_) (k := nb n) hvl
  have hbyt : Byt (mbytes C at_ (nb n)) := mbytes_byt (fun j hj => h.vb _ (by have := h.inb; omega))
  have c3 := cell_blk h.blk 3
  simp at c3
  have HB := Lib.hid (alloc_bytes_ok h.blk h.rep h.live h.n1 h.n2 h.inb)
  have HI := Lib.hid (fun (W : World) (v : Value) (j : Nat) (hj : j < n) (hs : Sl W v (mbytes C at_ (nb n))) => alloc_is (w := W) v _ j hs (by rw [hlen]; omega) hbyt)
  have Hbit := Lib.hid hbit
  have C3 := Lib.hid c3
  clear h hvl hbit hlen hbyt hfull hnb c3
  go_enter Tryz.func93, Tryz.ntmps93
  go_wp2_with fail
  refine HB.out.mono ?_
  rintro e w1 ⟨v, rfl, hs, hk, hbo⟩
  have Hs := Lib.hid hs
  have Hk := Lib.hid hk
  have c3 := hk.cell C3.out (fun h => h)
  clear hs hk hbo
  go_wp2_with fail
  go_loop [21] (fun c => ∃ k : Nat, k ≤ n ∧ c = .int .i64 k) (fun c => n - (intOf c).toNat)
  case atStart => exact ⟨0, Nat.zero_le _, rfl⟩
  case round =>
    obtain ⟨k, hk, rfl⟩ := hrel
    by_cases hlt : k < n
    · have hb : Hid (bitAt (mbytes C at_ (nb n)) k = true) := Hbit.out k hlt
      go_wp2_with (go_at_call 83; refine (HI.out _ _ k hlt Hs.out).mono ?_; rintro e w2 ⟨rfl, rfl⟩; rw [hb.out])
      go_round
      case rel => exact ⟨k + 1, by omega, by go_num⟩
      case measure => simp [intOf]; omega
    · have hki : k = n := by omega
      subst hki
      go_wp2_with (go_at_call 73; refine (alloc_wrong _ _ _ (by decide)).mono ?_; rintro e w2 ⟨v2, rfl, hv2, hk2⟩; replace hv2 := Lib.hid hv2; replace hk2 := Lib.hid hk2)
      go_ret2
      exact ⟨v2, rfl, hv2.out, Hk.out.trans hk2.out (Gr.refl _ _)⟩

theorem alloc_Give_free {w : World} {bx bc bj bm bd at_ from_ n : Nat} {C : CSt} {F : Nat → Prop} (h : MapOn w bx bc bj bm bd at_ from_ n C F) (i : Nat) (hi : i < n) (hfree : bitC C at_ i = false) :
    Calls Tryz.prog 92 #[.pointer (some ⟨bx, 0, none⟩), .int .i64 (from_ + i : Nat)] w fun e w' => ∃ v, e = .returned v ∧ IsErr w' v [(tx [97, 108, 108, 111, 99], tx (Lib.itoa (from_ + i : Nat)))] 7 ∧ Kp (fun _ => False) w w' := by
  have hvl := h.vl
  have hnb : nb n ≤ 2 ∧ n ≤ 1024 * nb n ∧ 1024 * nb n < n + 1024 := by have := h.n1; have := h.n2; unfold nb; omega
  have hbit : bitAt (mbytes C at_ (nb n)) i = false := by rw [mbytes_bit hvl (by omega)]; exact hfree
  have hlen := mbytes_len (C := C) (at_ := at_) (k := nb n) hvl
  have hbyt : Byt (mbytes C at_ (nb n)) := mbytes_byt (fun j hj => h.vb _ (by have := h.inb; omega))
  have hfar := h.far
  have hno : ((from_ + i : Nat) : Int) - (from_ : Int) = (i : Int) := by omega
  have HIt := Lib.hid (itoa_any ((from_ + i : Nat) : Int) (by omega) (by omega) w h.rep.disk.gl)
  have HTh := Lib.hid (fun (W : World) (hk : Kp (fun _ => False) w W) => alloc_there (hk.blk h.blk (fun h => h)) ((from_ + i : Nat) : Int) (by omega) (by omega) hfar)
  have HB := Lib.hid (fun (W : World) (hk : Kp (fun _ => False) w W) => alloc_bytes_ok (hk.blk h.blk (fun h => h)) (h.rep.kp0 hk) h.live h.n1 h.n2 h.inb)
  have HI := Lib.hid (fun (W : World) (v : Value) (hs : Sl W v (mbytes C at_ (nb n))) => alloc_is (w := W) v _ i hs (by rw [hlen]; omega) hbyt)
  have Hbit := Lib.hid hbit
  have Hno := Lib.hid hno
  clear h hvl hbit hlen hbyt hfree hnb hno
  generalize hz : ((from_ + i : Nat) : Int) = z at *
  have Hz := Lib.hid hz
  clear hz
  go_enter Tryz.func92, Tryz.ntmps92
  go_wp2_with fail
  refine HIt.out.mono ?_
  rintro e w1 ⟨rfl, hk1⟩
  have Hk1 := Lib.hid hk1
  clear hk1
  go_wp2_with fail
  refine (HTh.out _ Hk1.out).mono ?_
  rintro e w2 ⟨rfl, q, rfl⟩
  rw [Hno.out]
  go_wp2_with fail
  refine (HB.out _ (Hk1.out.drewN q)).mono ?_
  rintro e w3 ⟨v, rfl, hs, hk3, hbo⟩
  have Hs := Lib.hid hs
  have Hk3 : Hid (Kp (fun _ => False) w w3) := (Hk1.out.drewN q).trans hk3 (Gr.refl _ _)
  clear hs hk3 hbo
  go_wp2_with fail
  refine (HI.out _ _ Hs.out).mono ?_
  rintro e w4 ⟨rfl, rfl⟩
  rw [Hbit.out]
  go_wp2_with fail
  refine (alloc_wrong _ _ _ (by decide)).mono ?_
  rintro e w5 ⟨v5, rfl, hv5, hk5⟩
  replace hv5 := Lib.hid hv5
  replace hk5 := Lib.hid hk5
  go_wp2_with fail
  go_ret
  exact ⟨v5, rfl, hv5.out, Hk3.out.trans hk5.out (Gr.refl _ _)⟩
end Go.Proofs.YthjbpbahcemfgaaGreatDoor
namespace Go.Proofs.YthjbpbahcemfgaaGreatDoor
set_option linter.unusedVariables false
set_option linter.unusedSimpArgs false
open Go.RowKit
set_option maxHeartbeats 1000000
set_option maxRecDepth 20000

theorem alloc_there_no {w : World} {bx bc at_ from_ n : Nat} (h : MBlk w bx bc at_ from_ n) (no : Int) (h1 : no < from_ ∨ (from_ : Int) + n ≤ no) (hb : (from_ : Int) + n ≤ 9223372036854775807) (h0 : -9223372036854775808 ≤ no) (h9 : no ≤ 9223372036854775807) :
    Calls Tryz.prog 100 #[.pointer (some ⟨bx, 0, none⟩), .int .i64 no] w fun e w' => (∃ z, e = .returned (.tuple #[.int .i64 z, .bool false])) ∧ ∃ k, w' = w.drewN k := by
  have c2 := cell_blk h 2
  have c3 := cell_blk h 3
  simp at c2 c3
  clear h
  by_cases hlo : (from_ : Int) ≤ no
  · have hn : ¬ no - (from_ : Int) < (n : Int) := by omega
    have hw : IntKind.i64.wrap (no - (from_ : Int)) = no - (from_ : Int) := IntWalk.i64_in _ (by omega)
    have d1 : decide ((from_ : Int) ≤ no) = true := decide_eq_true hlo
    have d2 : decide (no - (from_ : Int) < (n : Int)) = false := decide_eq_false hn
    clear h1
    go_enter Tryz.func100, Tryz.ntmps100
    go_wp2_with fail
    go_quiet (fail)
    go_wp2
    go_ret2
    exact ⟨⟨no - (from_ : Int), by simp [d2]⟩, _, rfl⟩
  · have d1 : decide ((from_ : Int) ≤ no) = false := decide_eq_false hlo
    clear h1
    go_enter Tryz.func100, Tryz.ntmps100
    go_wp2_with fail
    go_quiet (fail)
    go_wp2
    go_ret2
    exact ⟨⟨_, rfl⟩, _, rfl⟩

theorem alloc_Give_out {w : World} {bx bc bj bm bd at_ from_ n : Nat} {C : CSt} {F : Nat → Prop} (h : MapOn w bx bc bj bm bd at_ from_ n C F) (no : Int) (h1 : no < from_ ∨ (from_ : Int) + n ≤ no) (h0 : -9223372036854775808 ≤ no) (h9 : no ≤ 9223372036854775807) :
    Calls Tryz.prog 92 #[.pointer (some ⟨bx, 0, none⟩), .int .i64 no] w fun e w' => ∃ v, e = .returned v ∧ IsErr w' v [(tx [97, 108, 108, 111, 99], tx (Lib.itoa no))] 1 ∧ Kp (fun _ => False) w w' := by
  have hfar := h.far
  have HIt := Lib.hid (itoa_any no h0 h9 w h.rep.disk.gl)
  have HTh := Lib.hid (fun (W : World) (hk : Kp (fun _ => False) w W) => alloc_there_no (hk.blk h.blk (fun h => h)) no h1 hfar h0 h9)
  clear h h1
  go_enter Tryz.func92, Tryz.ntmps92
  go_wp2_with fail
  refine HIt.out.mono ?_
  rintro e w1 ⟨rfl, hk1⟩
  have Hk1 := Lib.hid hk1
  clear hk1
  go_wp2_with fail
  refine (HTh.out _ Hk1.out).mono ?_
  rintro e w2 ⟨⟨z, rfl⟩, q, rfl⟩
  go_wp2_with fail
  refine (alloc_wrong _ _ _ (by decide)).mono ?_
  rintro e w5 ⟨v5, rfl, hv5, hk5⟩
  replace hv5 := Lib.hid hv5
  replace hk5 := Lib.hid hk5
  go_wp2_with fail
  go_ret
  exact ⟨v5, rfl, hv5.out, (Hk1.out.drewN q).trans hk5.out (Gr.refl _ _)⟩

theorem alloc_Taken_out {w : World} {bx bc bj bm bd at_ from_ n : Nat} {C : CSt} {F : Nat → Prop} (h : MapOn w bx bc bj bm bd at_ from_ n C F) (no : Int) (h1 : no < from_ ∨ (from_ : Int) + n ≤ no) (h0 : -9223372036854775808 ≤ no) (h9 : no ≤ 9223372036854775807) :
    Calls Tryz.prog 62 #[.pointer (some ⟨bx, 0, none⟩), .int .i64 no] w fun e w' => ∃ v, e = .returned (.tuple #[.bool false, v]) ∧ IsErr w' v [(tx [97, 108, 108, 111, 99], tx (Lib.itoa no))] 1 ∧ Kp (fun _ => False) w w' := by
  have hfar := h.far
  have HIt := Lib.hid (itoa_any no h0 h9 w h.rep.disk.gl)
  have HTh := Lib.hid (fun (W : World) (hk : Kp (fun _ => False) w W) => alloc_there_no (hk.blk h.blk (fun h => h)) no h1 hfar h0 h9)
  clear h h1
  go_enter Tryz.func62, Tryz.ntmps62
  go_wp2_with fail
  refine HIt.out.mono ?_
  rintro e w1 ⟨rfl, hk1⟩
  have Hk1 := Lib.hid hk1
  clear hk1
  go_wp2_with fail
  refine (HTh.out _ Hk1.out).mono ?_
  rintro e w2 ⟨⟨z, rfl⟩, q, rfl⟩
  go_wp2_with fail
  refine (alloc_wrong _ _ _ (by decide)).mono ?_
  rintro e w5 ⟨v5, rfl, hv5, hk5⟩
  replace hv5 := Lib.hid hv5
  replace hk5 := Lib.hid hk5
  go_wp2_with fail
  go_ret2
  exact ⟨v5, rfl, hv5.out, (Hk1.out.drewN q).trans hk5.out (Gr.refl _ _)⟩

theorem alloc_Taken_ok {w : World} {bx bc bj bm bd at_ from_ n : Nat} {C : CSt} {F : Nat → Prop} (h : MapOn w bx bc bj bm bd at_ from_ n C F) (i : Nat) (hi : i < n) :
    Calls Tryz.prog 62 #[.pointer (some ⟨bx, 0, none⟩), .int .i64 (from_ + i : Nat)] w fun e w' => e = .returned (.tuple #[.bool (bitC C at_ i), .nilIface]) ∧ Kp (fun _ => False) w w' := by
  have hvl := h.vl
  have hnb : nb n ≤ 2 ∧ n ≤ 1024 * nb n ∧ 1024 * nb n < n + 1024 := by have := h.n1; have := h.n2; unfold nb; omega
  have hbit : bitAt (mbytes C at_ (nb n)) i = bitC C at_ i := mbytes_bit hvl (by omega)
  have hlen := mbytes_len (C := C) (at_ := at_) (k := nb n) hvl
  have hbyt : Byt (mbytes C at_ (nb n)) := mbytes_byt (fun j hj => h.vb _ (by have := h.inb; omega))
  have hfar := h.far
  have hno : ((from_ + i : Nat) : Int) - (from_ : Int) = (i : Int) := by omega
  have HIt := Lib.hid (itoa_any ((from_ + i : Nat) : Int) (by omega) (by omega) w h.rep.disk.gl)
  have HTh := Lib.hid (fun (W : World) (hk : Kp (fun _ => False) w W) => alloc_there (hk.blk h.blk (fun h => h)) ((from_ + i : Nat) : Int) (by omega) (by omega) hfar)
  have HB := Lib.hid (fun (W : World) (hk : Kp (fun _ => False) w W) => alloc_bytes_ok (hk.blk h.blk (fun h => h)) (h.rep.kp0 hk) h.live h.n1 h.n2 h.inb)
  have HI := Lib.hid (fun (W : World) (v : Value) (hs : Sl W v (mbytes C at_ (nb n))) => alloc_is (w := W) v _ i hs (by rw [hlen]; omega) hbyt)
  have Hbit := Lib.hid hbit
  have Hno := Lib.hid hno
  clear h hvl hbit hlen hbyt hnb hno
  generalize hz : ((from_ + i : Nat) : Int) = z at *
  have Hz := Lib.hid hz
  clear hz
  go_enter Tryz.func62, Tryz.ntmps62
  go_wp2_with fail
  refine HIt.out.mono ?_
  rintro e w1 ⟨rfl, hk1⟩
  have Hk1 := Lib.hid hk1
  clear hk1
  go_wp2_with fail
  refine (HTh.out _ Hk1.out).mono ?_
  rintro e w2 ⟨rfl, q, rfl⟩
  rw [Hno.out]
  go_wp2_with fail
  refine (HB.out _ (Hk1.out.drewN q)).mono ?_
  rintro e w3 ⟨v, rfl, hs, hk3, hbo⟩
  have Hs := Lib.hid hs
  have Hk3 : Hid (Kp (fun _ => False) w w3) := (Hk1.out.drewN q).trans hk3 (Gr.refl _ _)
  clear hs hk3 hbo
  go_wp2_with fail
  refine (HI.out _ _ Hs.out).mono ?_
  rintro e w4 ⟨rfl, rfl⟩
  rw [Hbit.out]
  go_wp2_with fail
  go_ret2
  exact ⟨rfl, Hk3.out⟩
end Go.Proofs.YthjbpbahcemfgaaGreatDoor
namespace Go.Proofs.YthjbpbahcemfgaaGreatDoor
set_option linter.unusedVariables false
set_option linter.unusedSimpArgs false
open Go.RowKit
set_option maxHeartbeats 4000000
set_option maxRecDepth 20000
variable {w wr : World} {bt bx bc bj bm bd nbl : Nat} {C : CSt} {F : Nat → Prop} {T : Nat → Nd} {R : Nat → Nat × List Int}

/-- 200 bools in memory. -/
def hadN (f : Nat → Bool) : Array Value := ((List.range 200).map fun j => Value.bool (f j)).toArray
theorem hadN_get (f : Nat → Bool) (j : Nat) (h : j < 200) : (hadN f)[j]? = some (.bool (f j)) := by simp [hadN, h]
theorem hadN_set (f : Nat → Bool) (q : Nat) : (hadN f).setIfInBounds q (.bool true) = hadN fun j => if j = q then true else f j := by
  apply Array.ext_getElem?
  intro i
  rw [Array.getElem?_setIfInBounds]
  by_cases h : q = i
  · subst h
    by_cases h2 : q < 200
    · rw [if_pos rfl, if_pos (by simpa [hadN] using h2), hadN_get _ _ h2]; simp
    · rw [if_pos rfl, if_neg (by simpa [hadN] using h2)]
      simp [hadN, h2]
  · rw [if_neg h]
    by_cases h2 : i < 200
    · rw [hadN_get _ _ h2, hadN_get _ _ h2, if_neg (fun e => h e.symm)]
    · simp [hadN, h2]
/-- The statement's rows in memory: kind and bytes of each, from 0 on. -/
def rowsA (R : Nat → Nat × List Int) : Array Value :=
  #[.int .i64 (R 0).1, .string (str (R 0).2), .int .i64 (R 1).1, .string (str (R 1).2), .int .i64 (R 2).1, .string (str (R 2).2), .int .i64 (R 3).1, .string (str (R 3).2),
    .int .i64 (R 4).1, .string (str (R 4).2), .int .i64 (R 5).1, .string (str (R 5).2), .int .i64 (R 6).1, .string (str (R 6).2)]
theorem rowsA_kind (R : Nat → Nat × List Int) {i : Nat} (h : i ≤ 6) : (rowsA R)[i * 2]? = some (.int .i64 (R i).1) := by
  have : i = 0 ∨ i = 1 ∨ i = 2 ∨ i = 3 ∨ i = 4 ∨ i = 5 ∨ i = 6 := by omega
  rcases this with rfl | rfl | rfl | rfl | rfl | rfl | rfl <;> rfl
theorem rowsA_data (R : Nat → Nat × List Int) {i : Nat} (h : i ≤ 6) : (rowsA R)[i * 2 + 1]? = some (.string (str (R i).2)) := by
  have : i = 0 ∨ i = 1 ∨ i = 2 ∨ i = 3 ∨ i = 4 ∨ i = 5 ∨ i = 6 := by omega
  rcases this with rfl | rfl | rfl | rfl | rfl | rfl | rfl <;> rfl
theorem hadN_new : Tryz.zeroCells120 = hadN fun _ => false := by
  apply Array.ext'
  simp only [hadN]
  rw [show Tryz.zeroCells120.toList = List.replicate 200 (Value.bool false) by kernel_rfl]
  exact (List.map_const' ..).symm ▸ by simp
/-- All that the loop over the inodes has at its head. -/
structure StI (w : World) (br bh : Nat) (R : Nat → Nat × List Int) (f : Nat → Bool) (W : World) : Prop where
  rows : W.heap[br]? = some (.cells (rowsA R) 45 (0, 0))
  had : W.heap[bh]? = some (.cells (hadN f) 120 (0, 0))
  kp : Kp (fun _ => False) w W
theorem StI.kp0 {br bh : Nat} {f : Nat → Bool} {W W' : World} (h : StI w br bh R f W) (k : Kp (fun _ => False) W W') : StI w br bh R f W' :=
  ⟨k.blk h.rows (fun h => h), k.blk h.had (fun h => h), h.kp.trans k (Gr.refl _ _)⟩
theorem StI.kind {br bh : Nat} {f : Nat → Bool} {W : World} (h : StI w br bh R f W) {i : Nat} (hi : i ≤ 6) : W.cell? ⟨br, i * 2, none⟩ = some (.int .i64 (R i).1) := by
  rw [cell_blk h.rows]; exact rowsA_kind R hi
theorem StI.data {br bh : Nat} {f : Nat → Bool} {W : World} (h : StI w br bh R f W) {i : Nat} (hi : i ≤ 6) : W.cell? ⟨br, i * 2 + 1, none⟩ = some (.string (str (R i).2)) := by
  rw [cell_blk h.rows]; exact rowsA_data R hi
theorem StI.hadAt {br bh : Nat} {f : Nat → Bool} {W : World} (h : StI w br bh R f W) {i : Nat} (hi : i < 200) : W.cell? ⟨bh, i, none⟩ = some (.bool (f i)) := by
  rw [cell_blk h.had]; exact hadN_get f i hi
/-- The sorted blocks of an inode. -/
theorem sort_facts {l : List Nat} (hn : l.Nodup) : (l.mergeSort fun a b => decide (a ≤ b)).length = l.length ∧ (∀ b, b ∈ (l.mergeSort fun a b => decide (a ≤ b)) ↔ b ∈ l) ∧ (l.mergeSort fun a b => decide (a ≤ b)).Pairwise (· < ·) := by
  have hp := List.mergeSort_perm l fun a b => decide (a ≤ b)
  refine ⟨hp.length_eq, fun b => hp.mem_iff, ?_⟩
  have h1 : (l.mergeSort fun a b => decide (a ≤ b)).Pairwise fun a b => decide (a ≤ b) = true := List.pairwise_mergeSort (fun a b c h1 h2 => by simp at *; omega) (fun a b => by simp; omega) l
  have h2 : (l.mergeSort fun a b => decide (a ≤ b)).Pairwise (· ≠ ·) := hp.symm.nodup hn
  exact (h1.and h2).imp fun {a b} h => by simp at h; omega
theorem StI.set {br bh : Nat} {f g : Nat → Bool} {W : World} (h : StI w br bh R f W) (q : Nat) (hlo : w.heap.size ≤ bh) (hne : bh ≠ br) (hg : ∀ x, (if x = q then true else f x) = g x) : StI w br bh R g (W.setCell ⟨bh, q, none⟩ (.bool true)) := by
  have hk : Kp (fun x => x = bh) W (W.setCell ⟨bh, q, none⟩ (.bool true)) := Kp.setCell (F := fun x => x = bh) (p := ⟨bh, q, none⟩) (Kp.refl _ W) (.inl rfl) (.bool true)
  refine ⟨hk.blk h.rows (fun e => hne e.symm), ?_, h.kp.over hk (fun i e => by rw [show i = bh from e]; exact hlo)⟩
  rw [set_blk h.had, hadN_set]
  congr 3
  funext x
  exact hg x
theorem usedT_succ0 {k : Nat} (h : (T (k + 1)).blks = []) : usedT T (k + 1) = usedT T k := by rw [usedT, h, List.append_nil]
theorem stands_ok (h : Tab w bt bx bc bj bm bd 5 6 0 20 nbl C F T) (hR : ∀ k, 1 ≤ k → k ≤ 6 → (T k).kind = (R k).1 ∧ dataOf C.view (T k) = (R k).2) (hge : Ge w) (hn : nbl ≤ 60) :
    Calls Tryz.prog 28 #[.pointer (some ⟨bx, 0, none⟩), .pointer (some ⟨bt, 0, none⟩), .agg (rowsA R), .int .i64 nbl] w fun e w' => e = .returned (.bool true) ∧ Kp (fun _ => False) w w' := by
  have Hge := Lib.hid hge
  have H := Lib.hid h
  have HR := Lib.hid hR
  clear hge h hR
  go_enter Tryz.func28, Tryz.ntmps28
  go_upto_region 3 with fail
  have hst : StI w w.heap.size (w.heap.size + 1) R (fun _ => false) ((w.alloc (.cells (rowsA R) 45)).alloc (.cells Tryz.zeroCells120 120)) := by
    have k1 := (Kp.refl (fun _ => False) (w.alloc (.cells (rowsA R) 45))).alloc (.cells Tryz.zeroCells120 120)
    refine ⟨k1.blk (new_blk w _) (fun h => h), ?_, ((Kp.refl (fun _ => False) w).alloc _).trans k1 (Gr.refl _ _)⟩
    have h2 := new_blk (w.alloc (.cells (rowsA R) 45)) (.cells Tryz.zeroCells120 120)
    rw [size_alloc] at h2
    rw [h2, hadN_new]
  generalize (w.alloc (.cells (rowsA R) 45)).alloc (.cells Tryz.zeroCells120 120) = w0 at *
  have hbb : w.heap.size ≤ w.heap.size := Nat.le_refl _
  obtain ⟨br, hbr⟩ : ∃ br, br = w.heap.size := ⟨_, rfl⟩
  obtain ⟨bh, hbh⟩ : ∃ bh, bh = w.heap.size + 1 := ⟨_, rfl⟩
  rw [← hbh, ← hbr] at hst
  rw [← hbh, ← hbr]
  have Hst := Lib.hid hst
  have hne : bh ≠ br := by omega
  have Hbh := Lib.hid (show w.heap.size ≤ bh by omega)
  clear hst hbr hbh hbb
  go_wp2_with fail
  go_loopw [9, 10, 12] (fun lf us i wr => ∃ (k m : Nat), k ≤ 6 ∧ m = k + 1 ∧ i = .int .i64 (m : Nat) ∧ lf = .int .i64 (leftT T k : Nat) ∧ us = .int .i64 ((usedT T k).length : Nat) ∧ StI w br bh R (fun b => decide (b ∈ usedT T k)) wr) (fun _ _ i _ => 7 - (intOf i).toNat)
  case atStart => exact ⟨0, 1, by omega, rfl, rfl, rfl, rfl, by simpa [usedT] using Hst.out⟩
  case round =>
    clear Hst
    obtain ⟨k, m, hk6, hm, rfl, rfl, rfl, hit⟩ := hrel
    have HS := Lib.hid hit
    have Hm := Lib.hid hm
    clear hit
    by_cases hlt : m ≤ 6
    · have hlt' : (m : Int) ≤ 6 := by omega
      have hlt9 : (m : Int) < 7 := by omega
      have hm0 : (0 : Int) ≤ (m : Int) := by omega
      obtain ⟨e1, e2⟩ := HR.out m (by omega) hlt
      have hll := leftT_le T k
      have hul : (usedT T k).length ≤ 60 := by
        have h1 := H.out.ti.used
        have h2 : ∀ a b, a ≤ b → (usedT T a).length ≤ (usedT T b).length := by
          intro a b hab
          induction b with
          | zero => obtain rfl : a = 0 := by omega
                    exact Nat.le_refl _
          | succ b ih =>
            by_cases e : a = b + 1
            · subst e; exact Nat.le_refl _
            · rw [usedT, List.length_append]; have := ih (by omega); omega
        have := h2 k 6 hk6
        omega
      clear hm
      have HK := Lib.hid (fun (W : World) (hk : Kp (fun _ => False) w W) => inode_Kind_ok (H.out.kp0 hk) (ino := m) (by have := Hm.out; omega) hlt)
      rw [e1] at HK
      obtain ⟨kd, hkd⟩ : ∃ kd, kd = (R m).1 := ⟨_, rfl⟩
      have Hkd := Lib.hid hkd
      rw [← hkd] at HK e1
      have He1 := Lib.hid e1
      have He2 := Lib.hid e2
      have hlS : leftT T m = leftT T k + if kd = 0 then 1 else 0 := by
        have h0 : leftT T (k + 1) = leftT T k + if (T (k + 1)).kind = 0 then 1 else 0 := rfl
        rw [← Hm.out, He1.out] at h0; exact h0
      have huS : usedT T m = usedT T k ++ (T m).blks := by
        have h0 : usedT T (k + 1) = usedT T k ++ (T (k + 1)).blks := rfl
        rw [← Hm.out] at h0; exact h0
      clear e1 e2 hkd
      go_wp2_with fail
      refine (HK.out _ HS.out.kp).mono ?_
      rintro e w2 ⟨rfl, hk2⟩
      have HS2 := Lib.hid (HS.out.kp0 hk2)
      have ck := HS2.out.kind hlt
      rw [← Hkd.out] at ck
      clear hk2 HS
      by_cases hz : kd = 0
      · have hm1 : 1 ≤ m := by have := Hm.out; omega
        have HZ := Lib.hid (fun (W : World) (hk : Kp (fun _ => False) w W) => inode_Size_none (H.out.kp0 hk) (ino := m) hm1 hlt (by rw [He1.out, hz]))
        have hb0 : (T m).blks = [] := blks_empty (H.out.ti.ok m hm1 hlt) (by rw [He1.out, hz])
        have Hls := Lib.hid (show leftT T m = leftT T k + 1 by rw [hlS, if_pos hz])
        have Hus := Lib.hid (show usedT T m = usedT T k by rw [huS, hb0, List.append_nil])
        subst hz
        clear hlS huS hb0
        go_wp2_with fail
        refine (HZ.out _ HS2.out.kp).mono ?_
        rintro e w3 ⟨v3, rfl, hv3, hk3⟩
        obtain ⟨t3, x3, rfl⟩ := hv3.iface
        have HS3 := Lib.hid (HS2.out.kp0 hk3)
        have Hv3 := Lib.hid hv3
        clear hv3 hk3 HS2 ck
        go_wp2_with fail
        refine (ref_Num (m : Int) (by omega) (by omega)).mono ?_
        rintro e w4 ⟨rfl, hk4⟩
        have HS4 := Lib.hid (HS3.out.kp0 hk4)
        have Hv4 := Lib.hid (Hv3.out.kp hk4 (FCl.none _))
        clear hk4 HS3 Hv3
        go_wp2_with fail
        refine (law_Is Hv4.out (by decide) (Hge.out.kp HS4.out.kp Hi.none)).mono ?_
        rintro e w5 ⟨rfl, hk5⟩
        have HS5 := Lib.hid (HS4.out.kp0 hk5)
        clear hk5 HS4 Hv4
        go_wp2_with fail
        go_roundw
        case rel => exact ⟨m, m + 1, hlt, rfl, by go_num, by rw [Hls.out]; go_num, by rw [Hus.out], by rw [Hus.out]; exact HS5.out⟩
        case measure => simp [intOf]; omega
      · have hzb : ((kd : Int) == 0) = false := by simpa using hz
        have hzi : ¬ (kd : Int) = 0 := by omega
        have hm1 : 1 ≤ m := by have := Hm.out; omega
        have HZ := Lib.hid (fun (W : World) (hk : Kp (fun _ => False) w W) => inode_Size_ok (H.out.kp0 hk) (ino := m) hm1 hlt (by rw [He1.out]; exact hz))
        have HD := Lib.hid (fun (W : World) (hk : Kp (fun _ => False) w W) => inode_Read_ok (H.out.kp0 hk) (ino := m) (p := 0) (m := 5000) hm1 hlt (by rw [He1.out]; exact hz) (by omega) (by omega))
        have HBl := Lib.hid (fun (W : World) (hk : Kp (fun _ => False) w W) => inode_Blocks_ok (H.out.kp0 hk) (ino := m) hm1 hlt (by rw [He1.out]; exact hz))
        have hok := H.out.ti.ok m hm1 hlt
        have hdl := data_len H.out hm1 hlt
        have hsz := hok.size
        rw [He2.out] at hdl
        have hbk := bks_of hok
        obtain ⟨d, hd⟩ : ∃ d, d = (R m).2 := ⟨_, rfl⟩
        have Hd := Lib.hid hd
        rw [← hd] at hdl
        obtain ⟨sz, hsze⟩ : ∃ sz, sz = (T m).size := ⟨_, rfl⟩
        rw [← hsze] at hdl hsz HZ hbk
        obtain ⟨hL1, hL2, hL3⟩ := sort_facts hok.nd
        rw [hbk] at hL1
        have hLr : ∀ b ∈ ((T m).blks.mergeSort fun a b => decide (a ≤ b)), 20 ≤ b ∧ b < 20 + nbl := fun b hb => hok.rng b ((hL2 b).1 hb)
        have hLu : ∀ b ∈ ((T m).blks.mergeSort fun a b => decide (a ≤ b)), b ∉ usedT T k := by
          intro b hb hu
          obtain ⟨id, i1, i2, i3⟩ := mem_usedT.1 hu
          exact H.out.ti.sep m id hm1 hlt i1 (by omega) (by have := Hm.out; omega) b ((hL2 b).1 hb) i3
        have hLb : ∀ b ∈ ((T m).blks.mergeSort fun a b => decide (a ≤ b)), bitC C 0 (b - 20) = true := by
          intro b hb
          have := hLr b hb
          exact (H.out.ti.bit (b - 20) (by omega)).2 ⟨m, hm1, hlt, by rw [show 20 + (b - 20) = b by omega]; exact (hL2 b).1 hb⟩
        have HuS := Lib.hid (show ∀ b, b ∈ usedT T m ↔ b ∈ usedT T k ∨ b ∈ ((T m).blks.mergeSort fun a b => decide (a ≤ b)) from fun b => by rw [huS, List.mem_append, hL2])
        have HuL := Lib.hid (show (usedT T m).length = (usedT T k).length + bks sz by rw [huS, List.length_append, hbk])
        have Hls := Lib.hid (show leftT T m = leftT T k by rw [hlS, if_neg hz, Nat.add_zero])
        have hb33 := bks_le sz hsz
        generalize ((T m).blks.mergeSort fun a b => decide (a ≤ b)) = L at *
        have HL1 := Lib.hid hL1
        have HL3 := Lib.hid hL3
        have HLr := Lib.hid hLr
        have HLu := Lib.hid hLu
        have HLb := Lib.hid hLb
        have HBk := Lib.hid (fun W : World => ref_Blocks (w := W) sz hsz)
        have hstr := str_size d
        rw [hdl] at hstr
        have Hra := Lib.hid (readAt_all d 5000 (by omega))
        have Hdl := Lib.hid hdl
        rw [← hsze] at *
        obtain ⟨lb, hlb⟩ : ∃ lb, lb = bks sz := ⟨_, rfl⟩
        rw [← hlb] at hb33 HuL HBk hL1 HL1
        clear hlb hbk hL2 hLr hLu hLb hlS huS hok hd hL3 hsze hdl hL1 hz
        go_wp2_with fail
        refine (HZ.out _ HS2.out.kp).mono ?_
        rintro e w3 ⟨rfl, hk3⟩
        have HS3 := Lib.hid (HS2.out.kp0 hk3)
        clear hk3 HS2 ck
        go_wp2_with fail
        refine (HD.out _ HS3.out.kp).mono ?_
        rintro e w4 ⟨v4, rfl, hs4, hk4⟩
        rw [He2.out, ← Hd.out, Hra.out] at hs4
        obtain ⟨A4, c4, ev4, -, -, -⟩ := id hs4
        rw [Hdl.out] at ev4
        subst ev4
        have HS4 := Lib.hid (HS3.out.kp0 hk4)
        have Hs4 := Lib.hid hs4
        have Hb4 := Lib.hid (lt_blk HS4.out.had)
        clear hs4 hk4 HS3
        go_wp2_with fail
        refine (HBl.out _ HS4.out.kp).mono ?_
        rintro e w5 ⟨v5, rfl, hs5, hk5⟩
        have HS5 := Lib.hid (HS4.out.kp0 hk5)
        have hcv := fun n => conv_str ((Hs4.out.kp hk5 (fun _ _ h => h)).kp ((Kp.refl (fun _ => False) _).drewN n) (fun _ _ h => h))
        have ck := HS5.out.data hlt
        rw [← Hd.out] at ck
        generalize str d = tx at *
        obtain ⟨A5, rfl, hmx, hg5⟩ := hs5
        have Hg5 := Lib.hid hg5
        rw [HL1.out]
        clear hk5 HS4 Hs4 hg5 hmx
        go_upto_region 17 with fail
        go_quiet ((go_at_call 54; exact Calls.quiet_of_same ((HBk.out _).mono fun _ _ h => ⟨h.1, h.2.symm⟩)))
        have HS6 := Lib.hid (HS5.out.kp0 ((Kp.refl _ w5).drewN nq))
        have Hc6 := Lib.hid (show ∀ j b, L[j]? = some b → ∃ g, A5 = some ⟨g, 0, none⟩ ∧ g ≠ bh ∧ (w5.drewN nq).cell? ⟨g, j, none⟩ = some (.int .i64 (b : Nat)) by
          intro j b hb
          obtain ⟨g, e1, e2, cs, e3, e4⟩ := Hg5.out (by rintro rfl; cases hb)
          refine ⟨g, e1, by have := Hb4.out; omega, ?_⟩
          rw [cell_blk (((Kp.refl (fun _ => False) w5).drewN nq).blk e3 (fun h => h))]
          exact e4 j b hb)
        generalize w5.drewN nq = w6 at *
        clear hcv ck hstr HS5 Hg5
        go_wp2_with fail
        go_loopw [23] (fun i wr => ∃ j, j ≤ lb ∧ i = .int .i64 (j : Nat) ∧ StI w br bh R (fun b => decide (b ∈ usedT T k ∨ b ∈ L.take j)) wr ∧ Kp (fun x => x = bh) w6 wr) (fun i _ => lb - (intOf i).toNat)
        case atStart => exact ⟨0, Nat.zero_le _, rfl, by simpa using HS6.out, Kp.refl _ _⟩
        case round =>
          obtain ⟨j, hj, rfl, hit, hk⟩ := hrel
          have HS7 := Lib.hid hit
          have HK7 := Lib.hid hk
          clear hit hk
          by_cases hjl : j < lb
          · have hjl' : (j : Int) < (lb : Int) := by omega
            have hj0 : (0 : Int) ≤ (j : Int) := by omega
            have hjL : j < L.length := by have := HL1.out; omega
            obtain ⟨b, hb⟩ : ∃ b, L[j]? = some b := ⟨_, List.getElem?_eq_getElem hjL⟩
            have hbL : b ∈ L := List.mem_of_getElem? hb
            obtain ⟨hb1, hb2⟩ := HLr.out b hbL
            obtain ⟨g, rfl, hgne, hc⟩ := Hc6.out j b hb
            have c1 := HK7.out.cell hc hgne
            have c2 := HS7.out.hadAt (i := b) (by omega)
            have hnot : b ∉ L.take j := by
              intro hm
              obtain ⟨p, hp⟩ := List.getElem?_of_mem hm
              rw [List.getElem?_take] at hp
              split at hp
              · rename_i hpj
                obtain ⟨p1, p2⟩ := List.getElem?_eq_some_iff.1 hp
                obtain ⟨q1, q2⟩ := List.getElem?_eq_some_iff.1 hb
                have := List.pairwise_iff_getElem.1 HL3.out p j p1 q1 hpj
                omega
              · cases hp
            rw [show decide (b ∈ usedT T k ∨ b ∈ L.take j) = false from decide_eq_false (by rintro (h | h); exact HLu.out b hbL h; exact hnot h)] at c2
            have f2 := frozen_blk HS7.out.had b
            have d1 : ¬ (b : Int) < 20 := by omega
            have d2 : ¬ (20 : Int) + (nbl : Int) ≤ (b : Int) := by omega
            have hb200 : (b : Int) < 200 := by omega
            have hb0 : (0 : Int) ≤ (b : Int) := by omega
            have e20 : IntKind.i64.wrap ((20 : Int) + (nbl : Int)) = 20 + (nbl : Int) := IntWalk.i64_in _ (by omega)
            have HTk := Lib.hid (fun (W : World) (hk : Kp (fun _ => False) w W) => alloc_Taken_ok (H.out.kp0 hk).map (b - 20) (by omega))
            rw [HLb.out b hbL, show 20 + (b - 20) = b by omega] at HTk
            have Htake := Lib.hid (show L.take (j + 1) = L.take j ++ [b] by rw [List.take_add_one, hb]; rfl)
            clear hbL hjL hnot hb1 hb2 hc
            by_cases hjz : j = 0
            · subst hjz
              go_upto_region 22 with fail
              go_quiet (fail)
              have HS8 := Lib.hid (HS7.out.kp0 ((Kp.refl _ wr).drewN nq))
              have HK8 := Lib.hid (HK7.out.drewN nq)
              have c1' := ((Kp.refl (fun _ => False) wr).drewN nq).cell c1 (fun h => h)
              have f2' := frozen_blk HS8.out.had b
              have c2' := ((Kp.refl (fun _ => False) wr).drewN nq).cell c2 (fun h => h)
              generalize wr.drewN nq = w8 at *
              clear c1 c2 f2 HS7 HK7
              go_upto_region 25 with fail
              have HS9 := Lib.hid (HS8.out.set (g := fun x => decide (x ∈ usedT T k ∨ x ∈ L.take (0 + 1))) b Hbh.out hne (fun x => by
                rw [Htake.out]
                by_cases hx : x = b
                · subst hx; simp
                · simp [hx]))
              have HK9 := Lib.hid (HK8.out.trans (Kp.setCell (F := fun x => x = bh) (p := ⟨bh, b, none⟩) (Kp.refl _ w8) (.inl rfl) (.bool true)) (Gr.refl _ _))
              have c9 := (Kp.setCell (F := fun x => x = bh) (p := ⟨bh, b, none⟩) (Kp.refl _ w8) (.inl rfl) (.bool true)).cell c1' hgne
              generalize w8.setCell ⟨bh, b, none⟩ (.bool true) = w9 at *
              clear c1' c2' f2' HS8 HK8
              go_wp2_with fail
              refine (HTk.out _ HS9.out.kp).mono ?_
              rintro e w10 ⟨rfl, hk10⟩
              have HS10 := Lib.hid (HS9.out.kp0 hk10)
              have HK10 := Lib.hid (HK9.out.trans (hk10.mono (F' := fun x => x = bh) (fun _ h => h.elim)) (Gr.refl _ _))
              clear hk10 HS9 HK9 c9
              go_wp2_with fail
              go_roundw
              case rel => exact ⟨0 + 1, by omega, by go_num, HS10.out, HK10.out⟩
              case measure => simp [intOf]; omega
            · have dz : (0 : Int) < (j : Int) := by omega
              obtain ⟨p, hp⟩ : ∃ p, j = p + 1 := ⟨j - 1, by omega⟩
              have hpl : (p : Int) < (lb : Int) := by omega
              have hp0 : (0 : Int) ≤ (p : Int) := by omega
              have hpL : p < L.length := by have := HL1.out; omega
              obtain ⟨b', hb'⟩ : ∃ b', L[p]? = some b' := ⟨_, List.getElem?_eq_getElem hpL⟩
              obtain ⟨g', eg, -, hc'⟩ := Hc6.out p b' hb'
              obtain rfl : g = g' := by cases eg; rfl
              have c3 := HK7.out.cell hc' hgne
              have hlt3 : b' < b := by
                obtain ⟨p1, p2⟩ := List.getElem?_eq_some_iff.1 hb'
                obtain ⟨q1, q2⟩ := List.getElem?_eq_some_iff.1 hb
                have := List.pairwise_iff_getElem.1 HL3.out p j p1 q1 (by omega)
                omega
              have d3 : ¬ (b : Int) ≤ (b' : Int) := by omega
              clear hb' hc' eg hpL hjz
              subst hp
              go_upto_region 22 with fail
              go_quiet (fail)
              have HS8 := Lib.hid (HS7.out.kp0 ((Kp.refl _ wr).drewN nq))
              have HK8 := Lib.hid (HK7.out.drewN nq)
              have c1' := ((Kp.refl (fun _ => False) wr).drewN nq).cell c1 (fun h => h)
              have f2' := frozen_blk HS8.out.had b
              have c2' := ((Kp.refl (fun _ => False) wr).drewN nq).cell c2 (fun h => h)
              generalize wr.drewN nq = w8 at *
              clear c1 c2 f2 HS7 HK7
              go_upto_region 25 with fail
              have HS9 := Lib.hid (HS8.out.set (g := fun x => decide (x ∈ usedT T k ∨ x ∈ L.take (p + 1 + 1))) b Hbh.out hne (fun x => by
                rw [Htake.out]
                by_cases hx : x = b
                · subst hx; simp
                · simp [hx]))
              have HK9 := Lib.hid (HK8.out.trans (Kp.setCell (F := fun x => x = bh) (p := ⟨bh, b, none⟩) (Kp.refl _ w8) (.inl rfl) (.bool true)) (Gr.refl _ _))
              have c9 := (Kp.setCell (F := fun x => x = bh) (p := ⟨bh, b, none⟩) (Kp.refl _ w8) (.inl rfl) (.bool true)).cell c1' hgne
              generalize w8.setCell ⟨bh, b, none⟩ (.bool true) = w9 at *
              clear c1' c2' f2' HS8 HK8
              go_wp2_with fail
              refine (HTk.out _ HS9.out.kp).mono ?_
              rintro e w10 ⟨rfl, hk10⟩
              have HS10 := Lib.hid (HS9.out.kp0 hk10)
              have HK10 := Lib.hid (HK9.out.trans (hk10.mono (F' := fun x => x = bh) (fun _ h => h.elim)) (Gr.refl _ _))
              clear hk10 HS9 HK9 c9
              go_wp2_with fail
              go_roundw
              case rel => exact ⟨p + 1 + 1, by omega, by go_num, HS10.out, HK10.out⟩
              case measure => simp [intOf]; omega
          · have hjl' : ¬ (j : Int) < (lb : Int) := by omega
            have HS9 := Lib.hid (show StI w br bh R (fun b => decide (b ∈ usedT T m)) wr by
              have h1 := HS7.out
              rw [List.take_of_length_le (by have := HL1.out; omega)] at h1
              have h2 : (fun b => decide (b ∈ usedT T k ∨ b ∈ L)) = fun b => decide (b ∈ usedT T m) := by
                funext b
                exact decide_eq_decide.2 (HuS.out b).symm
              rw [h2] at h1; exact h1)
            clear HS7 HK7
            go_wp2_with fail
            go_roundw
            case rel => exact ⟨m, m + 1, hlt, rfl, by go_num, by rw [Hls.out], by rw [HuL.out]; go_num, HS9.out⟩
            case measure => simp [intOf]; omega
    · obtain rfl : m = 7 := by omega
      obtain rfl : k = 6 := by omega
      have hu := H.out.ti.used
      have hf := frees_taken C 0 20 nbl
      have hul : (usedT T 6).length ≤ nbl := by omega
      have HF := Lib.hid (fun (W : World) (hk : Kp (fun _ => False) w W) => alloc_Free_ok (H.out.kp0 hk).map)
      rw [show (((taken C 0 20 nbl).length : Nat) : Int) = (((usedT T 6).length : Nat) : Int) by omega] at HF
      have HL := Lib.hid (fun (W : World) (hk : Kp (fun _ => False) w W) => inode_Left (H.out.kp0 hk))
      have hll := leftT_le T 6
      clear hu hf hm Hm hlt hk6
      generalize (usedT T 6).length = us at *
      generalize leftT T 6 = lf at *
      have ew : IntKind.i64.wrap ((nbl : Int) - (us : Int)) = (nbl : Int) - (us : Int) := IntWalk.i64_in _ (by omega)
      go_wp2_with fail
      refine (HF.out _ HS.out.kp).mono ?_
      rintro e w2 ⟨rfl, hk2⟩
      have HS2 := Lib.hid (HS.out.kp0 hk2)
      clear hk2 HS
      go_wp2_with fail
      refine (HL.out _ HS2.out.kp).mono ?_
      rintro e w3 ⟨rfl, hk3⟩
      have HS3 := Lib.hid (HS2.out.kp0 hk3)
      clear hk3 HS2
      go_wp2_with fail
      go_ret
      exact ⟨rfl, HS3.out.kp⟩
end Go.Proofs.YthjbpbahcemfgaaGreatDoor
namespace Go.Proofs.YthjbpbahcemfgaaGreatDoor
set_option linter.unusedVariables false
set_option linter.unusedSimpArgs false
open Go.RowKit
set_option maxHeartbeats 2000000
set_option maxRecDepth 20000

/-- So many bytes by any number. -/
def textZ (n : Int) (k : Nat) : List Int := (List.range k).map fun j : Nat => (n + 3 * (j : Int)) % 256
@[simp] theorem textZ_length (n : Int) (k : Nat) : (textZ n k).length = k := by simp [textZ]
theorem textZ_byt (n : Int) (k : Nat) : Byt (textZ n k) := by
  intro x hx
  simp only [textZ, List.mem_map, List.mem_range] at hx
  obtain ⟨j, _, rfl⟩ := hx
  omega
def zpart (n : Int) (k i : Nat) : List Int := (List.range k).map fun j : Nat => if j < i then (n + 3 * (j : Int)) % 256 else 0
theorem zpart_zero (n : Int) (k : Nat) : zpart n k 0 = zs k := by
  unfold zpart zs
  rw [List.eq_replicate_iff]
  refine ⟨by simp, fun b hb => ?_⟩
  simp at hb
  exact hb.2.symm ▸ rfl
theorem zpart_all (n : Int) (k : Nat) : zpart n k k = textZ n k := by
  unfold zpart textZ
  refine List.map_congr_left fun j hj => ?_
  rw [if_pos (List.mem_range.1 hj)]
@[simp] theorem zpart_length (n : Int) (k i : Nat) : (zpart n k i).length = k := by simp [zpart]
theorem zpart_set (n : Int) (k i : Nat) : (zpart n k i).set i ((n + 3 * (i : Int)) % 256) = zpart n k (i + 1) := by
  apply List.ext_getElem
  · simp
  · intro j h1 h2
    simp only [zpart, List.getElem_set, List.getElem_map, List.getElem_range]
    by_cases e : i = j
    · subst e; rw [if_pos rfl, if_pos (by omega)]
    · rw [if_neg e]
      by_cases hj : j < i
      · rw [if_pos hj, if_pos (by omega)]
      · rw [if_neg hj, if_neg (by omega)]
theorem textZ_ok {w : World} (n : Int) (k : Nat) (hk : k ≤ 5000) :
    Calls Tryz.prog 24 #[.int .i64 n, .int .i64 k] w fun e w' => e = .returned (.string (str (textZ n k))) ∧ Kp (fun _ => False) w w' := by
  obtain ⟨N, hN⟩ : ∃ N, N = w.heap.size := ⟨_, rfl⟩
  have HN := Lib.hid hN
  clear hN
  go_enter Tryz.func24, Tryz.ntmps24
  go_wp2_with (first | (at_make; refine wpList_makeNg rfl _ _ rfl k rfl rfl (by omega) N HN.out.symm ?_; intro w1 hk1 hr1 hz1; have Hr1 := Lib.hid hr1; have Hk1 := Lib.hid hk1; clear hr1 hk1 hz1))
  go_loopw [11] (fun x wr => ∃ i : Nat, x = .int .i64 (i : Nat) ∧ i ≤ k ∧ RowE wr N (zpart n k i) ∧ Kp (fun _ => False) w wr) (fun x _ => k - (intOf x).toNat)
  case atStart => exact ⟨0, rfl, Nat.zero_le _, by rw [zpart_zero]; exact Hr1.out, Hk1.out⟩
  case round =>
    obtain ⟨i, rfl, hik, hr, hkp⟩ := hrel
    have Hr := Lib.hid hr
    have Hkp := Lib.hid hkp
    clear hr hkp
    by_cases hlt : i < k
    · have hlt' : (i : Int) < (k : Int) := by omega
      have c0 := Hr.out.cellD i (by simpa using hlt)
      have f0 := frozen_blk Hr.out i
      go_wp2_with fail
      have hrow := Hr.out.set1 i ((n + 3 * (i : Int)) % 256)
      rw [zpart_set] at hrow
      have hk2 := Hkp.out.over (Kp.setCell (F := fun j => j = N) (p := ⟨N, i, none⟩) (Kp.refl _ wr) (.inl rfl) (.int .u8 ((n + 3 * (i : Int)) % 256))) (fun j e => by have : j = N := e; have := HN.out; omega)
      have ez : wrap64 (n + 3 * (i : Int)) % 256 = (n + 3 * (i : Int)) % 256 := by unfold wrap64; omega
      rw [ez]
      clear ez
      have Hrow := Lib.hid hrow
      have Hk2 := Lib.hid hk2
      clear hrow hk2 c0 f0
      go_roundw
      case rel => exact ⟨i + 1, by go_num, by omega, Hrow.out, Hk2.out⟩
      case measure => simp [intOf]; omega
    · have hge : ¬ (i : Int) < (k : Int) := by omega
      obtain rfl : i = k := by omega
      rw [zpart_all] at Hr
      have hcv := conv_str (Hr.out.sl (by rw [textZ_length]; unfold maxLen; omega))
      rw [textZ_length] at hcv
      go_wp2_with fail
      go_ret
      exact ⟨rfl, Hkp.out⟩
end Go.Proofs.YthjbpbahcemfgaaGreatDoor
namespace Go.Proofs.YthjbpbahcemfgaaGreatDoor
set_option linter.unusedVariables false
set_option linter.unusedSimpArgs false
open Go.RowKit
set_option maxHeartbeats 2000000
set_option maxRecDepth 20000
variable {w wr : World} {bt bx bc bj bm bd nbl bq : Nat} {F F' : Nat → Prop} {R R' Q : Nat → Nat × List Int} {W W' : World}

theorem it_hadArg (h : IT w bt bx bc bj bm bd nbl R F wr) {ino : Int} {good : Bool} (hno : (ino < 1 ∨ 6 < ino) ∨ good = false) (h0 : -9223372036854775808 ≤ ino) (h9 : ino ≤ 9223372036854775807) : HadNo bt ino good 1 wr := by
  obtain ⟨⟨C, T, ht, hR, hC⟩, h3, h4, h5, h6⟩ := h
  exact inode_had_arg ht (by simpa using hno) h0 h9
theorem it_hadNone (h : IT w bt bx bc bj bm bd nbl R F wr) {ino : Nat} (h1 : 1 ≤ ino) (h2 : ino ≤ 6) (hk : (R ino).1 = 0) : HadNo bt ino true 11 wr := by
  obtain ⟨⟨C, T, ht, hR, hC⟩, h3, h4, h5, h6⟩ := h
  exact inode_had_none ht h1 h2 (by rw [(hR ino h1 h2).1]; exact hk)
theorem it_writeBig (h : IT w bt bx bc bj bm bd nbl R F wr) {ino p l : Nat} (h1 : 1 ≤ ino) (h2 : ino ≤ 6) (hk : (R ino).1 ≠ 0) (A : Option Addr) (c : Nat) (hp : 4000 < p + l) (hp9 : (p : Int) ≤ 9223372036854775807) :
    Calls Tryz.prog 23 #[.pointer (some ⟨bt, 0, none⟩), .int .i64 ino, .int .i64 p, .slice A l c] wr fun e w' => ∃ u, e = .returned u ∧ IsErr w' u [(tx [105, 110, 111, 100, 101], tx (Lib.itoa ino))] 5 ∧ Kp (fun _ => False) wr w' := by
  obtain ⟨⟨C, T, ht, hR, hC⟩, h3, h4, h5, h6⟩ := h
  exact inode_Write_big ht h1 h2 (by rw [(hR ino h1 h2).1]; exact hk) A c hp hp9
theorem it_cutBig (h : IT w bt bx bc bj bm bd nbl R F wr) {ino : Nat} {p : Int} (h1 : 1 ≤ ino) (h2 : ino ≤ 6) (hk : (R ino).1 ≠ 0) (hp : 4000 < p) :
    Calls Tryz.prog 25 #[.pointer (some ⟨bt, 0, none⟩), .int .i64 ino, .int .i64 p] wr fun e w' => ∃ u, e = .returned u ∧ IsErr w' u [(tx [105, 110, 111, 100, 101], tx (Lib.itoa ino))] 5 ∧ Kp (fun _ => False) wr w' := by
  obtain ⟨⟨C, T, ht, hR, hC⟩, h3, h4, h5, h6⟩ := h
  exact inode_Cut_big ht h1 h2 (by rw [(hR ino h1 h2).1]; exact hk) hp
theorem ref_Grow {w : World} (n m : Nat) (hn : n ≤ 4000) (hm : m ≤ 4000) :
    Calls Tryz.prog 22 #[.int .i64 n, .int .i64 m] w fun e w' => e = .returned (.int .i64 (bks m - bks n : Nat)) ∧ w = w' := by
  have HN := Lib.hid (fun W : World => ref_Blocks (w := W) n hn)
  have HM := Lib.hid (fun W : World => ref_Blocks (w := W) m hm)
  have h1 := bks_le n hn
  have h2 := bks_le m hm
  generalize bks n = a at *
  generalize bks m = b at *
  have e1 : max ((b : Int) - (a : Int)) 0 = ((b - a : Nat) : Int) := by omega
  go_enter Tryz.func22, Tryz.ntmps22
  go_wp2_with fail
  refine (HM.out _).mono ?_
  rintro e w1 ⟨rfl, rfl⟩
  go_wp2_with fail
  refine (HN.out _).mono ?_
  rintro e w1 ⟨rfl, rfl⟩
  go_wp2_with fail
  go_ret
  exact ⟨rfl, rfl⟩

/-- All inodes may be. -/
def OkR (R : Nat → Nat × List Int) : Prop := ∀ k, (R k).1 ≤ 2 ∧ (R k).2.length ≤ 4000 ∧ Byt (R k).2 ∧ ((R k).1 = 0 → (R k).2 = [])
theorem OkR.zero : OkR fun _ => (0, []) := fun _ => ⟨Nat.zero_le _, Nat.zero_le _, fun x hx => by simp at hx, fun _ => rfl⟩
theorem OkR.set (h : OkR R) {i kd : Nat} {d : List Int} (h1 : kd ≤ 2) (h2 : d.length ≤ 4000) (h3 : Byt d) (h4 : kd = 0 → d = []) : OkR (setR R i (kd, d)) := by
  intro k
  by_cases e : k = i
  · subst e; rw [setR_same]; exact ⟨h1, h2, h3, h4⟩
  · rw [setR_other _ _ e]; exact h k
/-- The table and the statement's own rows. -/
structure X8 (w : World) (bt bx bc bj bm bd nbl bq : Nat) (R Q : Nat → Nat × List Int) (F : Nat → Prop) (W : World) : Prop where
  it : IT w bt bx bc bj bm bd nbl R F W
  out : ¬ F bq
  rows : W.heap[bq]? = some (.cells (rowsA Q) 45 (0, 0))
  lo : w.heap.size ≤ bq
  tb : bt ≠ bq
  xb : bx ≠ bq
theorem X8.kp0 (h : X8 w bt bx bc bj bm bd nbl bq R Q F W) (k : Kp (fun _ => False) W W') : X8 w bt bx bc bj bm bd nbl bq R Q F W' :=
  ⟨h.it.kp0 k, h.out, k.blk h.rows (fun h => h), h.lo, h.tb, h.xb⟩
theorem X8.turn (h : X8 w bt bx bc bj bm bd nbl bq R Q F W) (i : IT w bt bx bc bj bm bd nbl R' F' W') (k : Kp F W W') (g : Gr F F' W.heap.size) : X8 w bt bx bc bj bm bd nbl bq R' Q F' W' :=
  ⟨i, g.not h.out (lt_blk h.rows), k.blk h.rows h.out, h.lo, h.tb, h.xb⟩
theorem X8.kind (h : X8 w bt bx bc bj bm bd nbl bq R Q F W) {i : Nat} (hi : i ≤ 6) : W.cell? ⟨bq, i * 2, none⟩ = some (.int .i64 (Q i).1) := by
  rw [cell_blk h.rows]; exact rowsA_kind Q hi
theorem X8.data (h : X8 w bt bx bc bj bm bd nbl bq R Q F W) {i : Nat} (hi : i ≤ 6) : W.cell? ⟨bq, i * 2 + 1, none⟩ = some (.string (str (Q i).2)) := by
  rw [cell_blk h.rows]; exact rowsA_data Q hi
theorem X8.froz (h : X8 w bt bx bc bj bm bd nbl bq R Q F W) (i : Nat) : W.frozen? ⟨bq, i, none⟩ = false := frozen_blk h.rows i
theorem IT.far (h : IT w bt bx bc bj bm bd nbl R F W) (hlo : w.heap.size ≤ bq) (ho : ¬ F bq) (hbt : bt ≠ bq) (hbx : bx ≠ bq) (k : Kp (fun x => x = bq) W W') : IT w bt bx bc bj bm bd nbl R F W' := by
  obtain ⟨⟨C, T, ht, h2⟩, h3, h4, h5, h6⟩ := h
  have c1 := ht.map
  refine ⟨⟨C, T, ⟨k.blk ht.blk hbt, ht.out, ⟨k.blk c1.blk hbx, c1.out, c1.rep.kp k (fun i hi e => ho ((show i = bq from e) ▸ hi)) (fun i e => by have : i = bq := e; omega), c1.live, c1.vb, c1.n1, c1.n2, c1.inb, c1.far⟩, ht.geo, ht.ti⟩, h2⟩, h3.over k (fun i e => by have : i = bq := e; omega), h4, h5, h6⟩
theorem rowsA_setData (Q : Nat → Nat × List Int) {i : Nat} (h : i ≤ 6) (d : List Int) : (rowsA Q).setIfInBounds (i * 2 + 1) (.string (str d)) = rowsA (setR Q i ((Q i).1, d)) := by
  have : i = 0 ∨ i = 1 ∨ i = 2 ∨ i = 3 ∨ i = 4 ∨ i = 5 ∨ i = 6 := by omega
  rcases this with rfl | rfl | rfl | rfl | rfl | rfl | rfl <;> simp [rowsA, setR]
theorem rowsA_setKind (Q : Nat → Nat × List Int) {i : Nat} (h : i ≤ 6) (k : Nat) : (rowsA Q).setIfInBounds (i * 2) (.int .i64 k) = rowsA (setR Q i (k, (Q i).2)) := by
  have : i = 0 ∨ i = 1 ∨ i = 2 ∨ i = 3 ∨ i = 4 ∨ i = 5 ∨ i = 6 := by omega
  rcases this with rfl | rfl | rfl | rfl | rfl | rfl | rfl <;> simp [rowsA, setR]
theorem X8.setData (h : X8 w bt bx bc bj bm bd nbl bq R Q F W) {i : Nat} (hi : i ≤ 6) (d : List Int) : X8 w bt bx bc bj bm bd nbl bq R (setR Q i ((Q i).1, d)) F (W.setCell ⟨bq, i * 2 + 1, none⟩ (.string (str d))) := by
  have hk : Kp (fun x => x = bq) W (W.setCell ⟨bq, i * 2 + 1, none⟩ (.string (str d))) := Kp.setCell (F := fun x => x = bq) (p := ⟨bq, i * 2 + 1, none⟩) (Kp.refl _ W) (.inl rfl) _
  refine ⟨h.it.far h.lo h.out h.tb h.xb hk, h.out, ?_, h.lo, h.tb, h.xb⟩
  rw [set_blk h.rows, rowsA_setData Q hi]
theorem X8.setKind (h : X8 w bt bx bc bj bm bd nbl bq R Q F W) {i : Nat} (hi : i ≤ 6) (k : Nat) : X8 w bt bx bc bj bm bd nbl bq R (setR Q i (k, (Q i).2)) F (W.setCell ⟨bq, i * 2, none⟩ (.int .i64 k)) := by
  have hk : Kp (fun x => x = bq) W (W.setCell ⟨bq, i * 2, none⟩ (.int .i64 k)) := Kp.setCell (F := fun x => x = bq) (p := ⟨bq, i * 2, none⟩) (Kp.refl _ W) (.inl rfl) _
  refine ⟨h.it.far h.lo h.out h.tb h.xb hk, h.out, ?_, h.lo, h.tb, h.xb⟩
  rw [set_blk h.rows, rowsA_setKind Q hi]
theorem grownL_max (d : List Int) (k : Nat) : grownL d (max d.length k) = grownL d k := by
  unfold grownL
  by_cases h : k ≤ d.length
  · rw [Nat.max_eq_left h, if_pos (Nat.le_refl _), if_pos h]
  · rw [Nat.max_eq_right (by omega)]
theorem X8.putRow (h : X8 w bt bx bc bj bm bd nbl bq R Q F W) {i : Nat} (hi : i ≤ 6) (k : Nat) : X8 w bt bx bc bj bm bd nbl bq R (setR Q i (k, [])) F ((W.setCell ⟨bq, i * 2, none⟩ (.int .i64 k)).setCell ⟨bq, i * 2 + 1, none⟩ (.string { data := #[] })) := by
  have h1 := (h.setKind hi k).setData hi []
  rw [setR_same, setR_setR] at h1
  exact h1
theorem bytes_kp {w W : World} {tx : ByteArray} {F : Nat → Prop} (h : Kp F w W) : Kp F w (Lib.bytesWorld W 5 tx) :=
  h.trans (F1 := fun _ => False) ⟨rfl, rfl, rfl, by rw [Lib.bytesWorld_size]; omega, fun k hk _ => Lib.bytesWorld_at_old W _ _ k hk⟩ (fun _ h => h.elim)
/-- []byte(s) of a string that is known: the step, and what the slice reads as. -/
theorem bytes_run (tx : ByteArray) (ys : List Int) (n : Nat) (he : tx = str ys) (hn : ys.length = n) (hb : Byt ys) (hl : n ≤ 100000) (W : World) :
    ∃ c, (convert 9 52 (.string tx)).run Tryz.prog W = .ok (.slice (some ⟨W.heap.size, 0, none⟩) n c) (Lib.bytesWorld W 5 tx) ∧ Sl (Lib.bytesWorld W 5 tx) (.slice (some ⟨W.heap.size, 0, none⟩) n c) ys := by
  subst he
  subst hn
  have hr := Lib.run_convert_string_bytes (P := Tryz.prog) W 9 52 5 (str ys) Tryz.underlying9 Tryz.underlying52 Tryz.underlying5
  rw [str_size] at hr
  have hc1 := grownCap_ge W ys.length 0 5
  have hc2 := grownCap_le_maxLen W ys.length 0 5 (by unfold maxLen; omega)
  refine ⟨_, hr, some ⟨W.heap.size, 0, none⟩, _, rfl, hc1, hc2, fun _ => ⟨_, rfl, fun j u hj => ?_⟩⟩
  obtain ⟨y, hy, rfl⟩ := bs_get _ _ _ hj
  have hlt := (List.getElem?_eq_some_iff.1 hy).1
  rw [add0, Lib.bytesWorld_cell _ _ _ _ (by rw [str_size]; exact hlt), str_list]
  have hyr := hb y (List.mem_of_getElem? hy)
  rw [List.getD_eq_getElem?_getD, List.getElem?_map, hy]
  simp only [Option.map_some, Option.getD_some]
  congr 2
  have : (UInt8.ofNat y.toNat).toNat = y.toNat % 256 := by simp
  omega
theorem it_readZ (h : IT w bt bx bc bj bm bd nbl R F wr) {ino p m : Nat} (h1 : 1 ≤ ino) (h2 : ino ≤ 6) (hk : (R ino).1 ≠ 0) (hp : p ≤ 9223372036854775807) (hm : m ≤ 9223372036854775807) :
    Calls Tryz.prog 27 #[.pointer (some ⟨bt, 0, none⟩), .int .i64 ino, .int .i64 p, .int .i64 m] wr fun e w' => ∃ v, e = .returned (.tuple #[v, .nilIface]) ∧ Sl w' v (readAt (R ino).2 p m) ∧ Kp (fun _ => False) wr w' := it_read h h1 h2 hk hp hm
end Go.Proofs.YthjbpbahcemfgaaGreatDoor
