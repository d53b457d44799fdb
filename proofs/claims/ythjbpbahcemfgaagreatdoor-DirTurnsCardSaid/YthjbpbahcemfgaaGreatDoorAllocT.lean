/- Which blocks are taken: Take, Give, All, Free. -/
import Derived.Test.YthjbpbahcemfgaaGreatDoorAllocB
namespace Go.Proofs.YthjbpbahcemfgaaGreatDoor
open Go.RowKit
set_option maxHeartbeats 1000000
set_option maxRecDepth 20000

/-- Is the i-th block of a map taken? -/
def bitC (C : CSt) (at_ i : Nat) : Bool := bitAt (C.view (at_ + i / 1024)) (i % 1024)
/-- All blocks hold bytes. -/
def VB (C : CSt) : Prop := ∀ no, no < C.blocks → Byt (C.view no)
/-- The cache behind the turn of a block's bit. -/
def CSt.flip (C : CSt) (at_ i : Nat) : CSt := C.wr (at_ + i / 1024) (i / 8 % 128) [xb ((C.view (at_ + i / 1024)).getD (i / 8 % 128) 0) (i % 8)]

theorem mbytes_get {C : CSt} {at_ q i : Nat} (h : ∀ j, j < q → (C.view (at_ + j)).length = 128) (hi : i < 128 * q) : (mbytes C at_ q).getD i 0 = (C.view (at_ + i / 128)).getD (i % 128) 0 := by
  induction q with
  | zero => omega
  | succ q ih =>
    have hl := mbytes_len (C := C) (at_ := at_) (k := q) (fun j hj => h j (by omega))
    rw [mbytes, List.getD_eq_getElem?_getD]
    by_cases hlt : i < 128 * q
    · rw [List.getElem?_append_left (by omega), ← List.getD_eq_getElem?_getD, ih (fun j hj => h j (by omega)) hlt]
    · rw [List.getElem?_append_right (by omega), hl, List.getD_eq_getElem?_getD]
      have e1 : i / 128 = q := by omega
      have e2 : i - 128 * q = i % 128 := by omega
      rw [e1, e2]
theorem mbytes_bit {C : CSt} {at_ q i : Nat} (h : ∀ j, j < q → (C.view (at_ + j)).length = 128) (hi : i < 1024 * q) : bitAt (mbytes C at_ q) i = bitC C at_ i := by
  unfold bitAt bitC bitAt
  rw [mbytes_get h (by omega)]
  have e1 : i / 8 / 128 = i / 1024 := by omega
  have e2 : i / 8 % 128 = i % 1024 / 8 := by omega
  have e3 : i % 1024 % 8 = i % 8 := by omega
  rw [e1, e2, e3]
theorem mbytes_byt {C : CSt} {at_ q : Nat} (h : ∀ j, j < q → Byt (C.view (at_ + j))) : Byt (mbytes C at_ q) := by
  induction q with
  | zero => intro x hx; cases hx
  | succ q ih =>
    intro x hx
    rw [mbytes, List.mem_append] at hx
    rcases hx with hx | hx
    · exact ih (fun j hj => h j (by omega)) x hx
    · exact h q (by omega) x hx

theorem view_wr {C : CSt} {no off : Nat} {ys : List Int} (k : Nat) : (C.wr no off ys).view k = if k = no then splice (C.view no) off ys else C.view k := by
  have e : (C.wr no off ys).view k = if k ∈ (C.wr no off ys).ch then (C.wr no off ys).cont k else (C.wr no off ys).D.row k := rfl
  rw [e]
  by_cases hk : k = no
  · subst hk
    have : k ∈ (C.wr k off ys).ch := by simp only [CSt.wr]; split <;> simp_all
    rw [if_pos this]; simp [CSt.wr]
  · have : k ∈ (C.wr no off ys).ch ↔ k ∈ C.ch := by simp only [CSt.wr]; split <;> simp [hk]
    rw [if_neg hk]
    by_cases h2 : k ∈ C.ch
    · rw [if_pos (this.2 h2)]; simp [CSt.wr, hk, CSt.view, h2]
    · rw [if_neg (fun h => h2 (this.1 h))]; simp [CSt.wr, CSt.view, h2]
theorem splice_one (xs : List Int) (p : Nat) (y : Int) (h : p < xs.length) : splice xs p [y] = xs.set p y := by
  unfold splice
  rw [List.set_eq_take_append_cons_drop, if_pos h]
  simp
theorem flip_bit {C : CSt} {at_ i j : Nat} (hl : (C.view (at_ + i / 1024)).length = 128) (hb : Byt (C.view (at_ + i / 1024))) : bitC (C.flip at_ i) at_ j = if j = i then !(bitC C at_ i) else bitC C at_ j := by
  unfold bitC CSt.flip
  rw [view_wr]
  have hp : i / 8 % 128 < (C.view (at_ + i / 1024)).length := by omega
  by_cases h : j / 1024 = i / 1024
  · rw [if_pos (by omega), splice_one _ _ _ hp, h]
    generalize C.view (at_ + i / 1024) = xs at *
    unfold bitAt
    have hx := hb.getD (i / 8 % 128)
    rw [List.getD_eq_getElem?_getD, List.getElem?_set]
    by_cases h2 : i / 8 % 128 = j % 1024 / 8
    · rw [if_pos h2, if_pos hp, Option.getD_some, xb_bit hx (by omega) (by omega)]
      by_cases h3 : j = i
      · subst h3
        have e1 : j % 1024 % 8 = j % 8 := by omega
        rw [if_pos e1, if_pos rfl, e1, ← h2]
      · rw [if_neg (by omega), if_neg h3, ← h2]
    · rw [if_neg h2, if_neg (by rintro rfl; omega), ← List.getD_eq_getElem?_getD]
  · rw [if_neg (by omega), if_neg (by rintro rfl; exact h rfl)]
theorem flip_byt {C : CSt} {at_ i : Nat} (h : VB C) (hl : (C.view (at_ + i / 1024)).length = 128) (hi : at_ + i / 1024 < C.blocks) : VB (C.flip at_ i) := by
  intro no hno
  unfold CSt.flip at hno ⊢
  rw [view_wr]
  split
  · rw [splice_one _ _ _ (by omega)]
    intro x hx
    rcases List.mem_or_eq_of_mem_set hx with hx | rfl
    · exact h _ hi x hx
    · exact xb_range ((h _ hi).getD _) (by omega)
  · exact h no hno
theorem flip_blocks {C : CSt} {at_ i : Nat} : (C.flip at_ i).blocks = C.blocks ∧ (C.flip at_ i).most = C.most ∧ (C.flip at_ i).D = C.D := ⟨rfl, rfl, rfl⟩

theorem alloc_wrong (nm : ByteArray) (n : Int) (w : World) (h : n ≠ 0) :
    Calls Tryz.prog 73 #[.string nm, .int .i64 n] w fun e w' => ∃ v, e = .returned v ∧ IsErr w' v [(tx [97, 108, 108, 111, 99], nm)] n ∧ Kp (fun _ => False) w w' := by
  go_enter Tryz.func73, Tryz.ntmps73
  go_wp2_with fail
  refine (fault_New _ _ _ _ h).mono ?_
  rintro e w2 ⟨v, rfl, hv, hk2⟩
  go_wp2_with fail
  go_ret
  exact ⟨v, rfl, hv, hk2⟩
theorem alloc_told (nm : ByteArray) (v : Value) (E : EV) (w : World) (hv : ErrV w v E) :
    Calls Tryz.prog 82 #[.string nm, v] w fun e w' => ∃ v', e = .returned v' ∧ ErrV w' v' (wrapE (tx [97, 108, 108, 111, 99]) nm E) ∧ Kp (fun _ => False) w w' := by
  have H := Lib.hid hv
  clear hv
  go_enter Tryz.func82, Tryz.ntmps82
  go_wp2_with fail
  refine (fault_Wrap _ _ v E _ H.out).mono ?_
  rintro e w1 ⟨v', rfl, h1, h2⟩
  go_wp2_with fail
  go_ret
  exact ⟨v', rfl, h1, h2⟩

/-- What a map's functions ask of the map and the cache. -/
structure MapOn (w : World) (bx bc bj bm bd at_ from_ n : Nat) (C : CSt) (F : Nat → Prop) : Prop where
  blk : MBlk w bx bc at_ from_ n
  out : ¬ F bx
  rep : CRep w bc bj bm bd C F
  live : C.D.dead = false
  vb : VB C
  n1 : 1 ≤ n
  n2 : n ≤ 2048
  inb : at_ + nb n ≤ C.blocks
  far : (from_ : Int) + n ≤ 9223372036854775807
theorem MapOn.vl {w : World} {bx bc bj bm bd at_ from_ n : Nat} {C : CSt} {F : Nat → Prop} (h : MapOn w bx bc bj bm bd at_ from_ n C F) : ∀ j, j < nb n → (C.view (at_ + j)).length = 128 := fun j hj => h.rep.viewlen (by have := h.inb; omega)

theorem alloc_Take_ok {w : World} {bx bc bj bm bd at_ from_ n : Nat} {C : CSt} {F : Nat → Prop} (h : MapOn w bx bc bj bm bd at_ from_ n C F) (i : Nat) (hi : i < n) (hfree : bitC C at_ i = false) (hleast : ∀ j, j < i → bitC C at_ j = true)
    (hroom : at_ + i / 1024 ∈ C.ch ∨ C.ch.length < C.most) :
    Calls Tryz.prog 93 #[.pointer (some ⟨bx, 0, none⟩)] w fun e w' => e = .returned (.tuple #[.int .i64 (from_ + i : Nat), .nilIface]) ∧
      ∃ F', CRep w' bc bj bm bd (C.flip at_ i) F' ∧ Kp F w w' ∧ Gr F F' w.heap.size := by
  have hvl := h.vl
  have hnb : nb n ≤ 2 ∧ n ≤ 1024 * nb n ∧ 1024 * nb n < n + 1024 := by have := h.n1; have := h.n2; unfold nb; omega
  have hbit : ∀ j, j ≤ i → bitAt (mbytes C at_ (nb n)) j = (if j = i then false else true) := fun j hj => by
    rw [mbytes_bit hvl (by omega)]
    split
    · subst_vars; exact hfree
    · exact hleast j (by omega)
  have hlen := mbytes_len (C := C) (at_ := at_) (k := nb n) hvl
  have hbyt : Byt (mbytes C at_ (nb n)) := mbytes_byt (fun j hj => h.vb _ (by have := h.inb; omega))
  have hget : (mbytes C at_ (nb n)).getD (i / 8) 0 = (C.view (at_ + i / 1024)).getD (i / 8 % 128) 0 := by
    rw [mbytes_get hvl (by omega), show i / 8 / 128 = i / 1024 by omega]
  have c2 := cell_blk h.blk 2
  have c3 := cell_blk h.blk 3
  simp at c2 c3
  have hfar := h.far
  have HB := Lib.hid (alloc_bytes_ok h.blk h.rep h.live h.n1 h.n2 h.inb)
  have HT := Lib.hid (fun (W : World) (v : Value) (hk : Kp (fun _ => False) w W) (hs : Sl W v (mbytes C at_ (nb n))) => alloc_turn_ok (hk.blk h.blk (fun h => h)) h.out (h.rep.kp0 hk) h.live v _ i hs (by rw [hlen]; omega) hbyt (by have := h.inb; omega) hroom)
  have HI := Lib.hid (fun (W : World) (v : Value) (j : Nat) (hj : j < n) (hs : Sl W v (mbytes C at_ (nb n))) => alloc_is (w := W) v _ j hs (by rw [hlen]; omega) hbyt)
  have Hbit := Lib.hid hbit
  have Hget := Lib.hid hget
  have HX := Lib.hid h.out
  have C2 := Lib.hid c2
  have C3 := Lib.hid c3
  clear h hvl hbit hlen hbyt hget hroom hfree hleast hnb c2 c3
  go_enter Tryz.func93, Tryz.ntmps93
  go_wp2_with fail
  refine HB.out.mono ?_
  rintro e w1 ⟨v, rfl, hs, hk, hbo⟩
  have Hs := Lib.hid hs
  have Hk := Lib.hid hk
  have c3 := hk.cell C3.out (fun h => h)
  have c2 := hk.cell C2.out (fun h => h)
  clear hs hk hbo
  go_wp2_with fail
  go_loop [21] (fun c => ∃ k : Nat, k ≤ i ∧ c = .int .i64 k) (fun c => n - (intOf c).toNat)
  case atStart => exact ⟨0, Nat.zero_le _, rfl⟩
  case round =>
    obtain ⟨k, hk, rfl⟩ := hrel
    have hkn : k < n := by omega
    by_cases hlt : k < i
    · have hb : Hid (bitAt (mbytes C at_ (nb n)) k = true) := (show bitAt (mbytes C at_ (nb n)) k = true by rw [Hbit.out k (by omega), if_neg (by omega)])
      go_wp2_with (go_at_call 83; refine (HI.out _ _ k hkn Hs.out).mono ?_; rintro e w2 ⟨rfl, rfl⟩; rw [hb.out])
      go_round
      case rel => exact ⟨k + 1, by omega, by go_num⟩
      case measure => simp [intOf]; omega
    · have hki : k = i := by omega
      subst hki
      have hb : Hid (bitAt (mbytes C at_ (nb n)) k = false) := (show bitAt (mbytes C at_ (nb n)) k = false by rw [Hbit.out k (by omega), if_pos rfl])
      go_wp2_with (first | (go_at_call 83; refine (HI.out _ _ k hkn Hs.out).mono ?_; rintro e w2 ⟨rfl, rfl⟩; rw [hb.out]) | (go_at_call 127; refine (HT.out _ _ Hk.out Hs.out).mono ?_; rintro e w2 ⟨rfl, F', hr', hk2, hg2⟩; have c2b := hk2.cell c2 HX.out))
      go_ret2
      rw [Hget.out] at hr'
      exact ⟨by simp, F', hr', Hk.out.mono (fun _ h => h.elim) |>.trans hk2 (Gr.refl _ _), hg2.mono Hk.out.size⟩
end Go.Proofs.YthjbpbahcemfgaaGreatDoor
