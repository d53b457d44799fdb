/- One map on a new cache, in the terms of which blocks are taken: Take, Give, what is refused. -/
import Derived.Test.YtinaolijnjoneaaGreatDoorAllocF
import Derived.Test.YtinaolijnjoneaaGreatDoorMade7
namespace Go.Proofs.YtinaolijnjoneaaGreatDoor
open Go.RowKit
set_option maxHeartbeats 1000000
set_option maxRecDepth 20000

def upd (S : Nat → Bool) (i : Nat) (b : Bool) : Nat → Bool := fun j => if j = i then b else S j
@[simp] theorem upd_same (S : Nat → Bool) (i : Nat) (b : Bool) : upd S i b i = b := by simp [upd]
theorem upd_other (S : Nat → Bool) {i j : Nat} (b : Bool) (h : j ≠ i) : upd S i b j = S j := by simp [upd, h]

/-- A map of n blocks, those of S taken; F: what the cache below it owns. w: the world ahead of all. -/
structure MR (w : World) (m bc bj bm bd from_ n : Nat) (S : Nat → Bool) (F : Nat → Prop) (wr : World) : Prop where
  ex : ∃ C, MapOn wr m bc bj bm bd 0 from_ n C F ∧ (∀ j, j < n → bitC C 0 j = S j) ∧ (∀ x ∈ C.ch, x < 1) ∧ C.most = 80
  kp : Kp (fun _ => False) w wr
  hi : ∀ k, F k → w.heap.size ≤ k
  few : n ≤ 1024
theorem MR.ext {w wr : World} {m bc bj bm bd f n : Nat} {S S' : Nat → Bool} {F : Nat → Prop} (h : MR w m bc bj bm bd f n S F wr) (e : ∀ j, j < n → S j = S' j) : MR w m bc bj bm bd f n S' F wr := by
  obtain ⟨⟨C, h1, h2, h3⟩, h4, h5, h6⟩ := h
  exact ⟨⟨C, h1, fun j hj => (h2 j hj).trans (e j hj), h3⟩, h4, h5, h6⟩
theorem MR.kp0 {w wr w' : World} {m bc bj bm bd f n : Nat} {S : Nat → Bool} {F : Nat → Prop} (h : MR w m bc bj bm bd f n S F wr) (k : Kp (fun _ => False) wr w') : MR w m bc bj bm bd f n S F w' := by
  obtain ⟨⟨C, h1, h2, h3⟩, h4, h5, h6⟩ := h
  exact ⟨⟨C, h1.step (h1.rep.kp0 k) (k.mono (fun _ h => h.elim)) (Gr.refl _ _) rfl h1.live h1.vb, h2, h3⟩, h4.trans k (Gr.refl _ _), h5, h6⟩
theorem MR.lt {w wr : World} {m bc bj bm bd f n : Nat} {S : Nat → Bool} {F : Nat → Prop} (h : MR w m bc bj bm bd f n S F wr) : w.heap.size ≤ wr.heap.size := h.kp.size
theorem MR.fresh {w wr : World} {m bc bj bm bd f n : Nat} {S : Nat → Bool} {F : Nat → Prop} (h : MR w m bc bj bm bd f n S F wr) : (∀ k, F k → k < wr.heap.size) ∧ m < wr.heap.size := by
  obtain ⟨⟨C, h1, h2, h3⟩, h4, h5, h6⟩ := h
  exact ⟨h1.rep.disk.lt, lt_blk h1.blk⟩
theorem MR.turn {w wr w' : World} {m bc bj bm bd f n : Nat} {S : Nat → Bool} {F F' : Nat → Prop} {C : CSt} {i : Nat} {b : Bool} (h4 : Kp (fun _ => False) w wr) (h5 : ∀ k, F k → w.heap.size ≤ k) (h6 : n ≤ 1024)
    (h1 : MapOn wr m bc bj bm bd 0 f n C F) (h2 : ∀ j, j < n → bitC C 0 j = S j) (h3 : (∀ x ∈ C.ch, x < 1) ∧ C.most = 80) (hi : i < n) (hb : S i = !b)
    (hr : CRep w' bc bj bm bd (C.flip 0 i) F') (hk : Kp F wr w') (hg : Gr F F' wr.heap.size) : MR w m bc bj bm bd f n (upd S i b) F' w' := by
  refine ⟨⟨C.flip 0 i, h1.flip hi hr hk hg, fun j hj => ?_, fun x hx => ?_, h3.2⟩, h4.over hk h5, hg.over h5 h4.size, h6⟩
  · rw [h1.bit hi, h2 i hi, hb]
    by_cases h : j = i
    · subst h; simp
    · rw [if_neg h, upd_other _ _ h, h2 j hj]
  · rcases flip_ch x hx with h | h
    · exact h3.1 x h
    · omega

theorem mr_take {w wr : World} {m bc bj bm bd f n : Nat} {S : Nat → Bool} {F : Nat → Prop} (h : MR w m bc bj bm bd f n S F wr) (i : Nat) (hi : i < n) (h0 : S i = false) (h1 : ∀ j, j < i → S j = true) :
    Calls Tryz.prog 29 #[.pointer (some ⟨m, 0, none⟩)] wr fun e w' => e = .returned (.tuple #[.int .i64 (f + i : Nat), .nilIface]) ∧ ∃ F', MR w m bc bj bm bd f n (upd S i true) F' w' ∧ Kp F wr w' ∧ Gr F F' wr.heap.size := by
  obtain ⟨⟨C, c1, c2, c3⟩, h4, h5, h6⟩ := h
  refine (alloc_Take_ok c1 i hi (by rw [c2 i hi, h0]) (fun j hj => by rw [c2 j (by omega), h1 j hj]) (.inr (room_of c1.rep c3.1 (by omega)))).mono ?_
  rintro e w' ⟨rfl, F', hr, hk, hg⟩
  exact ⟨rfl, F', MR.turn h4 h5 h6 c1 c2 c3 hi (by rw [h0]; rfl) hr hk hg, hk, hg⟩
theorem mr_give {w wr : World} {m bc bj bm bd f n : Nat} {S : Nat → Bool} {F : Nat → Prop} (h : MR w m bc bj bm bd f n S F wr) (i : Nat) (hi : i < n) (h0 : S i = true) :
    Calls Tryz.prog 30 #[.pointer (some ⟨m, 0, none⟩), .int .i64 (f + i : Nat)] wr fun e w' => e = .returned .nilIface ∧ ∃ F', MR w m bc bj bm bd f n (upd S i false) F' w' ∧ Kp F wr w' ∧ Gr F F' wr.heap.size := by
  obtain ⟨⟨C, c1, c2, c3⟩, h4, h5, h6⟩ := h
  refine (alloc_Give_ok c1 i hi (by rw [c2 i hi, h0]) (.inr (room_of c1.rep c3.1 (by omega)))).mono ?_
  rintro e w' ⟨rfl, F', hr, hk, hg⟩
  exact ⟨rfl, F', MR.turn h4 h5 h6 c1 c2 c3 hi (by rw [h0]; rfl) hr hk hg, hk, hg⟩
theorem mr_full {w wr : World} {m bc bj bm bd f n : Nat} {S : Nat → Bool} {F : Nat → Prop} (h : MR w m bc bj bm bd f n S F wr) (h0 : ∀ j, j < n → S j = true) :
    Calls Tryz.prog 29 #[.pointer (some ⟨m, 0, none⟩)] wr fun e w' => ∃ v, e = .returned (.tuple #[.int .i64 0, v]) ∧ IsErr w' v [(tx [97, 108, 108, 111, 99], tx [])] 15 ∧ Kp (fun _ => False) wr w' := by
  obtain ⟨⟨C, c1, c2, c3⟩, h4, h5, h6⟩ := h
  exact alloc_Take_full c1 (fun j hj => by rw [c2 j hj, h0 j hj])
theorem mr_give_free {w wr : World} {m bc bj bm bd f n : Nat} {S : Nat → Bool} {F : Nat → Prop} (h : MR w m bc bj bm bd f n S F wr) (i : Nat) (hi : i < n) (h0 : S i = false) :
    Calls Tryz.prog 30 #[.pointer (some ⟨m, 0, none⟩), .int .i64 (f + i : Nat)] wr fun e w' => ∃ v, e = .returned v ∧ IsErr w' v [(tx [97, 108, 108, 111, 99], tx (Lib.itoa (f + i : Nat)))] 7 ∧ Kp (fun _ => False) wr w' := by
  obtain ⟨⟨C, c1, c2, c3⟩, h4, h5, h6⟩ := h
  exact alloc_Give_free c1 i hi (by rw [c2 i hi, h0])
theorem mr_free {w wr : World} {m bc bj bm bd f n k : Nat} {S : Nat → Bool} {F : Nat → Prop} (h : MR w m bc bj bm bd f n S F wr) (hk : k ≤ n) (h0 : ∀ j, j < n → S j = decide (j < k)) :
    Calls Tryz.prog 32 #[.pointer (some ⟨m, 0, none⟩)] wr fun e w' => e = .returned (.tuple #[.int .i64 ((n : Int) - (k : Int)), .nilIface]) ∧ Kp (fun _ => False) wr w' := by
  obtain ⟨⟨C, c1, c2, c3⟩, h4, h5, h6⟩ := h
  refine (alloc_Free_ok c1).mono ?_
  rintro e w' ⟨rfl, hk'⟩
  rw [taken_len hk (fun j hj => by rw [c2 j hj, h0 j hj])]
  exact ⟨rfl, hk'⟩
/-- A write to a block of one's own. -/
theorem MR.other {w wr w' : World} {m bc bj bm bd f n b : Nat} {S : Nat → Bool} {F : Nat → Prop} (h : MR w m bc bj bm bd f n S F wr) (k : Kp (fun i => i = b) wr w') (hb : ¬ F b) (hm : m ≠ b) (hlo : w.heap.size ≤ b) (hN : NG ≤ w.heap.size) : MR w m bc bj bm bd f n S F w' := by
  obtain ⟨⟨C, c1, h2⟩, h4, h5, h6⟩ := h
  exact ⟨⟨C, ⟨k.blk c1.blk hm, c1.out, c1.rep.kp k (fun i hi e => hb (e ▸ hi)) (fun i e => by have : i = b := e; omega), c1.live, c1.vb, c1.n1, c1.n2, c1.inb, c1.far⟩, h2⟩, h4.over k (fun i e => by have : i = b := e; omega), h5, h6⟩
/-- A map on a new cache: no block is taken. -/
theorem mr_new {w w1 w2 : World} {m bc bj bm bd f n : Nat} {F : Nat → Prop} (hr : CRep w1 bc bj bm bd (CSt.made 60) F) (hk1 : Kp (fun _ => False) w w1) (hf : ∀ k, F k → w.heap.size ≤ k) (hk2 : Kp (fun _ => False) w1 w2) (hb : MBlk w2 m bc 0 f n) (hm : w1.heap.size ≤ m) (h1 : 1 ≤ n) (h2 : n ≤ 1024) (h4 : (f : Int) + n ≤ 9223372036854775807) :
    MR w m bc bj bm bd f n (fun _ => false) F w2 :=
  ⟨⟨_, made_map hr hk2 hb hm h1 (by omega) (by unfold nb; omega) h4, fun j _ => by simp [CSt.made, new_bit], fun x hx => by simp [CSt.made, CSt.new] at hx, rfl⟩, hk1.trans hk2 (Gr.refl _ _), hf, h2⟩
end Go.Proofs.YtinaolijnjoneaaGreatDoor
