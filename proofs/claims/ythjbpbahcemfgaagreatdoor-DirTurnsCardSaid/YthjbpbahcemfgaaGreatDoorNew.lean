/- A new cache; maps over a cache that goes on. -/
import Derived.Test.YthjbpbahcemfgaaGreatDoorAllocG
import Derived.Test.YthjbpbahcemfgaaGreatDoorNewC
namespace Go.Proofs.YthjbpbahcemfgaaGreatDoor
open Go.RowKit
set_option maxHeartbeats 1000000
set_option maxRecDepth 20000

theorem MapOn.step {w w' : World} {bx bc bj bm bd at_ from_ n : Nat} {C C' : CSt} {F F' : Nat → Prop} (h : MapOn w bx bc bj bm bd at_ from_ n C F) (hr : CRep w' bc bj bm bd C' F') (hk : Kp F w w') (hg : Gr F F' w.heap.size) (hb : C'.blocks = C.blocks) (hd : C'.D.dead = false) (hv : VB C') : MapOn w' bx bc bj bm bd at_ from_ n C' F' :=
  ⟨hk.blk h.blk h.out, hg.not h.out (lt_blk h.blk), hr, hd, hv, h.n1, h.n2, by rw [hb]; exact h.inb, h.far⟩
theorem MapOn.flip {w w' : World} {bx bc bj bm bd at_ from_ n i : Nat} {C : CSt} {F F' : Nat → Prop} (h : MapOn w bx bc bj bm bd at_ from_ n C F) (hi : i < n) (hr : CRep w' bc bj bm bd (C.flip at_ i) F') (hk : Kp F w w') (hg : Gr F F' w.heap.size) : MapOn w' bx bc bj bm bd at_ from_ n (C.flip at_ i) F' := by
  have hn : i / 1024 < nb n := by unfold nb; omega
  exact h.step hr hk hg rfl h.live (flip_byt h.vb (h.vl _ hn) (by have := h.inb; omega))
theorem MapOn.flip' {w w' : World} {bx bx' bc bj bm bd at_ at' from_ from' n n' i : Nat} {C : CSt} {F F' : Nat → Prop} (h : MapOn w bx bc bj bm bd at_ from_ n C F) (h' : MapOn w bx' bc bj bm bd at' from' n' C F) (hi : i < n) (hr : CRep w' bc bj bm bd (C.flip at_ i) F') (hk : Kp F w w') (hg : Gr F F' w.heap.size) : MapOn w' bx' bc bj bm bd at' from' n' (C.flip at_ i) F' := by
  have hn : i / 1024 < nb n := by unfold nb; omega
  exact h'.step hr hk hg rfl h.live (flip_byt h.vb (h.vl _ hn) (by have := h.inb; omega))
theorem MapOn.bit {w : World} {bx bc bj bm bd at_ from_ n i : Nat} {C : CSt} {F : Nat → Prop} (h : MapOn w bx bc bj bm bd at_ from_ n C F) (hi : i < n) (j : Nat) : bitC (C.flip at_ i) at_ j = if j = i then !(bitC C at_ i) else bitC C at_ j := by
  have hn : i / 1024 < nb n := by unfold nb; omega
  exact flip_bit (h.vl _ hn) (h.vb _ (by have := h.inb; omega))
theorem flip_far {C : CSt} {at_ at' i j : Nat} (h : at' + j / 1024 ≠ at_ + i / 1024) : bitC (C.flip at_ i) at' j = bitC C at' j := by
  unfold bitC CSt.flip
  rw [view_wr, if_neg h]
theorem flip_ch {C : CSt} {at_ i : Nat} : ∀ x, x ∈ (C.flip at_ i).ch → x ∈ C.ch ∨ x = at_ + i / 1024 := by
  intro x hx
  simp only [CSt.flip, CSt.wr] at hx
  split at hx
  · exact .inl hx
  · simpa using hx
/-- A new map over blocks of noughts. -/
theorem mapOn_new {w w' : World} {bx bc bj bm bd at_ from_ n : Nat} {C : CSt} {F : Nat → Prop} (h : CRep w bc bj bm bd C F) (hk : Kp (fun _ => False) w w') (hb : MBlk w' bx bc at_ from_ n) (hx : w.heap.size ≤ bx) (hd : C.D.dead = false) (hv : VB C) (h1 : 1 ≤ n) (h2 : n ≤ 2048) (h3 : at_ + nb n ≤ C.blocks) (h4 : (from_ : Int) + n ≤ 9223372036854775807) : MapOn w' bx bc bj bm bd at_ from_ n C F :=
  ⟨hb, fun hf => by have := h.disk.lt _ hf; omega, h.kp0 hk, hd, hv, h1, h2, h3, h4⟩
theorem new_vb {n at_ most blocks : Nat} : VB (CSt.new (DSt.new n) at_ most blocks) := by
  intro no _ x hx
  rw [new_view, zs, List.mem_replicate] at hx
  omega
theorem new_bit {n at_ most blocks : Nat} (a i : Nat) : bitC (CSt.new (DSt.new n) at_ most blocks) a i = false := by
  unfold bitC bitAt
  rw [new_view]
  have e : (zs 128).getD (i % 1024 / 8) 0 = 0 := by
    rw [List.getD_eq_getElem?_getD, zs, List.getElem?_replicate]; split <;> rfl
  rw [e]
  exact zero_bit ⟨i % 1024 % 8, by omega⟩
theorem taken_len {C : CSt} {at_ f k n : Nat} (hn : n ≤ k) (h : ∀ j, j < k → bitC C at_ j = decide (j < n)) : (taken C at_ f k).length = n := by
  have hz : ∀ m, m ≤ k → (taken C at_ f m).length = min m n := by
    intro m
    induction m with
    | zero => intro _; simp [taken]
    | succ m ih =>
      intro hm
      rw [taken_succ, List.length_append, ih (by omega), h m (by omega)]
      by_cases hlt : m < n
      · simp [hlt]; omega
      · simp [hlt]; omega
  rw [hz k (Nat.le_refl _)]; omega
end Go.Proofs.YthjbpbahcemfgaaGreatDoor
