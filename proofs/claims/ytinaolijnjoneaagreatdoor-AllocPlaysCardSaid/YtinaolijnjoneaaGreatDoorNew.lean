/- A new cache; maps over a cache that goes on. -/
import Derived.Test.YtinaolijnjoneaaGreatDoorAllocG
namespace Go.Proofs.YtinaolijnjoneaaGreatDoor
open Go.RowKit
set_option maxHeartbeats 1000000
set_option maxRecDepth 20000

/-- A cache in which nothing was changed. -/
def CSt.new (D : DSt) (at_ most blocks : Nat) : CSt := { D := D, jat := at_, most := most, blocks := blocks, ch := [], cont := fun _ => [] }

theorem cache_New_ok {w : World} {bd bj at_ most : Nat} {D : DSt} {F : Nat → Prop} (h : DRep w bd D F) (hj : JBlk w bj bd at_ most) (hbj : NG ≤ bj) (n : Int) (h0 : 1 ≤ n) (h1 : n ≤ D.n) (hm : most ≤ 200) :
    Calls Tryz.prog 35 #[.pointer (some ⟨bj, 0, none⟩), .int .i64 n] w fun e w' => ∃ bc bm F', e = .returned (.tuple #[.pointer (some ⟨bc, 0, none⟩), .nilIface]) ∧ CRep w' bc bj bm bd (CSt.new D at_ most n.toNat) F' ∧ Kp (fun _ => False) w w' ∧ (∀ k, F' k → F k ∨ k = bj ∨ w.heap.size ≤ k) := by
  obtain ⟨m, rfl⟩ := Int.eq_ofNat_of_zero_le (show 0 ≤ n by omega)
  have H := Lib.hid h
  have Hj := Lib.hid hj
  have Hb := Lib.hid hbj
  have hmm := @run_makeMap Tryz.prog
  clear h hj hbj
  go_enter Tryz.func35, Tryz.ntmps35
  go_wp2
  go_ret2
  obtain ⟨X, hX⟩ : ∃ X, X = Obj.cells #[.pointer (some ⟨bj, 0, none⟩), .int .i64 (m : Int), .map (some w.heap.size)] 75 := ⟨_, rfl⟩
  obtain ⟨M, hM⟩ : ∃ M, M = Obj.map #[] 0 := ⟨_, rfl⟩
  refine ⟨w.heap.size + 1, w.heap.size, fun k => F k ∨ k = bj ∨ k = w.heap.size ∨ k = w.heap.size + 1, rfl, ?_⟩
  show CRep ((w.alloc (Obj.map #[] 0)).alloc (Obj.cells #[.pointer (some ⟨bj, 0, none⟩), .int .i64 (m : Int), .map (some w.heap.size)] 75)) _ _ _ _ _ _ ∧ Kp _ _ ((w.alloc (Obj.map #[] 0)).alloc (Obj.cells #[.pointer (some ⟨bj, 0, none⟩), .int .i64 (m : Int), .map (some w.heap.size)] 75)) ∧ _
  rw [← hX, ← hM]
  have kp : Kp (fun _ => False) w ((w.alloc M).alloc X) := ((Kp.refl _ _).alloc _).alloc _
  have e1 := new_blk w M
  have e2 := new_blk (w.alloc M) X
  have s1 := size_alloc w M
  have s2 := size_alloc (w.alloc M) X
  rw [s1] at e2 s2
  have e3 := (Kp.alloc (F := fun _ => False) (Kp.refl _ (w.alloc M)) X).blk e1 (fun h => h)
  have hjl := lt_blk Hj.out
  have hd := H.out.kp0 kp
  obtain ⟨⟨bl, rows, a1, a2, a3, a4, a5⟩, ho, hl, hf, hg, hh, hc⟩ := hd
  have hw := H.out.lt
  refine ⟨⟨by rw [e2, hX]; rfl, kp.blk Hj.out (fun h => h), ⟨#[], 0, by rw [e3, hM], Keys.nil, fun i no hi => by simp [CSt.new] at hi⟩, ⟨.inr (.inr (.inr rfl)), .inr (.inl rfl), .inr (.inr (.inl rfl))⟩, ⟨⟨bl, rows, a1, a2, a3, .inl a4, fun i hi => ?_⟩, .inl ho, ?_, hf, hg, ?_, ?_⟩, by simp [CSt.new], by simp [CSt.new], by simp [CSt.new]; omega, ⟨#[], 0, by rw [e3, hM], St.nil _⟩⟩, kp, ?_⟩
  · obtain ⟨v, hv, hr⟩ := a5 i hi
    refine ⟨v, hv, ?_⟩
    rcases hr with hz | ⟨g', c', e1, e2, e3, e4, e5, e6⟩
    · exact .inl hz
    · exact .inr ⟨g', c', e1, e2, e3, .inl e4, e5, e6⟩
  · rintro k (hk | rfl | rfl | rfl)
    · exact hl k hk
    all_goals omega
  · have := Hb.out
    have := hh _ ho
    rintro k (hk | rfl | rfl | rfl)
    · exact hh k hk
    all_goals omega
  · rintro k (hk | rfl | rfl | rfl) cs fr hcs
    · exact hc k hk cs fr hcs
    · rw [kp.blk Hj.out (fun h => h)] at hcs; simp at hcs
    · rw [e3, hM] at hcs; cases hcs
    · rw [e2, hX] at hcs; simp at hcs
  · rintro k (hk | rfl | rfl | rfl)
    · exact .inl hk
    · exact .inr (.inl rfl)
    · exact .inr (.inr (by omega))
    · exact .inr (.inr (by omega))

theorem Kp.over {F : Nat → Prop} {w w1 w2 : World} (h : Kp (fun _ => False) w w1) (k : Kp F w1 w2) (hf : ∀ i, F i → w.heap.size ≤ i) : Kp (fun _ => False) w w2 :=
  ⟨k.os.trans h.os, k.tape.trans h.tape, k.output.trans h.output, Nat.le_trans h.size k.size, fun i hi _ => (k.block i (Nat.lt_of_lt_of_le hi h.size) (fun hF => by have := hf i hF; omega)).trans (h.block i hi (fun h => h))⟩
theorem Gr.over {F F' : Nat → Prop} {n m : Nat} (h : Gr F F' n) (hf : ∀ i, F i → m ≤ i) (hm : m ≤ n) : ∀ i, F' i → m ≤ i := fun i hi => by
  rcases h i hi with h1 | h1
  · exact hf i h1
  · omega
theorem MapOn.step {w w' : World} {bx bc bj bm bd at_ from_ n : Nat} {C C' : CSt} {F F' : Nat → Prop} (h : MapOn w bx bc bj bm bd at_ from_ n C F) (hr : CRep w' bc bj bm bd C' F') (hk : Kp F w w') (hg : Gr F F' w.heap.size) (hb : C'.blocks = C.blocks) (hd : C'.D.dead = false) (hv : VB C') : MapOn w' bx bc bj bm bd at_ from_ n C' F' :=
  ⟨hk.blk h.blk h.out, hg.not h.out (lt_blk h.blk), hr, hd, hv, h.n1, h.n2, by rw [hb]; exact h.inb, h.far⟩
theorem MapOn.flip {w w' : World} {bx bc bj bm bd at_ from_ n i : Nat} {C : CSt} {F F' : Nat → Prop} (h : MapOn w bx bc bj bm bd at_ from_ n C F) (hi : i < n) (hr : CRep w' bc bj bm bd (C.flip at_ i) F') (hk : Kp F w w') (hg : Gr F F' w.heap.size) : MapOn w' bx bc bj bm bd at_ from_ n (C.flip at_ i) F' := by
  have hn : i / 1024 < nb n := by unfold nb; omega
  exact h.step hr hk hg rfl h.live (flip_byt h.vb (h.vl _ hn) (by have := h.inb; omega))
theorem MapOn.flip' {w w' : World} {bx bx' bc bj bm bd at_ at' from_ from' n n' i : Nat} {C : CSt} {F F' : Nat → Prop} (h : MapOn w bx bc bj bm bd at_ from_ n C F) (h' : MapOn w bx' bc bj bm bd at' from' n' C F) (hi : i < n) (hr : CRep w' bc bj bm bd (C.flip at_ i) F') (hk : Kp F w w') (hg : Gr F F' w.heap.size) : MapOn w' bx' bc bj bm bd at' from' n' (C.flip at_ i) F' := by
  have hn : i / 1024 < nb n := by unfold nb; omega
  exact h'.step hr hk hg rfl h.live (flip_byt h.vb (h.vl _ hn) (by have := h.inb; omega))
theorem MapOn.bit {w : World} {bx bc bj bm bd at_ from_ n i : Nat} {C : CSt} {F : Nat → Prop} (h : MapOn w bx bc bj bm bd at_ from_ n C F) (hi : i < n) (j : Nat) : bitC (C.flip at_ i) at_ j = if j = i then !(bitC C at_ i) else bitC C at_ j := by
  have hn : i / 1024 < nb n := by unfold nb; omega
  exact flip_bit (h.vl _ hn) (h.vb _ (by have := h.inb; omega))
theorem flip_far {C : CSt} {at_ at' i j : Nat} (h : at' + j / 1024 ≠ at_ + i / 1024) : bitC (C.flip at_ i) at' j = bitC C at' j := by
  unfold bitC CSt.flip
  rw [view_wr, if_neg h]
theorem flip_ch {C : CSt} {at_ i : Nat} : ∀ x, x ∈ (C.flip at_ i).ch → x ∈ C.ch ∨ x = at_ + i / 1024 := by
  intro x hx
  simp only [CSt.flip, CSt.wr] at hx
  split at hx
  · exact .inl hx
  · simpa using hx
/-- A new map over blocks of noughts. -/
theorem mapOn_new {w w' : World} {bx bc bj bm bd at_ from_ n : Nat} {C : CSt} {F : Nat → Prop} (h : CRep w bc bj bm bd C F) (hk : Kp (fun _ => False) w w') (hb : MBlk w' bx bc at_ from_ n) (hx : w.heap.size ≤ bx) (hd : C.D.dead = false) (hv : VB C) (h1 : 1 ≤ n) (h2 : n ≤ 2048) (h3 : at_ + nb n ≤ C.blocks) (h4 : (from_ : Int) + n ≤ 9223372036854775807) : MapOn w' bx bc bj bm bd at_ from_ n C F :=
  ⟨hb, fun hf => by have := h.disk.lt _ hf; omega, h.kp0 hk, hd, hv, h1, h2, h3, h4⟩
theorem new_view {n at_ most blocks : Nat} (k : Nat) : (CSt.new (DSt.new n) at_ most blocks).view k = zs 128 := rfl
theorem new_vb {n at_ most blocks : Nat} : VB (CSt.new (DSt.new n) at_ most blocks) := by
  intro no _ x hx
  rw [new_view, zs, List.mem_replicate] at hx
  omega
theorem new_bit {n at_ most blocks : Nat} (a i : Nat) : bitC (CSt.new (DSt.new n) at_ most blocks) a i = false := by
  unfold bitC bitAt
  rw [new_view]
  have e : (zs 128).getD (i % 1024 / 8) 0 = 0 := by
    rw [List.getD_eq_getElem?_getD, zs, List.getElem?_replicate]; split <;> rfl
  rw [e]
  exact zero_bit ⟨i % 1024 % 8, by omega⟩
theorem nodup_le (m : Nat) : ∀ (l : List Nat), l.Nodup → (∀ x ∈ l, x < m) → l.length ≤ m := by
  induction m with
  | zero =>
    intro l _ h
    cases l with
    | nil => simp
    | cons a l => exact absurd (h a List.mem_cons_self) (by omega)
  | succ m ih =>
    intro l hn h
    have h1 := ih (l.erase m) (hn.erase m) (fun x hx => by
      have h2 := (hn.mem_erase_iff).1 hx
      have := h x h2.2
      have := h2.1
      omega)
    rw [List.length_erase] at h1
    split at h1 <;> omega
theorem room_of {C : CSt} {w : World} {bc bj bm bd : Nat} {F : Nat → Prop} (h : CRep w bc bj bm bd C F) {m : Nat} (hm : ∀ x ∈ C.ch, x < m) (hlt : m < C.most) : C.ch.length < C.most := by
  have := nodup_le m _ h.nd hm
  omega
theorem taken_len {C : CSt} {at_ f k n : Nat} (hn : n ≤ k) (h : ∀ j, j < k → bitC C at_ j = decide (j < n)) : (taken C at_ f k).length = n := by
  have hz : ∀ m, m ≤ k → (taken C at_ f m).length = min m n := by
    intro m
    induction m with
    | zero => intro _; simp [taken]
    | succ m ih =>
      intro hm
      rw [taken_succ, List.length_append, ih (by omega), h m (by omega)]
      by_cases hlt : m < n
      · simp [hlt]; omega
      · simp [hlt]; omega
  rw [hz k (Nat.le_refl _)]; omega
end Go.Proofs.YtinaolijnjoneaaGreatDoor
