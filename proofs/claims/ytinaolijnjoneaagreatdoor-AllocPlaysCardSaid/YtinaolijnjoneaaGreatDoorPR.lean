/- One map on a new cache, with Flush and Drop: what is taken, and what would be behind a Drop. -/
import Derived.Test.YtinaolijnjoneaaGreatDoorAllocO
import Derived.Test.YtinaolijnjoneaaGreatDoorOne
import Derived.Test.YtinaolijnjoneaaGreatDoorFlushV
namespace Go.Proofs.YtinaolijnjoneaaGreatDoor
open Go.RowKit
set_option maxHeartbeats 1000000
set_option maxRecDepth 20000

/-- S: what is taken; L: what was at the last Flush. -/
structure PR (w : World) (m bc bj bm bd n : Nat) (S L : Nat → Bool) (F : Nat → Prop) (wr : World) : Prop where
  ex : ∃ C, MapOn wr m bc bj bm bd 2 15 n C F ∧ (∀ j, j < n → bitC C 2 j = S j) ∧ (∀ j, j < n → bitC C.drop 2 j = L j) ∧ VB C.drop ∧ (∀ x ∈ C.ch, x < 3) ∧ C.most = 80 ∧ C.jat = 60 ∧ C.blocks = 60 ∧ C.D.n = 160 ∧ C.D.fuse = -1
  kp : Kp (fun _ => False) w wr
  hi : ∀ k, F k → w.heap.size ≤ k
  few : n ≤ 40
theorem PR.kp0 {w wr w' : World} {m bc bj bm bd n : Nat} {S L : Nat → Bool} {F : Nat → Prop} (h : PR w m bc bj bm bd n S L F wr) (k : Kp (fun _ => False) wr w') : PR w m bc bj bm bd n S L F w' := by
  obtain ⟨⟨C, h1, h2⟩, h4, h5, h6⟩ := h
  exact ⟨⟨C, h1.step (h1.rep.kp0 k) (k.mono (fun _ h => h.elim)) (Gr.refl _ _) rfl h1.live h1.vb, h2⟩, h4.trans k (Gr.refl _ _), h5, h6⟩
theorem PR.ext {w wr : World} {m bc bj bm bd n : Nat} {S S' L L' : Nat → Bool} {F : Nat → Prop} (h : PR w m bc bj bm bd n S L F wr) (e : ∀ j, j < n → S j = S' j) (e' : ∀ j, j < n → L j = L' j) : PR w m bc bj bm bd n S' L' F wr := by
  obtain ⟨⟨C, h1, h2, h3, h8⟩, h4, h5, h6⟩ := h
  exact ⟨⟨C, h1, fun j hj => (h2 j hj).trans (e j hj), fun j hj => (h3 j hj).trans (e' j hj), h8⟩, h4, h5, h6⟩
theorem PR.fresh {w wr : World} {m bc bj bm bd n : Nat} {S L : Nat → Bool} {F : Nat → Prop} (h : PR w m bc bj bm bd n S L F wr) : (∀ k, F k → k < wr.heap.size) ∧ m < wr.heap.size := by
  obtain ⟨⟨C, h1, _⟩, _⟩ := h
  exact ⟨h1.rep.disk.lt, lt_blk h1.blk⟩
theorem PR.other {w wr w' : World} {m bc bj bm bd n b : Nat} {S L : Nat → Bool} {F : Nat → Prop} (h : PR w m bc bj bm bd n S L F wr) (k : Kp (fun i => i = b) wr w') (hb : ¬ F b) (hm : m ≠ b) (hlo : w.heap.size ≤ b) (hN : NG ≤ w.heap.size) : PR w m bc bj bm bd n S L F w' := by
  obtain ⟨⟨C, c1, h2⟩, h4, h5, h6⟩ := h
  exact ⟨⟨C, ⟨k.blk c1.blk hm, c1.out, c1.rep.kp k (fun i hi e => hb (e ▸ hi)) (fun i e => by have : i = b := e; omega), c1.live, c1.vb, c1.n1, c1.n2, c1.inb, c1.far⟩, h2⟩, h4.over k (fun i e => by have : i = b := e; omega), h5, h6⟩
theorem drop_bit {C C' : CSt} (h : C'.D = C.D) (j : Nat) : bitC C'.drop 2 j = bitC C.drop 2 j := by
  unfold bitC CSt.view CSt.drop
  simp [h]
theorem drop_vb {C C' : CSt} (h : C'.D = C.D) (hb : C'.blocks = C.blocks) (hv : VB C.drop) : VB C'.drop := by
  intro no hno
  have := hv no (by show no < C.blocks; rw [← hb]; exact hno)
  unfold CSt.view CSt.drop at *
  simpa [h] using this
theorem PR.turn {w wr w' : World} {m bc bj bm bd n : Nat} {S L : Nat → Bool} {F F' : Nat → Prop} {C : CSt} {i : Nat} {b : Bool} (h4 : Kp (fun _ => False) w wr) (h5 : ∀ k, F k → w.heap.size ≤ k) (h6 : n ≤ 40)
    (h1 : MapOn wr m bc bj bm bd 2 15 n C F) (h2 : ∀ j, j < n → bitC C 2 j = S j) (h3 : (∀ j, j < n → bitC C.drop 2 j = L j) ∧ VB C.drop ∧ (∀ x ∈ C.ch, x < 3) ∧ C.most = 80 ∧ C.jat = 60 ∧ C.blocks = 60 ∧ C.D.n = 160 ∧ C.D.fuse = -1) (hi : i < n) (hb : S i = !b)
    (hr : CRep w' bc bj bm bd (C.flip 2 i) F') (hk : Kp F wr w') (hg : Gr F F' wr.heap.size) : PR w m bc bj bm bd n (upd S i b) L F' w' := by
  refine ⟨⟨C.flip 2 i, h1.flip hi hr hk hg, fun j hj => ?_, fun j hj => (drop_bit rfl j).trans (h3.1 j hj), drop_vb rfl rfl h3.2.1, fun x hx => ?_, h3.2.2.2⟩, h4.over hk h5, hg.over h5 h4.size, h6⟩
  · rw [h1.bit hi, h2 i hi, hb]
    by_cases h : j = i
    · subst h; simp
    · rw [if_neg h, upd_other _ _ h, h2 j hj]
  · rcases flip_ch x hx with h | h
    · exact h3.2.2.1 x h
    · omega
theorem pr_take {w wr : World} {m bc bj bm bd n : Nat} {S L : Nat → Bool} {F : Nat → Prop} (h : PR w m bc bj bm bd n S L F wr) (i : Nat) (hi : i < n) (h0 : S i = false) (h1 : ∀ j, j < i → S j = true) :
    Calls Tryz.prog 29 #[.pointer (some ⟨m, 0, none⟩)] wr fun e w' => e = .returned (.tuple #[.int .i64 (15 + i : Nat), .nilIface]) ∧ ∃ F', PR w m bc bj bm bd n (upd S i true) L F' w' ∧ Kp F wr w' ∧ Gr F F' wr.heap.size := by
  obtain ⟨⟨C, c1, c2, c3⟩, h4, h5, h6⟩ := h
  refine (alloc_Take_ok c1 i hi (by rw [c2 i hi, h0]) (fun j hj => by rw [c2 j (by omega), h1 j hj]) (.inr (room_of c1.rep (m := 3) c3.2.2.1 (by rw [c3.2.2.2.1]; omega)))).mono ?_
  rintro e w' ⟨rfl, F', hr, hk, hg⟩
  exact ⟨rfl, F', PR.turn h4 h5 h6 c1 c2 c3 hi (by rw [h0]; rfl) hr hk hg, hk, hg⟩
theorem pr_give {w wr : World} {m bc bj bm bd n : Nat} {S L : Nat → Bool} {F : Nat → Prop} (h : PR w m bc bj bm bd n S L F wr) (i : Nat) (hi : i < n) (h0 : S i = true) :
    Calls Tryz.prog 30 #[.pointer (some ⟨m, 0, none⟩), .int .i64 (15 + i : Nat)] wr fun e w' => e = .returned .nilIface ∧ ∃ F', PR w m bc bj bm bd n (upd S i false) L F' w' ∧ Kp F wr w' ∧ Gr F F' wr.heap.size := by
  obtain ⟨⟨C, c1, c2, c3⟩, h4, h5, h6⟩ := h
  refine (alloc_Give_ok c1 i hi (by rw [c2 i hi, h0]) (.inr (room_of c1.rep (m := 3) c3.2.2.1 (by rw [c3.2.2.2.1]; omega)))).mono ?_
  rintro e w' ⟨rfl, F', hr, hk, hg⟩
  exact ⟨rfl, F', PR.turn h4 h5 h6 c1 c2 c3 hi (by rw [h0]; rfl) hr hk hg, hk, hg⟩
theorem pr_full {w wr : World} {m bc bj bm bd n : Nat} {S L : Nat → Bool} {F : Nat → Prop} (h : PR w m bc bj bm bd n S L F wr) (h0 : ∀ j, j < n → S j = true) :
    Calls Tryz.prog 29 #[.pointer (some ⟨m, 0, none⟩)] wr fun e w' => ∃ v, e = .returned (.tuple #[.int .i64 0, v]) ∧ IsErr w' v [(tx [97, 108, 108, 111, 99], tx [])] 15 ∧ Kp (fun _ => False) wr w' := by
  obtain ⟨⟨C, c1, c2, c3⟩, h4, h5, h6⟩ := h
  exact alloc_Take_full c1 (fun j hj => by rw [c2 j hj, h0 j hj])
theorem pr_give_free {w wr : World} {m bc bj bm bd n : Nat} {S L : Nat → Bool} {F : Nat → Prop} (h : PR w m bc bj bm bd n S L F wr) (i : Nat) (hi : i < n) (h0 : S i = false) :
    Calls Tryz.prog 30 #[.pointer (some ⟨m, 0, none⟩), .int .i64 (15 + i : Nat)] wr fun e w' => ∃ v, e = .returned v ∧ IsErr w' v [(tx [97, 108, 108, 111, 99], tx (Lib.itoa (15 + i : Nat)))] 7 ∧ Kp (fun _ => False) wr w' := by
  obtain ⟨⟨C, c1, c2, c3⟩, h4, h5, h6⟩ := h
  exact alloc_Give_free c1 i hi (by rw [c2 i hi, h0])
theorem pr_give_out {w wr : World} {m bc bj bm bd n : Nat} {S L : Nat → Bool} {F : Nat → Prop} (h : PR w m bc bj bm bd n S L F wr) (no : Int) (h1 : no < 15 ∨ (15 : Int) + n ≤ no) (h0 : -9223372036854775808 ≤ no) (h9 : no ≤ 9223372036854775807) :
    Calls Tryz.prog 30 #[.pointer (some ⟨m, 0, none⟩), .int .i64 no] wr fun e w' => ∃ v, e = .returned v ∧ IsErr w' v [(tx [97, 108, 108, 111, 99], tx (Lib.itoa no))] 1 ∧ Kp (fun _ => False) wr w' := by
  obtain ⟨⟨C, c1, c2, c3⟩, h4, h5, h6⟩ := h
  exact alloc_Give_out c1 no h1 h0 h9
theorem pr_taken_out {w wr : World} {m bc bj bm bd n : Nat} {S L : Nat → Bool} {F : Nat → Prop} (h : PR w m bc bj bm bd n S L F wr) (no : Int) (h1 : no < 15 ∨ (15 : Int) + n ≤ no) (h0 : -9223372036854775808 ≤ no) (h9 : no ≤ 9223372036854775807) :
    Calls Tryz.prog 31 #[.pointer (some ⟨m, 0, none⟩), .int .i64 no] wr fun e w' => ∃ v, e = .returned (.tuple #[.bool false, v]) ∧ IsErr w' v [(tx [97, 108, 108, 111, 99], tx (Lib.itoa no))] 1 ∧ Kp (fun _ => False) wr w' := by
  obtain ⟨⟨C, c1, c2, c3⟩, h4, h5, h6⟩ := h
  exact alloc_Taken_out c1 no h1 h0 h9
theorem pr_taken {w wr : World} {m bc bj bm bd n : Nat} {S L : Nat → Bool} {F : Nat → Prop} (h : PR w m bc bj bm bd n S L F wr) (i : Nat) (hi : i < n) :
    Calls Tryz.prog 31 #[.pointer (some ⟨m, 0, none⟩), .int .i64 (15 + i : Nat)] wr fun e w' => e = .returned (.tuple #[.bool (S i), .nilIface]) ∧ Kp (fun _ => False) wr w' := by
  obtain ⟨⟨C, c1, c2, c3⟩, h4, h5, h6⟩ := h
  have := alloc_Taken_ok c1 i hi
  rw [c2 i hi] at this
  exact this
/-- Those that are taken, of the first k. -/
def allL (S : Nat → Bool) (k : Nat) : List Int := ((List.range k).filter S).map fun i => ((15 + i : Nat) : Int)
theorem allL_succ (S : Nat → Bool) (k : Nat) : allL S (k + 1) = allL S k ++ if S k then [((15 + k : Nat) : Int)] else [] := by
  unfold allL
  rw [List.range_succ, List.filter_append, List.map_append]
  by_cases h : S k <;> simp [h]
theorem allL_le (S : Nat → Bool) (k : Nat) : (allL S k).length ≤ k := by
  unfold allL
  rw [List.length_map]
  have := List.length_filter_le S (List.range k)
  simpa using this
theorem taken_all {C : CSt} {S : Nat → Bool} {n : Nat} (h : ∀ j, j < n → bitC C 2 j = S j) : taken C 2 15 n = allL S n := by
  unfold taken allL
  congr 1
  exact List.filter_congr fun j hj => h j (List.mem_range.1 hj)
theorem pr_free {w wr : World} {m bc bj bm bd n : Nat} {S L : Nat → Bool} {F : Nat → Prop} (h : PR w m bc bj bm bd n S L F wr) :
    Calls Tryz.prog 32 #[.pointer (some ⟨m, 0, none⟩)] wr fun e w' => e = .returned (.tuple #[.int .i64 ((n : Int) - ((allL S n).length : Int)), .nilIface]) ∧ Kp (fun _ => False) wr w' := by
  obtain ⟨⟨C, c1, c2, c3⟩, h4, h5, h6⟩ := h
  have := alloc_Free_ok c1
  rw [taken_all c2] at this
  exact this
theorem pr_all {w wr : World} {m bc bj bm bd n : Nat} {S L : Nat → Bool} {F : Nat → Prop} (h : PR w m bc bj bm bd n S L F wr) :
    Calls Tryz.prog 33 #[.pointer (some ⟨m, 0, none⟩)] wr fun e w' => ∃ v, e = .returned (.tuple #[v, .nilIface]) ∧ SlI w' v (allL S n) ∧ Kp (fun _ => False) wr w' := by
  obtain ⟨⟨C, c1, c2, c3⟩, h4, h5, h6⟩ := h
  refine (alloc_All_ok c1).mono ?_
  rintro e w' ⟨v, rfl, hs, hk, _⟩
  rw [taken_all c2] at hs
  exact ⟨v, rfl, hs, hk⟩
theorem pr_flush {w wr : World} {m bc bj bm bd n : Nat} {S L : Nat → Bool} {F : Nat → Prop} (h : PR w m bc bj bm bd n S L F wr) :
    Calls Tryz.prog 16 #[.pointer (some ⟨bc, 0, none⟩)] wr fun e w' => e = .returned .nilIface ∧ ∃ F', PR w m bc bj bm bd n S S F' w' ∧ Kp F wr w' ∧ Gr F F' wr.heap.size := by
  obtain ⟨⟨C, c1, c2, c3, c4, c5, c6, c7, c8, c9, c10⟩, h4, h5, h6⟩ := h
  have hz : C.D.Fz := by unfold DSt.Fz; rw [c10]; omega
  have hf : C.D.fuse ≤ 0 := by rw [c10]; omega
  have hca := C.commit_alive c1.live hf
  have hfa := C.flush_alive c1.live hf
  have hrow : ∀ k, k < 60 → C.commit.2.row k = C.view k := fun k hk => C.flush_row c1.live hf c1.rep.nd k (by rw [c7]; exact hk)
  have hview : ∀ k, k < 60 → C.flush.view k = C.view k := fun k hk => by rw [hfa]; simp [CSt.view, hrow k hk]
  have hdview : ∀ k, k < 60 → C.flush.drop.view k = C.view k := fun k hk => by rw [hfa]; simp [CSt.view, CSt.drop, hrow k hk]
  have hblk : C.flush.blocks = C.blocks := by rw [hfa]
  refine (cache_Flush c1.rep hz (by rw [c7, c8]; omega) (by rw [c7, c6, c9]; decide)).mono ?_
  rintro e w' ⟨u, rfl, hu, F', hr, hk, hg⟩
  rw [hca.1] at hu
  have hu' : u = .nilIface := hu
  subst hu'
  refine ⟨rfl, F', ⟨⟨C.flush, c1.step hr hk hg hblk (by rw [hfa]; exact hca.2.1) (fun no hno => ?_), fun j hj => ?_, fun j hj => ?_, fun no hno => ?_, fun x hx => ?_, by rw [hfa]; exact c6, by rw [hfa]; exact c7, by rw [hfa]; exact c8, by rw [hfa]; exact hca.2.2.2.trans c9, by rw [hfa]; exact hca.2.2.1.trans c10⟩, h4.over hk h5, hg.over h5 h4.size, h6⟩, hk, hg⟩
  · rw [hview no (by rw [hblk, c8] at hno; exact hno)]
    exact c1.vb no (by rw [hblk] at hno; exact hno)
  · rw [← c2 j hj]; unfold bitC; rw [hview _ (by omega)]
  · rw [← c2 j hj]; unfold bitC; rw [hdview _ (by omega)]
  · have hno' : no < C.blocks := by rw [← hblk]; exact hno
    rw [hdview no (by rw [c8] at hno'; exact hno')]
    exact c1.vb no hno'
  · rw [hfa] at hx; cases hx
theorem pr_drop {w wr : World} {m bc bj bm bd n : Nat} {S L : Nat → Bool} {F : Nat → Prop} (h : PR w m bc bj bm bd n S L F wr) :
    Calls Tryz.prog 13 #[.pointer (some ⟨bc, 0, none⟩)] wr fun e w' => e = .returned (.tuple #[]) ∧ PR w m bc bj bm bd n L L F w' ∧ Kp F wr w' := by
  obtain ⟨⟨C, c1, c2, c3, c4, c5, c6⟩, h4, h5, h6⟩ := h
  refine (cache_Drop_ok c1.rep).mono ?_
  rintro e w' ⟨rfl, hr, hk⟩
  exact ⟨rfl, ⟨⟨C.drop, c1.step hr hk (Gr.refl _ _) rfl c1.live c4, c3, fun j hj => (drop_bit rfl j).trans (c3 j hj), drop_vb rfl rfl c4, (fun x hx => by cases hx), c6⟩, h4.over hk h5, h5, h6⟩, hk⟩
theorem pr_new {w w1 w2 : World} {m bc bj bm bd n : Nat} {F : Nat → Prop} (hr : CRep w1 bc bj bm bd (CSt.made 60) F) (hk1 : Kp (fun _ => False) w w1) (hf : ∀ k, F k → w.heap.size ≤ k) (hk2 : Kp (fun _ => False) w1 w2) (hb : MBlk w2 m bc 2 15 n) (hm : w1.heap.size ≤ m) (h1 : 1 ≤ n) (h2 : n ≤ 40) :
    PR w m bc bj bm bd n (fun _ => false) (fun _ => false) F w2 :=
  ⟨⟨_, made_map hr hk2 hb hm h1 (by omega) (by unfold nb; omega) (by omega), fun j _ => by simp [CSt.made, new_bit], fun j _ => by simp [CSt.made, drop_bit (C := CSt.new (DSt.new (60 + 100)) 60 80 60) rfl]; exact new_bit _ _, fun no hno => new_vb no hno, fun x hx => by simp [CSt.made, CSt.new] at hx, rfl, rfl, rfl, rfl, rfl⟩, hk1.trans hk2 (Gr.refl _ _), hf, h2⟩
end Go.Proofs.YtinaolijnjoneaaGreatDoor
