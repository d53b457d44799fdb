/- What AllocPlays holds between two steps of its script: the map, and two rows of bools. -/
import Derived.Test.YtinaolijnjoneaaGreatDoorPR
import Derived.Test.YtinaolijnjoneaaGreatDoorArrN
namespace Go.Proofs.YtinaolijnjoneaaGreatDoor
open Go.RowKit
set_option maxHeartbeats 1000000
set_option maxRecDepth 20000

/-- The map has S taken, L at the last Flush; the rows at b1, b2 hold A and B. -/
structure X7 (w : World) (m bc bj bm bd n b1 b2 : Nat) (S L A B : Nat → Bool) (F : Nat → Prop) (W : World) : Prop where
  pr : PR w m bc bj bm bd n S L F W
  f1 : ¬ F b1
  f2 : ¬ F b2
  r1 : W.heap[b1]? = some (.cells (arrN n A) 4 (0, 0))
  r2 : W.heap[b2]? = some (.cells (arrN n B) 4 (0, 0))
  m1 : m ≠ b1
  m2 : m ≠ b2
  ne : b1 ≠ b2
  l1 : w.heap.size ≤ b1
  l2 : w.heap.size ≤ b2
  ng : NG ≤ w.heap.size
variable {w W W' : World} {m bc bj bm bd n b1 b2 : Nat} {S L A B : Nat → Bool} {F F' : Nat → Prop}
theorem X7.kp0 (h : X7 w m bc bj bm bd n b1 b2 S L A B F W) (k : Kp (fun _ => False) W W') : X7 w m bc bj bm bd n b1 b2 S L A B F W' :=
  ⟨h.pr.kp0 k, h.f1, h.f2, k.blk h.r1 (fun h => h), k.blk h.r2 (fun h => h), h.m1, h.m2, h.ne, h.l1, h.l2, h.ng⟩
theorem X7.turn {S' L' : Nat → Bool} (h : X7 w m bc bj bm bd n b1 b2 S L A B F W) (hM : PR w m bc bj bm bd n S' L' F' W') (k : Kp F W W') (g : Gr F F' W.heap.size) : X7 w m bc bj bm bd n b1 b2 S' L' A B F' W' :=
  ⟨hM, g.not h.f1 (lt_blk h.r1), g.not h.f2 (lt_blk h.r2), k.blk h.r1 h.f1, k.blk h.r2 h.f2, h.m1, h.m2, h.ne, h.l1, h.l2, h.ng⟩
theorem X7.set1 {A' : Nat → Bool} (h : X7 w m bc bj bm bd n b1 b2 S L A B F W) (k : Kp (fun i => i = b1) W W') (hr : W'.heap[b1]? = some (.cells (arrN n A') 4 (0, 0))) : X7 w m bc bj bm bd n b1 b2 S L A' B F W' :=
  ⟨h.pr.other k h.f1 h.m1 h.l1 h.ng, h.f1, h.f2, hr, k.blk h.r2 (fun e => h.ne e.symm), h.m1, h.m2, h.ne, h.l1, h.l2, h.ng⟩
theorem X7.set2 {B' : Nat → Bool} (h : X7 w m bc bj bm bd n b1 b2 S L A B F W) (k : Kp (fun i => i = b2) W W') (hr : W'.heap[b2]? = some (.cells (arrN n B') 4 (0, 0))) : X7 w m bc bj bm bd n b1 b2 S L A B' F W' :=
  ⟨h.pr.other k h.f2 h.m2 h.l2 h.ng, h.f1, h.f2, k.blk h.r1 h.ne, hr, h.m1, h.m2, h.ne, h.l1, h.l2, h.ng⟩
theorem X7.store {i : Nat} {b : Bool} (h : X7 w m bc bj bm bd n b1 b2 S L A B F W) : X7 w m bc bj bm bd n b1 b2 S L (upd A i b) B F (W.setCell ⟨b1, i, none⟩ (.bool b)) :=
  h.set1 (Kp.setCell (F := fun k => k = b1) (p := ⟨b1, i, none⟩) (Kp.refl _ _) (.inl rfl) _) (by rw [set_blk h.r1, arrN_set])
theorem X7.cell1 {i : Nat} (h : X7 w m bc bj bm bd n b1 b2 S L A B F W) (hi : i < n) : W.cell? ⟨b1, i, none⟩ = some (.bool (A i)) := by
  rw [cell_blk h.r1, arrN_get _ _ _ hi]
theorem X7.froz1 (i : Nat) (h : X7 w m bc bj bm bd n b1 b2 S L A B F W) : W.frozen? ⟨b1, i, none⟩ = false := frozen_blk h.r1 i

theorem x7_take (h : X7 w m bc bj bm bd n b1 b2 S L S L F W) (i : Nat) (hi : i < n) (h0 : S i = false) (h1 : ∀ j, j < i → S j = true) :
    Calls Tryz.prog 29 #[.pointer (some ⟨m, 0, none⟩)] W fun e w' => e = .returned (.tuple #[.int .i64 (15 + (i : Int)), .nilIface]) ∧ ∃ F', X7 w m bc bj bm bd n b1 b2 (upd S i true) L S L F' w' ∧ Kp F W w' := by
  refine (pr_take h.pr i hi h0 h1).mono ?_
  rintro e w' ⟨rfl, F', hM, hk, hg⟩
  exact ⟨by simp, F', h.turn hM hk hg, hk⟩
theorem x7_give (h : X7 w m bc bj bm bd n b1 b2 S L S L F W) (i : Nat) (hi : i < n) (h0 : S i = true) :
    Calls Tryz.prog 30 #[.pointer (some ⟨m, 0, none⟩), .int .i64 (15 + (i : Int))] W fun e w' => e = .returned .nilIface ∧ ∃ F', X7 w m bc bj bm bd n b1 b2 (upd S i false) L S L F' w' ∧ Kp F W w' := by
  have := pr_give h.pr i hi h0
  simp only [Int.natCast_add, Int.cast_ofNat_Int] at this
  refine this.mono ?_
  rintro e w' ⟨rfl, F', hM, hk, hg⟩
  exact ⟨rfl, F', h.turn hM hk hg, hk⟩
theorem x7_flush (h : X7 w m bc bj bm bd n b1 b2 S L S L F W) :
    Calls Tryz.prog 16 #[.pointer (some ⟨bc, 0, none⟩)] W fun e w' => e = .returned .nilIface ∧ ∃ F', X7 w m bc bj bm bd n b1 b2 S S S L F' w' := by
  refine (pr_flush h.pr).mono ?_
  rintro e w' ⟨rfl, F', hM, hk, hg⟩
  exact ⟨rfl, F', h.turn hM hk hg⟩
theorem x7_drop (h : X7 w m bc bj bm bd n b1 b2 S L S L F W) :
    Calls Tryz.prog 13 #[.pointer (some ⟨bc, 0, none⟩)] W fun e w' => e = .returned (.tuple #[]) ∧ X7 w m bc bj bm bd n b1 b2 L L S L F w' := by
  refine (pr_drop h.pr).mono ?_
  rintro e w' ⟨rfl, hM, hk⟩
  exact ⟨rfl, h.turn hM hk (Gr.refl _ _)⟩
theorem x7_full (h : X7 w m bc bj bm bd n b1 b2 S L S L F W) (h0 : ∀ j, j < n → S j = true) :
    Calls Tryz.prog 29 #[.pointer (some ⟨m, 0, none⟩)] W fun e w' => ∃ v, e = .returned (.tuple #[.int .i64 0, v]) ∧ IsErr w' v [(tx [97, 108, 108, 111, 99], tx [])] 15 ∧ X7 w m bc bj bm bd n b1 b2 S L S L F w' := by
  refine (pr_full h.pr h0).mono ?_
  rintro e w' ⟨v, rfl, hv, hk⟩
  exact ⟨v, rfl, hv, h.kp0 hk⟩
/-- What is refused. want: 1 or 7. -/
theorem x7_give_no (h : X7 w m bc bj bm bd n b1 b2 S L S L F W) (no : Int) (want : Int) (hw : (want = 1 ∧ (no < 15 ∨ (15 : Int) + n ≤ no)) ∨ (want = 7 ∧ ∃ i : Nat, no = 15 + (i : Int) ∧ i < n ∧ S i = false)) (h0 : -9223372036854775808 ≤ no) (h9 : no ≤ 9223372036854775807) :
    Calls Tryz.prog 30 #[.pointer (some ⟨m, 0, none⟩), .int .i64 no] W fun e w' => ∃ v, e = .returned v ∧ IsErr w' v [(tx [97, 108, 108, 111, 99], tx (Lib.itoa no))] want ∧ Kp (fun _ => False) W w' := by
  rcases hw with ⟨rfl, hw⟩ | ⟨rfl, i, rfl, hi, hs⟩
  · exact pr_give_out h.pr no hw h0 h9
  · have := pr_give_free h.pr i hi hs
    simp only [Int.natCast_add, Int.cast_ofNat_Int] at this
    exact this
theorem x7_taken (h : X7 w m bc bj bm bd n b1 b2 S L S L F W) (i : Nat) (hi : i < n) :
    Calls Tryz.prog 31 #[.pointer (some ⟨m, 0, none⟩), .int .i64 (15 + (i : Int))] W fun e w' => e = .returned (.tuple #[.bool (S i), .nilIface]) ∧ Kp (fun _ => False) W w' := by
  have := pr_taken h.pr i hi
  simp only [Int.natCast_add, Int.cast_ofNat_Int] at this
  exact this
theorem allL_step (S : Nat → Bool) (k : Nat) : allL S (k + 1) = allL S k ++ if S k then [15 + (k : Int)] else [] := by
  rw [allL_succ]; simp
end Go.Proofs.YtinaolijnjoneaaGreatDoor
