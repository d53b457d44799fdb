/- What a Flush leaves, on a disk that lives: every block reads as it was written last. -/
import Derived.Test.YtmafihodbbagbaaGreatDoorFlush
namespace Go.Proofs.YtmafihodbbagbaaGreatDoor
open Go.RowKit
set_option maxHeartbeats 1000000
set_option maxRecDepth 20000

/-- A disk without a fuse does not die. -/
theorem DSt.runs_alive : ∀ (l : List (Nat × List Int)) {D : DSt}, D.dead = false → D.fuse ≤ 0 → (D.runs l).1 = none ∧ (D.runs l).2.dead = false ∧ (D.runs l).2.fuse = D.fuse ∧ (D.runs l).2 = l.foldl (fun D x => D.wr x.1 x.2) D
  | [], _, h, _ => ⟨rfl, h, rfl, rfl⟩
  | x :: l, D, h, hf => by
    have h1 : (D.wr x.1 x.2).dead = false := by simp only [DSt.wr]; rw [if_neg (by omega)]; exact h
    have h2 : (D.wr x.1 x.2).fuse = D.fuse := by simp only [DSt.wr]; rw [if_neg (by omega)]
    rw [DSt.runs, h]
    have := DSt.runs_alive l h1 (by omega)
    rw [h2] at this
    exact this
theorem fold_not : ∀ (l : List (Nat × List Int)) (D : DSt) (k : Nat), (∀ x ∈ l, x.1 ≠ k) → (l.foldl (fun D x => D.wr x.1 x.2) D).row k = D.row k
  | [], _, _, _ => rfl
  | x :: l, D, k, h => by
    rw [List.foldl_cons, fold_not l _ k (fun y hy => h y (List.mem_cons_of_mem _ hy))]
    simp only [DSt.wr]
    rw [if_neg (fun e => h x List.mem_cons_self e.symm)]
theorem fold_mem : ∀ (l : List (Nat × List Int)) (D : DSt) (k : Nat) (ys : List Int), (l.map (·.1)).Nodup → (k, ys) ∈ l → (l.foldl (fun D x => D.wr x.1 x.2) D).row k = ys
  | [], _, _, _, _, h => by cases h
  | x :: l, D, k, ys, hn, h => by
    rw [List.foldl_cons]
    rw [List.map_cons, List.nodup_cons] at hn
    rcases List.mem_cons.1 h with e | h
    · subst e
      rw [fold_not l _ k (fun y hy e => hn.1 (List.mem_map.2 ⟨y, hy, e⟩))]
      simp [DSt.wr]
    · exact fold_mem l _ k ys hn.2 h
theorem CSt.commit_alive {C : CSt} (h : C.D.dead = false) (hf : C.D.fuse ≤ 0) : C.commit.1 = none ∧ C.commit.2.dead = false ∧ C.commit.2.fuse = C.D.fuse ∧ C.commit.2.n = C.D.n := by
  unfold CSt.commit
  split
  · exact ⟨rfl, h, rfl, rfl⟩
  · have := DSt.runs_alive (cwOf C.jat C.group) h hf
    exact ⟨this.1, this.2.1, this.2.2.1, DSt.runs_n _ _⟩
theorem CSt.flush_alive {C : CSt} (h : C.D.dead = false) (hf : C.D.fuse ≤ 0) : C.flush = { C with D := C.commit.2, ch := [] } := by
  rw [CSt.flush, if_pos (C.commit_alive h hf).1]
/-- The disk's row behind a Flush. -/
theorem CSt.flush_row {C : CSt} (h : C.D.dead = false) (hf : C.D.fuse ≤ 0) (hnd : C.ch.Nodup) (k : Nat) (hk : k < C.jat) : C.commit.2.row k = C.view k := by
  unfold CSt.commit
  split
  · rename_i hg
    have : C.ch = [] := by
      have h1 : C.chs = [] := by simpa [CSt.group] using hg
      have h2 := C.chs_perm
      rw [h1] at h2
      exact h2.symm.eq_nil
    simp [CSt.view, this]
  · have e := (DSt.runs_alive (cwOf C.jat C.group) h hf).2.2.2
    rw [e, cwOf, List.foldl_append, List.foldl_cons, List.foldl_append]
    rw [fold_not [(C.jat, zs 128)] _ k (fun x hx => by simp at hx; subst hx; simp; omega)]
    have hw : ∀ (D : DSt), ((wsOf C.jat (bodyRows C.group)).foldl (fun D x => D.wr x.1 x.2) D).row k = D.row k := fun D => fold_not _ _ k (fun x hx => by
      obtain ⟨i, _, rfl⟩ := List.mem_map.1 hx
      show C.jat + 1 + i ≠ k
      omega)
    by_cases hin : k ∈ C.ch
    · rw [fold_mem C.group _ k (C.cont k) (by rw [show C.group.map (·.1) = C.chs by rw [CSt.group, List.map_map]; exact List.map_id _]; exact C.chs_perm.nodup_iff.2 hnd) (List.mem_map.2 ⟨k, CSt.chs_mem.2 hin, rfl⟩)]
      simp [CSt.view, hin]
    · rw [fold_not C.group _ k (fun x hx => by
        obtain ⟨no, hno, rfl⟩ := List.mem_map.1 hx
        intro e
        have e : no = k := e
        exact hin (e ▸ CSt.chs_mem.1 hno))]
      have : ∀ (D : DSt) (ys : List Int), (D.wr C.jat ys).row k = D.row k := fun D ys => by simp only [DSt.wr]; rw [if_neg (by omega)]
      rw [this, hw]
      simp [CSt.view, hin]
end Go.Proofs.YtmafihodbbagbaaGreatDoor
