/- slices.Clone and slices.Clip of bytes; bytes appended to a slice of the call's own. -/
import Derived.Test.YtmafihodbbagbaaGreatDoorErr
namespace Go.Proofs.YtmafihodbbagbaaGreatDoor
open Go.RowKit
set_option maxHeartbeats 1000000
set_option maxRecDepth 20000

theorem grown_kp {F : Nat → Prop} {w w' : World} {row : Option Nat} (h : w.grownBy w' row) (hr : ∀ k, row = some k → F k ∨ w.heap.size ≤ k) : Kp F w w' :=
  ⟨h.os, h.tape, h.output, h.size, fun k hk hf => h.block k hk (fun e => by rcases hr k e.symm with h1 | h1; exact hf h1; omega)⟩

theorem Kp.grown {F : Nat → Prop} {w w1 w2 : World} {row : Option Nat} (h : Kp F w w1) (hg : w1.grownBy w2 row) (hr : ∀ k, row = some k → F k ∨ w.heap.size ≤ k) : Kp F w w2 :=
  ⟨hg.os.trans h.os, hg.tape.trans h.tape, hg.output.trans h.output, Nat.le_trans h.size hg.size, fun k hk hf => (hg.block k (Nat.lt_of_lt_of_le hk h.size) (fun e => by rcases hr k e.symm with h1 | h1; exact hf h1; omega)).trans (h.block k hk hf)⟩
theorem bs_app (xs ys : List Int) : bs (xs ++ ys) = bs xs ++ bs ys := by simp [bs]
theorem own_row {w : World} {base n : Nat} {v : Value} {xs : List Int} (h : w.ownsRow base 5 1 v n (bs xs)) (hn : 0 < n) : ∃ g c, v = .slice (some ⟨g, 0, none⟩) n c ∧ base ≤ g ∧ n ≤ c ∧ c ≤ maxLen ∧ Row w g xs ∧ n = xs.length := by
  obtain ⟨h1, ⟨_, h2⟩ | ⟨g, cap, cur, h2, h3, h4, h5, h6, h7, h8⟩⟩ := h
  · omega
  · refine ⟨g, cap, h2, h3, h5, h6, ⟨cur, cur.toList.drop (n * 1), h4, ?_⟩, by simpa using h1.symm⟩
    rw [← h8, List.take_append_drop]

/-- slices.Clone of bytes. -/
theorem clone_any (v : Value) (ys : List Int) (w : World) (hs : Sl w v ys) (hn : ys ≠ []) (hb : ys.length ≤ 140737488355328) :
    Calls Tryz.prog 31 #[v] w fun e w' => ∃ g c, e = .returned (.slice (some ⟨g, 0, none⟩) ys.length c) ∧ ys.length ≤ c ∧ c ≤ maxLen ∧ Row w' g ys ∧ w.heap.size ≤ g ∧ Kp (fun _ => False) w w' := by
  obtain ⟨A, c, rfl, h1, h2, h3⟩ := hs
  obtain ⟨ad, rfl, h4⟩ := h3 hn
  obtain ⟨i, hi, hz, hsz, hby⟩ := info_parts Tryz.infoU8
  have hpos : 0 < ys.length := List.length_pos_iff.2 hn
  have Hn := Lib.hid hn
  clear hn
  have H4 := Lib.hid h4
  clear h4 h3
  have hq := Lib.run_eql_slice_nil (P := Tryz.prog) w 29 5 (some ad) ys.length c 0 0 Tryz.underlying29
  go_enter Tryz.func31, Tryz.ntmps31
  go_wp2_with (at_builtin; refine wpList_append_grows _ rfl _ _ 29 rfl 5 i (.int .u8 0) 1 1 Tryz.underlying29 hi hz hsz hby rfl (by decide) (some ⟨w.heap.size, 0, none⟩) 0 0 [] rfl (by simp) rfl (by simp) ad ys.length c (bs ys) rfl (by simp) (fun j u hj => ((Kp.refl (fun _ => False) w).alloc _).cell (H4.out j u hj) (fun h => h)) (bs_one ys) (by omega) (by omega) (by omega) ?_; intro v' w1 hown hgr)
  go_ret
  obtain ⟨g, c', hv, hg, hc1, hc2, hrow, hlen⟩ := own_row hown (by omega)
  have hk : Kp (fun _ => False) w w1 := ((Kp.refl (fun _ => False) w).alloc _).trans (grown_kp hgr (fun k hk => by cases hk)) (Gr.refl _ _)
  rw [Nat.zero_add] at hv hc1
  exact ⟨g, c', by rw [hv]; rfl, hc1, hc2, hrow, by have := size_alloc w (.cells #[] 5); omega, hk⟩

theorem clone_n (v : Value) (n : Nat) (ys : List Int) (w : World) (hs : Sl w v ys) (hlen : ys.length = n) (hn : 0 < n) (hb : n ≤ 140737488355328) :
    Calls Tryz.prog 31 #[v] w fun e w' => ∃ g c, e = .returned (.slice (some ⟨g, 0, none⟩) n c) ∧ n ≤ c ∧ c ≤ maxLen ∧ Row w' g ys ∧ w.heap.size ≤ g ∧ Kp (fun _ => False) w w' := by
  subst hlen
  exact clone_any v ys w hs (List.length_pos_iff.1 hn) hb

/-- slices.Clip. -/
theorem clip_any (A : Option Addr) (n c : Nat) (w : World) (h : n ≤ c) (hc : c ≤ maxLen) :
    Calls Tryz.prog 32 #[.slice A n c] w fun e w' => e = .returned (.slice A n n) ∧ w = w' := by
  unfold maxLen at hc
  go_enter Tryz.func32, Tryz.ntmps32
  go_wp2
  all_goals (go_ret; exact ⟨by simp, rfl⟩)
end Go.Proofs.YtmafihodbbagbaaGreatDoor
