/- The journal's numbers as bytes; the sum of bytes; its head. -/
import Derived.Test.YtdmmlkkemceifaaGreatDoorOpen
import Derived.Test.YtdmmlkkemceifaaGreatDoorFillP
namespace Go.Proofs.YtdmmlkkemceifaaGreatDoor
open Go.RowKit
set_option maxHeartbeats 1000000
set_option maxRecDepth 20000

/-- A number's eight bytes. -/
def le8 (n : Int) : List Int := (List.range 8).map fun i => n / 2 ^ (8 * i) % 256
theorem le8_len (n : Int) : (le8 n).length = 8 := by simp [le8]
theorem le8_get (n : Int) (i : Nat) (h : i < 8) : (le8 n)[i]? = some (n / 2 ^ (8 * i) % 256) := by simp [le8, h]
theorem le8_byte (n : Int) : ∀ x ∈ le8 n, 0 ≤ x ∧ x ≤ 255 := by
  intro x hx
  obtain ⟨i, _, rfl⟩ := List.mem_map.1 hx
  omega
theorem splice_getQ {α : Type} (xs ys : List α) (off k : Nat) (h : off + ys.length ≤ xs.length) : (splice xs off ys)[k]? = if off ≤ k ∧ k < off + ys.length then ys[k - off]? else xs[k]? := by
  unfold splice
  by_cases h1 : k < off
  · rw [List.getElem?_append_left (by rw [List.length_take]; omega), List.getElem?_take, if_pos h1, if_neg (by omega)]
  · rw [List.getElem?_append_right (by rw [List.length_take]; omega), List.length_take, Nat.min_eq_left (by omega)]
    by_cases h2 : k < off + ys.length
    · rw [if_pos ⟨by omega, h2⟩, List.getElem?_append_left (by omega)]
    · rw [if_neg (by omega), List.getElem?_append_right (by omega), List.getElem?_drop]
      congr 1
      omega
theorem splice_set {α : Type} (xs ys : List α) (off i : Nat) (y : α) (hy : ys[i]? = some y) (h : off + ys.length ≤ xs.length) : (splice xs off (ys.take i)).set (off + i) y = splice xs off (ys.take (i + 1)) := by
  have hi := (List.getElem?_eq_some_iff.1 hy).1
  have l1 : (ys.take i).length = i := by rw [List.length_take]; omega
  have l2 : (ys.take (i + 1)).length = i + 1 := by rw [List.length_take]; omega
  apply List.ext_getElem?
  intro k
  rw [List.getElem?_set, splice_getQ _ _ _ _ (by omega), splice_getQ _ _ _ _ (by omega), l1, l2, length_splice _ _ _ (by omega)]
  by_cases e : off + i = k
  · subst e
    rw [if_pos rfl, if_pos (by omega), if_pos (by omega), List.getElem?_take, if_pos (by omega), show off + i - off = i by omega, hy]
  · rw [if_neg e, List.getElem?_take, List.getElem?_take]
    by_cases h2 : off ≤ k ∧ k < off + i
    · rw [if_pos h2, if_pos (by omega), if_pos (by omega), if_pos (by omega)]
    · rw [if_neg h2, if_neg (by omega)]

theorem journal_put {w : World} {g off len c : Nat} {xs : List Int} (h : RowE w g xs) (hl : 8 ≤ len) (hx : off + 8 ≤ xs.length) (n : Int) (_h0 : 0 ≤ n) (_h1 : n < 18446744073709551616) :
    Calls Tryz.prog 105 #[.slice (some ⟨g, off, none⟩) len c, .int .u64 n] w fun e w' => e = .returned (.tuple #[]) ∧ RowE w' g (splice xs off (le8 n)) ∧ Kp (fun k => k = g) w w' := by
  have H := Lib.hid h
  clear h
  go_enter Tryz.func105, Tryz.ntmps105
  go_wp2
  go_loopw [5] (fun x wr => ∃ i : Nat, x = .int .i64 (i : Nat) ∧ i ≤ 8 ∧ RowE wr g (splice xs off ((le8 n).take i)) ∧ Kp (fun k => k = g) w wr) (fun x _ => 8 - (intOf x).toNat)
  case atStart => exact ⟨0, rfl, by omega, by have := H.out; simpa [splice] using this, Kp.refl _ _⟩
  case round =>
    obtain ⟨i, rfl, hi, hr, hk⟩ := hrel
    have Hr := Lib.hid hr
    have Hk := Lib.hid hk
    by_cases hlt : i < 8
    · have hz : (i : Int) < 8 := by omega
      have hz0 : (0 : Int) ≤ (i : Int) := by omega
      have hz1 : (i : Int) < (len : Int) := by omega
      have hg := splice_getQ xs ((le8 n).take i) off (off + i) (by rw [List.length_take, le8_len]; omega)
      rw [if_neg (by rw [List.length_take, le8_len]; omega)] at hg
      obtain ⟨y, hy⟩ : ∃ y, xs[off + i]? = some y := ⟨_, List.getElem?_eq_getElem (by omega)⟩
      rw [hy] at hg
      have c1 := hr.cell hg
      have f1 := frozen_blk hr (off + i)
      have Hx := Lib.hid hx
      clear hr hk hg hy hx
      go_wp2
      go_roundw
      case rel =>
        refine ⟨i + 1, by go_num, by omega, ?_, Kp.setCell (F := fun k => k = g) Hk.out (.inl rfl) _⟩
        rw [← splice_set _ _ _ _ _ (le8_get n i hlt) (by rw [le8_len]; exact Hx.out)]
        exact Hr.out.set _ _
      case measure => simp [intOf]; omega
    · have hz : ¬ (i : Int) < 8 := by omega
      have hi8 : i = 8 := by omega
      clear hr hk
      go_wp2
      go_end0
      refine ⟨rfl, ?_, Hk.out⟩
      have := Hr.out
      rw [hi8, List.take_of_length_le (by rw [le8_len]; omega)] at this
      exact this
theorem le_le8 (n : Int) (h0 : 0 ≤ n) (h1 : n < 18446744073709551616) : le 8 (le8 n) = n := by
  simp only [le, le8, List.range, List.range.loop, List.map_cons, List.map_nil, List.getD_cons_succ, List.getD_cons_zero]
  simp only [Nat.mul_zero, Nat.reduceMul, Nat.mul_one, Int.reducePow]
  omega
end Go.Proofs.YtdmmlkkemceifaaGreatDoor
