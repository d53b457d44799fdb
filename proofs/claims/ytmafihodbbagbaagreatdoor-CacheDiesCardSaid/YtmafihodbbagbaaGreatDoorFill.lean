/- The statements' Fill: a block's bytes by a number. -/
import Derived.Test.YtmafihodbbagbaaGreatDoorErr
namespace Go.Proofs.YtmafihodbbagbaaGreatDoor
open Go.RowKit
set_option maxHeartbeats 1000000
set_option maxRecDepth 20000

theorem RowE.cell {w : World} {g : Nat} {xs : List Int} (h : RowE w g xs) {i : Nat} {x : Int} (hx : xs[i]? = some x) : w.cell? ⟨g, i, none⟩ = some (.int .u8 x) := by
  rw [cell_blk h]; simp [bs, hx]
theorem RowE.set {w : World} {g : Nat} {xs : List Int} (h : RowE w g xs) (i : Nat) (x : Int) : RowE (w.setCell ⟨g, i, none⟩ (.int .u8 x)) g (xs.set i x) := by
  unfold RowE at h ⊢
  rw [set_blk h]
  congr 2
  simp [bs, List.map_set]
/-- A row whose first i bytes are told by f, the others are noughts. -/
def part (f : Nat → Int) (i : Nat) : List Int := (List.range 128).map fun k => if k < i then f k else 0
theorem part_get (f : Nat → Int) (i k : Nat) (h : k < 128) : (part f i)[k]? = some (if k < i then f k else 0) := by simp [part, h]
theorem part_len (f : Nat → Int) (i : Nat) : (part f i).length = 128 := by simp [part]
theorem part_zero (f : Nat → Int) : part f 0 = zs 128 := by
  apply List.ext_getElem?
  intro k
  rw [zs, List.getElem?_replicate]
  by_cases h : k < 128
  · rw [part_get _ _ _ h]; simp [h]
  · rw [List.getElem?_eq_none (by simp [part]; omega), if_neg h]
theorem part_step (f : Nat → Int) (i : Nat) (hi : i < 128) : (part f i).set i (f i) = part f (i + 1) := by
  apply List.ext_getElem?
  intro k
  by_cases h : k < 128
  · rw [List.getElem?_set, part_get _ _ _ h, part_len]
    by_cases e : i = k
    · subst e; rw [part_get _ _ _ h]; simp [hi]
    · rw [if_neg e, part_get _ _ _ h]
      have : (k < i + 1) ↔ (k < i) := by omega
      simp [this]
  · rw [List.getElem?_eq_none (by simp [part_len]; omega), List.getElem?_eq_none (by simp [part_len]; omega)]
/-- What Fill gives. -/
def fillAt (n i : Nat) : Int := ((n + i * (n / 256)) % 256 : Nat)
theorem and7 : ∀ q : Fin 8, bits .and .i64 ((q.1 : Nat) : Int) 7 = ((q.1 : Nat) : Int) := by decide +kernel
def fillRow (n : Nat) : List Int := part (fillAt n) 128

theorem fill_ok {w : World} (n : Nat) (hn : n < 2048) :
    Calls Tryz.prog 8 #[.int .i64 n] w fun e w' => e = .returned (.slice (some ⟨w.heap.size, 0, none⟩) 128 128) ∧ RowE w' w.heap.size (fillRow n) ∧ Kp (fun _ => False) w w' := by
  go_enter Tryz.func8, Tryz.ntmps8
  go_wp2_with (at_make; refine wpList_make128 rfl rfl ?_)
  generalize hg : w.heap.size = g
  have hr0 : RowE (w.alloc (zrow 128)) g (part (fillAt n) 0) := by rw [part_zero, ← hg]; exact rowE_new _ _
  go_loopw [8] (fun x wr => ∃ i : Nat, x = .int .i64 (i : Nat) ∧ i ≤ 128 ∧ RowE wr g (part (fillAt n) i) ∧ Kp (fun _ => False) w wr) (fun x _ => 128 - (intOf x).toNat)
  case atStart => exact ⟨0, rfl, by omega, hr0, (Kp.refl _ _).alloc _⟩
  case round =>
    obtain ⟨i, rfl, hi, hr, hk⟩ := hrel
    have Hr := Lib.hid hr
    have Hk := Lib.hid hk
    by_cases hlt : i < 128
    · have hz : (i : Int) < 128 := by omega
      have c1 := hr.cell (part_get _ i i hlt)
      have f1 := frozen_blk hr i
      simp only [Nat.lt_irrefl, if_false] at c1
      clear hr hk hr0
      go_wp2
      go_roundw
      case rel =>
        refine ⟨i + 1, by go_num, by omega, ?_, Kp.setCell (F := fun _ => False) Hk.out (.inr (Nat.le_of_eq hg)) _⟩
        have h1 : bits .and .i64 ((n : Int) / 256) 7 = ((n / 256 : Nat) : Int) := by
          have := and7 ⟨n / 256, by omega⟩
          simpa using this
        have h2 : i * (n / 256) ≤ 127 * 7 := Nat.mul_le_mul (by omega) (by omega)
        have h5 : ((n + i * (n / 256) : Nat) : Int) % 256 = fillAt n i := by unfold fillAt; omega
        rw [h1, ← Int.natCast_mul]
        generalize i * (n / 256) = m at *
        have h3 : wrap64 ((m : Nat) : Int) = ((m : Nat) : Int) := by unfold wrap64; omega
        have h4 : wrap64 ((n : Int) + ((m : Nat) : Int)) = ((n + m : Nat) : Int) := by
          rw [← Int.natCast_add]
          unfold wrap64; omega
        rw [h3, h4, h5, ← part_step _ _ hlt]
        exact Hr.out.set i _
      case measure => simp [intOf]; omega
    · have hz : ¬ (i : Int) < 128 := by omega
      have hi8 : i = 128 := by omega
      clear hr hk hr0
      go_wp2
      go_ret
      exact ⟨rfl, by have := Hr.out; rw [hi8] at this; exact this, Hk.out⟩
end Go.Proofs.YtmafihodbbagbaaGreatDoor
