/- Rows of bytes that are filled one by one. -/
import Derived.Test.YtdmmlkkemceifaaGreatDoorSl
namespace Go.Proofs.YtdmmlkkemceifaaGreatDoor
open Go.RowKit
set_option maxHeartbeats 1000000
set_option maxRecDepth 20000

theorem RowE.cell {w : World} {g : Nat} {xs : List Int} (h : RowE w g xs) {i : Nat} {x : Int} (hx : xs[i]? = some x) : w.cell? ⟨g, i, none⟩ = some (.int .u8 x) := by
  rw [cell_blk h]; simp [bs, hx]
theorem RowE.set {w : World} {g : Nat} {xs : List Int} (h : RowE w g xs) (i : Nat) (x : Int) : RowE (w.setCell ⟨g, i, none⟩ (.int .u8 x)) g (xs.set i x) := by
  unfold RowE at h ⊢
  rw [set_blk h]
  congr 2
  simp [bs, List.map_set]
/-- A row whose first i bytes are told by f, the others are noughts. -/
def part (f : Nat → Int) (i : Nat) : List Int := (List.range 128).map fun k => if k < i then f k else 0
theorem part_get (f : Nat → Int) (i k : Nat) (h : k < 128) : (part f i)[k]? = some (if k < i then f k else 0) := by simp [part, h]
theorem part_len (f : Nat → Int) (i : Nat) : (part f i).length = 128 := by simp [part]
theorem part_zero (f : Nat → Int) : part f 0 = zs 128 := by
  apply List.ext_getElem?
  intro k
  rw [zs, List.getElem?_replicate]
  by_cases h : k < 128
  · rw [part_get _ _ _ h]; simp [h]
  · rw [List.getElem?_eq_none (by simp [part]; omega), if_neg h]
theorem part_step (f : Nat → Int) (i : Nat) (hi : i < 128) : (part f i).set i (f i) = part f (i + 1) := by
  apply List.ext_getElem?
  intro k
  by_cases h : k < 128
  · rw [List.getElem?_set, part_get _ _ _ h, part_len]
    by_cases e : i = k
    · subst e; rw [part_get _ _ _ h]; simp [hi]
    · rw [if_neg e, part_get _ _ _ h]
      have : (k < i + 1) ↔ (k < i) := by omega
      simp [this]
  · rw [List.getElem?_eq_none (by simp [part_len]; omega), List.getElem?_eq_none (by simp [part_len]; omega)]
/-- What Fill gives. -/
def fillAt (n i : Nat) : Int := ((n + i * (n / 256)) % 256 : Nat)
theorem and7 : ∀ q : Fin 8, bits .and .i64 ((q.1 : Nat) : Int) 7 = ((q.1 : Nat) : Int) := by decide +kernel
def fillRow (n : Nat) : List Int := part (fillAt n) 128
end Go.Proofs.YtdmmlkkemceifaaGreatDoor
