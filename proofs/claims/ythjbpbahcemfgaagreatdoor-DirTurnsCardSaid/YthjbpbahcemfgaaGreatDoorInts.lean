/- Slices of ints in plain words. -/
import Derived.Test.YthjbpbahcemfgaaGreatDoorCacheW
namespace Go.Proofs.YthjbpbahcemfgaaGreatDoor
open Go.RowKit
set_option maxHeartbeats 1000000
set_option maxRecDepth 20000

def ints (xs : List Int) : List Value := xs.map (Value.int .i64)
@[simp] theorem ints_length (xs : List Int) : (ints xs).length = xs.length := by simp [ints]
theorem ints_app (xs ys : List Int) : ints (xs ++ ys) = ints xs ++ ints ys := by simp [ints]
/-- A slice value that reads as these numbers. -/
def SlI (w : World) (v : Value) (xs : List Int) : Prop :=
  ∃ A c, v = .slice A xs.length c ∧ xs.length ≤ c ∧ c ≤ maxLen ∧ (xs ≠ [] → ∃ ad, A = some ad ∧ ∀ j u, (ints xs)[j]? = some u → w.cell? (ad.add j) = some u)
theorem SlI.kp {F : Nat → Prop} {w w' : World} {v : Value} {ys : List Int} (h : SlI w v ys) (k : Kp F w w') (hf : ∀ b, blockOf v = some b → ¬ F b) : SlI w' v ys := by
  obtain ⟨A, c, rfl, h1, h2, h3⟩ := h
  refine ⟨A, c, rfl, h1, h2, fun hn => ?_⟩
  obtain ⟨ad, rfl, h4⟩ := h3 hn
  exact ⟨ad, rfl, fun j u hj => k.cell (h4 j u hj) (by rw [add_block]; exact hf _ rfl)⟩
theorem add0 (g j : Nat) : (⟨g, 0, none⟩ : Addr).add j = ⟨g, j, none⟩ := by unfold Addr.add; split <;> simp_all
theorem own_slI {w : World} {base n : Nat} {v : Value} {xs : List Int} (h : w.ownsRow base 3 1 v n (ints xs)) : SlI w v xs ∧ (∀ b, blockOf v = some b → base ≤ b) ∧ xs.length = n := by
  obtain ⟨h1, h2⟩ := h
  have hn : xs.length = n := by rw [ints_length] at h1; omega
  rcases h2 with ⟨rfl, h3⟩ | ⟨g, cap, cur, rfl, h3, h4, h5, h6, h7, h8⟩
  · have : xs = [] := by apply List.eq_nil_of_length_eq_zero; omega
    subst this; exact ⟨⟨none, 0, rfl, Nat.le_refl _, by simp [maxLen], fun h => absurd rfl h⟩, fun b hb => by simp [blockOf] at hb, hn⟩
  · refine ⟨⟨_, cap, by rw [hn], by omega, h6, fun _ => ⟨_, rfl, fun j u hj => ?_⟩⟩, fun b hb' => by simp [blockOf] at hb'; omega, hn⟩
    have hlt := (List.getElem?_eq_some_iff.1 hj).1
    rw [add0, cell_blk h4, ← Array.getElem?_toList]
    rw [← h8, List.getElem?_take] at hj
    split at hj
    · exact hj
    · cases hj
theorem Tryz.infoInt : (Tryz.prog.info? 3).map (fun i => (i.zero, i.size, i.bytes)) = some (some (.int .i64 0), 1, 8) := by kernel_rfl

end Go.Proofs.YthjbpbahcemfgaaGreatDoor
