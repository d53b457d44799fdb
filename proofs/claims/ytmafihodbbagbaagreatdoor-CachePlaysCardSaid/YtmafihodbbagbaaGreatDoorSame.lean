/- Two slices of ints compared. -/
import Derived.Test.YtmafihodbbagbaaGreatDoorInts
namespace Go.Proofs.YtmafihodbbagbaaGreatDoor
open Go.RowKit
set_option maxHeartbeats 2000000
set_option maxRecDepth 20000

theorem ref_SameInts {w : World} {v u : Value} {xs : List Int} (hv : SlI w v xs) (hu : SlI w u xs) (hl : xs.length ≤ 100000) :
    Calls Tryz.prog 14 #[v, u] w fun e w' => e = .returned (.bool true) ∧ Kp (fun _ => False) w w' := by
  obtain ⟨A, c, rfl, _, _, hA⟩ := hv
  obtain ⟨B, d, rfl, _, _, hB⟩ := hu
  have HA := Lib.hid hA
  have HB := Lib.hid hB
  clear hA hB
  go_enter Tryz.func14, Tryz.ntmps14
  go_wp2
  go_loopw [5] (fun x wr => ∃ i : Nat, x = .int .i64 (i : Nat) ∧ i ≤ xs.length ∧ Kp (fun _ => False) w wr) (fun x _ => xs.length - (intOf x).toNat)
  case atStart => exact ⟨0, rfl, by omega, Kp.refl _ _⟩
  case round =>
    obtain ⟨i, rfl, hi, hk⟩ := hrel
    have Hk := Lib.hid hk
    by_cases hlt : i < xs.length
    · have hz : (i : Int) < (xs.length : Int) := by omega
      have hz0 : (0 : Int) ≤ (i : Int) := by omega
      obtain ⟨x, hx⟩ : ∃ x, xs[i]? = some x := ⟨_, List.getElem?_eq_getElem hlt⟩
      obtain ⟨ad1, rfl, h1⟩ := HA.out (by rintro rfl; simp at hlt)
      obtain ⟨ad2, rfl, h2⟩ := HB.out (by rintro rfl; simp at hlt)
      have c1 := hk.cell (h1 i (.int .i64 x) (by simp [ints, hx])) (fun h => h)
      have c2 := hk.cell (h2 i (.int .i64 x) (by simp [ints, hx])) (fun h => h)
      clear h1 h2 hx hk
      go_wp2_with fail
      go_quiet (fail)
      go_wp2_with fail
      go_roundw
      case rel => exact ⟨i + 1, by go_num, by omega, Hk.out.drewN _⟩
      case measure => simp [intOf]; omega
    · have hz : ¬ (i : Int) < (xs.length : Int) := by omega
      clear hk
      go_wp2
      go_ret
      exact ⟨rfl, Hk.out⟩
end Go.Proofs.YtmafihodbbagbaaGreatDoor
