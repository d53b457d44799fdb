/- The document's own text of a number: as strconv.Itoa's. -/
import Derived.Test.YthjbpbahcemfgaaGreatDoorSl
import Derived.Lib.ItoaMem
import Derived.Lib.ItoaLen
namespace Go.Proofs.YthjbpbahcemfgaaGreatDoor
open Go.RowKit
set_option maxHeartbeats 2000000
set_option maxRecDepth 20000

theorem tx_app (a b : List UInt8) : tx a ++ tx b = tx (a ++ b) := by
  apply ByteArray.ext
  simp [tx]
theorem dig_at : ∀ k : Fin 10, ({ data := #[48, 49, 50, 51, 52, 53, 54, 55, 56, 57] } : ByteArray).extract k.1 (k.1 + 1) = tx [UInt8.ofNat (48 + k.1)] := by decide +kernel
theorem tx_size (l : List UInt8) : (tx l).size = l.length := by simp [tx, ByteArray.size]
theorem ref_digits {w : World} (N : Nat) (hN : N ≤ 9223372036854775808) :
    Calls Tryz.prog 41 #[.int .u64 (N : Nat)] w fun e w' => e = .returned (.string (tx (Lib.decDigits N))) ∧ Kp (fun _ => False) w w' := by
  have hlenN : (Lib.decDigits N).length ≤ 21 := by
    rcases Nat.eq_zero_or_pos N with h0 | h0
    · subst h0; rw [Lib.decDigits, dif_pos (by omega)]; simp
    · have := Lib.itoa_length_le (-(N : Int)) (by omega) (by omega)
      rw [Lib.itoa_neg N h0, List.length_cons] at this
      omega
  have HlenN := Lib.hid hlenN
  clear hlenN
  go_enter Tryz.func41, Tryz.ntmps41
  go_wp2
  go_loopw [0, 3] (fun x y wr => ∃ (n : Nat) (l : List UInt8), x = .int .u64 (n : Nat) ∧ y = .string (tx l) ∧ n ≤ N ∧ Lib.decDigits N = Lib.decDigits n ++ l ∧ Kp (fun _ => False) w wr) (fun x _ _ => (intOf x).toNat)
  case atStart => exact ⟨N, [], rfl, rfl, Nat.le_refl _, by simp, Kp.refl _ _⟩
  case round =>
    obtain ⟨n, l, rfl, rfl, hn, hl, hk⟩ := hrel
    have Hl := Lib.hid hl
    have Hk := Lib.hid hk
    have hsz : (tx l).size ≤ 21 := by
      have := congrArg List.length hl
      rw [List.length_append] at this
      have := HlenN.out
      rw [tx_size]; omega
    clear hl hk
    by_cases hlt : 9 < n
    · have hz : (9 : Int) < (n : Int) := by omega
      have hr0 : (0 : Int) ≤ (n : Int) % 10 := by omega
      have hr1 : (n : Int) % 10 < 10 := by omega
      go_wp2
      go_roundw
      case rel => exact ⟨n / 10, UInt8.ofNat (48 + n % 10) :: l, by simp, by have := dig_at ⟨n % 10, Nat.mod_lt _ (by omega)⟩; rw [this, tx_app]; rfl, by omega, by rw [Hl.out, Lib.decDigits, dif_neg (by omega), List.append_assoc]; rfl, Hk.out⟩
      case measure => simp [intOf]; omega
    · have hz : ¬ (9 : Int) < (n : Int) := by omega
      have hn9 : n < 10 := by omega
      have hr0 : (0 : Int) ≤ (n : Int) := by omega
      have hr1 : (n : Int) < 10 := by omega
      go_wp2
      go_ret
      refine ⟨?_, Hk.out⟩
      have h1 := dig_at ⟨n, by omega⟩
      simp only [] at h1
      rw [h1, tx_app]
      show Ending.returned (Value.string (tx ([UInt8.ofNat (48 + n)] ++ l))) = _
      rw [Hl.out, Lib.decDigits, dif_pos hn9]
theorem ref_Num {w : World} (n : Int) (h0 : -9223372036854775808 ≤ n) (h1 : n ≤ 9223372036854775807) :
    Calls Tryz.prog 10 #[.int .i64 n] w fun e w' => e = .returned (.string (tx (Lib.itoa n))) ∧ Kp (fun _ => False) w w' := by
  by_cases hn : n < 0
  · obtain ⟨N, hN⟩ : ∃ N : Nat, (N : Int) = -n := ⟨(-n).toNat, by omega⟩
    have hN1 : 1 ≤ N := by omega
    have hlenN : (tx (Lib.decDigits N)).size ≤ 21 := by
      have := Lib.itoa_length_le (-(N : Int)) (by omega) (by omega)
      rw [Lib.itoa_neg N hN1, List.length_cons] at this
      rw [tx_size]; omega
    have HI := Lib.hid (show Lib.itoa n = 45 :: Lib.decDigits N by rw [show n = -(N : Int) by omega]; exact Lib.itoa_neg N hN1)
    have e1 : -(n + 1) + 1 = (N : Int) := by omega
    have HD := Lib.hid (fun w : World => ref_digits (w := w) N (by omega))
    clear hN
    go_enter Tryz.func10, Tryz.ntmps10
    go_wp2_with fail
    refine (HD.out _).mono ?_
    rintro e w1 ⟨rfl, hk⟩
    have Hk := Lib.hid hk
    clear hk
    go_wp2_with fail
    go_ret
    exact ⟨by rw [HI.out]; show Ending.returned (Value.string (tx [45] ++ tx (Lib.decDigits N))) = _; rw [tx_app]; rfl, Hk.out⟩
  · obtain ⟨N, rfl⟩ := Int.eq_ofNat_of_zero_le (show 0 ≤ n by omega)
    have HI := Lib.hid (Lib.itoa_nonneg N)
    have HD := Lib.hid (fun w : World => ref_digits (w := w) N (by omega))
    have e1 : IntKind.u64.wrap (N : Int) = (N : Int) := IntWalk.u64_in _ (by omega)
    go_enter Tryz.func10, Tryz.ntmps10
    go_wp2_with fail
    refine (HD.out _).mono ?_
    rintro e w1 ⟨rfl, hk⟩
    have Hk := Lib.hid hk
    clear hk
    go_wp2_with fail
    go_ret
    exact ⟨by rw [HI.out]; rfl, Hk.out⟩
end Go.Proofs.YthjbpbahcemfgaaGreatDoor
