/- How many blocks a file has: the program's answer and the document's. -/
import Derived.Test.YthjbpbahcemfgaaGreatDoorFitL
namespace Go.Proofs.YthjbpbahcemfgaaGreatDoor
open Go.RowKit
set_option maxHeartbeats 2000000
set_option maxRecDepth 20000

theorem budget_up {w : World} (n : Nat) (hn : n ≤ 1000000) :
    Calls Tryz.prog 155 #[.int .i64 n, .int .i64 128] w fun e w' => e = .returned (.int .i64 (dat n : Nat)) ∧ w = w' := by
  have e : ((n : Int) + 127) / 128 = ((dat n : Nat) : Int) := by unfold dat; omega
  have E := Lib.hid e
  clear e
  go_enter Tryz.func155, Tryz.ntmps155
  go_wp2
  go_ret
  exact ⟨ret_int (by rw [← E.out]; omega), rfl⟩
theorem budget_Blocks {w : World} (n : Nat) (hn : n ≤ 4000) :
    Calls Tryz.prog 132 #[.int .i64 n] w fun e w' => e = .returned (.int .i64 (bks n : Nat)) ∧ w = w' := by
  have HU := Lib.hid (fun w : World => budget_up (w := w) n (by omega))
  have hd : dat n ≤ 40 := by unfold dat; omega
  have hb : bks n = dat n + if 1024 < n then 1 else 0 := rfl
  by_cases h0 : n < 1
  · have h0' : (n : Int) < 1 := by omega
    have hz : bks n = 0 := by obtain rfl : n = 0 := by omega
                              rfl
    have Hz := Lib.hid hz
    clear hb hz
    go_enter Tryz.func132, Tryz.ntmps132
    go_wp2_with fail
    go_ret
    exact ⟨by rw [Hz.out]; rfl, rfl⟩
  · have h0' : ¬ (n : Int) < 1 := by omega
    have h4 : ¬ (4000 : Int) < (n : Int) := by omega
    by_cases h1 : 1024 < n
    · have h1' : (1024 : Int) < (n : Int) := by omega
      rw [if_pos h1] at hb
      have Hb := Lib.hid hb
      clear hb
      generalize dat n = d at *
      go_enter Tryz.func132, Tryz.ntmps132
      go_wp2_with fail
      refine (HU.out _).mono ?_
      rintro e w1 ⟨rfl, rfl⟩
      go_wp2_with fail
      go_ret
      exact ⟨ret_int (by rw [Hb.out]; push_cast; omega), rfl⟩
    · have h1' : ¬ (1024 : Int) < (n : Int) := by omega
      rw [if_neg h1, Nat.add_zero] at hb
      have Hb := Lib.hid hb
      clear hb
      generalize dat n = d at *
      go_enter Tryz.func132, Tryz.ntmps132
      go_wp2_with fail
      refine (HU.out _).mono ?_
      rintro e w1 ⟨rfl, rfl⟩
      go_wp2_with fail
      go_ret
      exact ⟨ret_int (by rw [Hb.out]), rfl⟩
theorem bks_le (n : Nat) (hn : n ≤ 4000) : bks n ≤ 33 := by unfold bks dat; split <;> omega
theorem budget_Grow {w : World} (a b : Nat) (ha : a ≤ 4000) (hb : b ≤ 4000) :
    Calls Tryz.prog 97 #[.int .i64 a, .int .i64 b] w fun e w' => e = .returned (.int .i64 (bks b - bks a : Nat)) ∧ w = w' := by
  have HA := Lib.hid (fun w : World => budget_Blocks (w := w) a ha)
  have HB := Lib.hid (fun w : World => budget_Blocks (w := w) b hb)
  have h1 := bks_le a ha
  have h2 := bks_le b hb
  generalize bks a = p at *
  generalize bks b = q at *
  go_enter Tryz.func97, Tryz.ntmps97
  go_wp2_with fail
  refine (HB.out _).mono ?_
  rintro e w1 ⟨rfl, rfl⟩
  go_wp2_with fail
  refine (HA.out _).mono ?_
  rintro e w2 ⟨rfl, rfl⟩
  go_wp2_with fail
  go_ret
  exact ⟨ret_int (by omega), rfl⟩
end Go.Proofs.YthjbpbahcemfgaaGreatDoor
