/- The sum of bytes. -/
import Derived.Test.YtmafihodbbagbaaGreatDoorPut
namespace Go.Proofs.YtmafihodbbagbaaGreatDoor
open Go.RowKit
set_option maxHeartbeats 1000000
set_option maxRecDepth 20000

/-- A slice value that reads as these rows of bytes. -/
def SS (w : World) (v : Value) (rows : List (List Int)) : Prop :=
  ∃ A c, v = .slice A rows.length c ∧ rows.length ≤ c ∧ c ≤ maxLen ∧ (rows ≠ [] → ∃ ad, A = some ad ∧ ∀ i ys, rows[i]? = some ys → ∃ u, w.cell? (ad.add i) = some u ∧ Sl w u ys)
def sumStep (n c : Int) : Int := IntKind.u64.wrap (bits BinOp.xor IntKind.u64 n (IntKind.u64.wrap c) * 1099511628211)
def sumRow (n : Int) (ys : List Int) : Int := ys.foldl sumStep n
def sumAll (rows : List (List Int)) : Int := rows.foldl sumRow 14695981039346656037
theorem sumRow_snoc (n : Int) (ys : List Int) (y : Int) : sumRow n (ys ++ [y]) = sumStep (sumRow n ys) y := by simp only [sumRow, List.foldl_append, List.foldl_cons, List.foldl_nil]
theorem sumAll_snoc (rows : List (List Int)) (ys : List Int) : sumAll (rows ++ [ys]) = sumRow (sumAll rows) ys := by simp only [sumAll, List.foldl_append, List.foldl_cons, List.foldl_nil]
theorem take_succ' {α : Type} {l : List α} {i : Nat} {x : α} (h : l[i]? = some x) : l.take (i + 1) = l.take i ++ [x] := by
  rw [List.take_add_one, h]; rfl

theorem sum_Parts {w : World} {v : Value} {rows : List (List Int)} (h : SS w v rows) :
    Calls Tryz.prog 67 #[v] w fun e w' => e = .returned (.int .u64 (sumAll rows)) ∧ w = w' := by
  obtain ⟨A, c, rfl, hc1, hc2, hA⟩ := h
  have HA := Lib.hid hA
  unfold maxLen at hc2
  clear hA
  go_enter Tryz.func67, Tryz.ntmps67
  go_wp2
  go_loop [3, 10] (fun x y => ∃ i : Nat, x = .int .u64 (sumAll (rows.take i)) ∧ y = .int .i64 (i : Nat) ∧ i ≤ rows.length) (fun _ y => rows.length - (intOf y).toNat)
  case atStart => exact ⟨0, rfl, rfl, by omega⟩
  case round =>
    obtain ⟨i, rfl, rfl, hi⟩ := hrel
    by_cases hlt : i < rows.length
    · have hz : (i : Int) < (rows.length : Int) := by omega
      have hz0 : (0 : Int) ≤ (i : Int) := by omega
      obtain ⟨ys, hys⟩ : ∃ ys, rows[i]? = some ys := ⟨_, List.getElem?_eq_getElem hlt⟩
      obtain ⟨ad, rfl, hcells⟩ := HA.out (by rintro rfl; simp at hlt)
      obtain ⟨u, c1, hu⟩ := hcells i ys hys
      obtain ⟨B, d, rfl, hd1, hd2, hB⟩ := hu
      have HB := Lib.hid hB
      have HT := Lib.hid (take_succ' hys)
      unfold maxLen at hd2
      clear hB hcells hys
      obtain ⟨n0, hn0⟩ : ∃ n0, n0 = sumAll (rows.take i) := ⟨_, rfl⟩
      rw [← hn0]
      have Hn0 := Lib.hid hn0
      clear hn0
      go_wp2
      go_loop [3, 16] (fun x y => ∃ j : Nat, x = .int .u64 (sumRow n0 (ys.take j)) ∧ y = .int .i64 (j : Nat) ∧ j ≤ ys.length) (fun _ y => ys.length - (intOf y).toNat)
      case atStart => exact ⟨0, rfl, rfl, by omega⟩
      case round =>
        obtain ⟨j, rfl, rfl, hj⟩ := hrel
        by_cases hjlt : j < ys.length
        · have hy : (j : Int) < (ys.length : Int) := by omega
          have hy0 : (0 : Int) ≤ (j : Int) := by omega
          obtain ⟨y, hyj⟩ : ∃ y, ys[j]? = some y := ⟨_, List.getElem?_eq_getElem hjlt⟩
          obtain ⟨ad2, rfl, hcell2⟩ := HB.out (by rintro rfl; simp at hjlt)
          have c2 := hcell2 j (.int .u8 y) (by simp [bs, hyj])
          have HT2 := Lib.hid (take_succ' hyj)
          clear hcell2 hyj
          obtain ⟨n1, hn1⟩ : ∃ n1, n1 = sumRow n0 (ys.take j) := ⟨_, rfl⟩
          rw [← hn1]
          have Hn1 := Lib.hid hn1
          clear hn1
          go_wp2
          go_round
          case rel => exact ⟨j + 1, by rw [HT2.out, sumRow_snoc, ← Hn1.out, sumStep], by go_num, by omega⟩
          case measure => simp [intOf]; omega
        · have hy : ¬ (j : Int) < (ys.length : Int) := by omega
          have hj2 : j = ys.length := by omega
          have hfin : sumRow n0 (ys.take j) = sumRow n0 ys := by rw [hj2, List.take_length]
          rw [hfin]
          have hall : sumRow n0 ys = sumRow n0 ys := rfl
          clear hj2 hfin hall
          go_wp2
          go_round
          case rel => exact ⟨i + 1, by rw [HT.out, sumAll_snoc, ← Hn0.out], by go_num, by omega⟩
          case measure => simp [intOf]; omega
    · have hz : ¬ (i : Int) < (rows.length : Int) := by omega
      have hi2 : i = rows.length := by omega
      have hfin : sumAll (rows.take i) = sumAll rows := by rw [hi2, List.take_length]
      rw [hfin]
      clear hi2 hfin
      go_wp2
      go_ret
      exact ⟨rfl, rfl⟩
theorem wrap_u64 (n : Int) : 0 ≤ IntKind.u64.wrap n ∧ IntKind.u64.wrap n < 18446744073709551616 := by
  rw [IntKind.wrap_u64]; omega
theorem sumRow_range (ys : List Int) : ∀ n : Int, 0 ≤ n ∧ n < 18446744073709551616 → 0 ≤ sumRow n ys ∧ sumRow n ys < 18446744073709551616 := by
  induction ys with
  | nil => intro n h; exact h
  | cons y ys ih => intro n _; exact ih _ (wrap_u64 _)
theorem sumAll_range (rows : List (List Int)) : 0 ≤ sumAll rows ∧ sumAll rows < 18446744073709551616 := by
  have : ∀ (rows : List (List Int)) (n : Int), 0 ≤ n ∧ n < 18446744073709551616 → 0 ≤ rows.foldl sumRow n ∧ rows.foldl sumRow n < 18446744073709551616 := by
    intro rows
    induction rows with
    | nil => intro n h; exact h
    | cons y ys ih => intro n h; exact ih _ (sumRow_range y n h)
  exact this rows _ (by omega)
end Go.Proofs.YtmafihodbbagbaaGreatDoor
