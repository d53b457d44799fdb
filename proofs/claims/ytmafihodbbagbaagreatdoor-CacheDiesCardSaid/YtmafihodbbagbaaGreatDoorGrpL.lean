/- The journal's numbers read back: plain laws. -/
import Derived.Test.YtmafihodbbagbaaGreatDoorBody
import Derived.Test.YtmafihodbbagbaaGreatDoorOpen
namespace Go.Proofs.YtmafihodbbagbaaGreatDoor
open Go.RowKit
set_option maxHeartbeats 1000000
set_option maxRecDepth 20000

theorem le_congr {xs ys : List Int} : ∀ (k : Nat), (∀ i, i < k → xs.getD i 0 = ys.getD i 0) → le k xs = le k ys
  | 0, _ => rfl
  | k + 1, h => by
    rw [le, le, le_congr k (fun i hi => h i (by omega)), h k (by omega)]
theorem getD_drop (xs : List Int) (n i : Nat) : (xs.drop n).getD i 0 = xs.getD (n + i) 0 := by
  rw [List.getD_eq_getElem?_getD, List.getD_eq_getElem?_getD, List.getElem?_drop]
theorem splice_in {xs ys : List Int} {off : Nat} (h : off + ys.length ≤ xs.length) (i : Nat) (hi : i < ys.length) : (splice xs off ys).getD (off + i) 0 = ys.getD i 0 := by
  rw [List.getD_eq_getElem?_getD, splice_get _ _ _ _ h, if_pos (by omega), List.getD_eq_getElem?_getD]
  congr 2; omega
theorem splice_out {xs ys : List Int} {off : Nat} (h : off + ys.length ≤ xs.length) (i : Nat) (hi : i < off ∨ off + ys.length ≤ i) : (splice xs off ys).getD i 0 = xs.getD i 0 := by
  rw [List.getD_eq_getElem?_getD, splice_get _ _ _ _ h, if_neg (by omega), List.getD_eq_getElem?_getD]
theorem nr_get (ns : List Nat) : ∀ m, m ≤ 16 → ∀ i, i < m → ∀ k, k < 8 → (nr ns m).getD (8 * i + k) 0 = (le8 ((ns.getD i 0 : Nat) : Int)).getD k 0
  | 0, _, i, hi, _, _ => by omega
  | m + 1, hm, i, hi, k, hk => by
    have hl := nr_len ns m (by omega)
    rw [nr]
    have hfit : 8 * m + (le8 ((ns.getD m 0 : Nat) : Int)).length ≤ (nr ns m).length := by rw [le8_len, hl]; omega
    by_cases h : i = m
    · subst h; exact splice_in hfit k (by rw [le8_len]; exact hk)
    · rw [splice_out hfit _ (.inl (by omega))]
      exact nr_get ns m (by omega) i (by omega) k hk
theorem numRow_le {l : List (Nat × List Int)} {k i no : Nat} {ys : List Int} (hi : i < 16) (h : l[k * 16 + i]? = some (no, ys)) (hno : (no : Int) < 18446744073709551616) : le 8 ((numRow l k).drop (8 * i)) = (no : Int) := by
  have hlt := (List.getElem?_eq_some_iff.1 h).1
  rw [← le_le8 (no : Int) (by omega) hno]
  refine le_congr 8 fun j hj => ?_
  rw [getD_drop, numRow, nr_get _ _ (by omega) i (by omega) j hj, ckNos_get hi h]
theorem byte_splice {xs ys : List Int} {off : Nat} (hx : ∀ x ∈ xs, 0 ≤ x ∧ x ≤ 255) (hy : ∀ x ∈ ys, 0 ≤ x ∧ x ≤ 255) : ∀ x ∈ splice xs off ys, 0 ≤ x ∧ x ≤ 255 := by
  intro x h
  unfold splice at h
  rcases List.mem_append.1 h with h | h
  · exact hx x (List.mem_of_mem_take h)
  rcases List.mem_append.1 h with h | h
  · exact hy x h
  · exact hx x (List.mem_of_mem_drop h)
theorem byte_zs (n : Nat) : ∀ x ∈ zs n, 0 ≤ x ∧ x ≤ 255 := by
  intro x h
  rw [zs, List.mem_replicate] at h; omega
theorem byte_nr (ns : List Nat) : ∀ m, ∀ x ∈ nr ns m, 0 ≤ x ∧ x ≤ 255
  | 0 => byte_zs 128
  | m + 1 => byte_splice (byte_nr ns m) (le8_byte _)
theorem byte_head (n : Int) (rows : List (List Int)) : ∀ x ∈ headRow n rows, 0 ≤ x ∧ x ≤ 255 :=
  byte_splice (byte_splice (byte_splice (byte_zs 128) (by decide)) (le8_byte _)) (le8_byte _)
theorem head_l0 : (splice (zs 128) 0 magicL).length = 128 := by rw [length_splice _ _ _ (by decide), zs_length]
theorem head_l1 (n : Int) : (splice (splice (zs 128) 0 magicL) 8 (le8 n)).length = 128 := by rw [length_splice _ _ _ (by rw [head_l0, le8_len]; omega), head_l0]
theorem head_n {n : Int} {rows : List (List Int)} (h0 : 0 ≤ n) (h1 : n < 18446744073709551616) : le 8 ((headRow n rows).drop 8) = n := by
  conv => rhs; rw [← le_le8 n h0 h1]
  refine le_congr 8 fun j hj => ?_
  rw [getD_drop, headRow, splice_out (by rw [head_l1, le8_len]; omega) _ (.inl (by omega)), splice_in (by rw [head_l0, le8_len]; omega) _ (by rw [le8_len]; omega)]
theorem head_magic (n : Int) (rows : List (List Int)) : (headRow n rows).take 8 = magicL := by
  apply List.ext_getElem?
  intro i
  rw [List.getElem?_take]
  by_cases h : i < 8
  · rw [if_pos h, headRow, splice_get _ _ _ _ (by rw [head_l1, le8_len]; omega), if_neg (by omega), splice_get _ _ _ _ (by rw [head_l0, le8_len]; omega), if_neg (by omega), splice_get _ _ _ _ (by decide), if_pos (by constructor; omega; show i < 0 + 8; omega)]
    rfl
  · rw [if_neg h, List.getElem?_eq_none (by show 8 ≤ i; omega)]
theorem str_inj {xs ys : List Int} (hx : ∀ x ∈ xs, 0 ≤ x ∧ x ≤ 255) (hy : ∀ x ∈ ys, 0 ≤ x ∧ x ≤ 255) : (str xs = str ys) ↔ xs = ys := by
  constructor
  · intro h
    have h1 : (str xs).data.toList = (str ys).data.toList := by rw [h]
    rw [str_list, str_list] at h1
    induction xs generalizing ys with
    | nil => cases ys with
      | nil => rfl
      | cons y ys => simp at h1
    | cons x xs ih =>
      cases ys with
      | nil => simp at h1
      | cons y ys =>
        simp only [List.map_cons, List.cons.injEq] at h1
        have hxb := hx x (List.mem_cons_self ..)
        have hyb := hy y (List.mem_cons_self ..)
        have := ih (fun z hz => hx z (List.mem_cons_of_mem _ hz)) (fun z hz => hy z (List.mem_cons_of_mem _ hz)) (ByteArray.ext (Array.ext' (by rw [str_list, str_list]; exact h1.2))) h1.2
        subst this
        have e := congrArg UInt8.toNat h1.1
        simp at e
        congr 1
        omega
  · rintro rfl; rfl
end Go.Proofs.YtmafihodbbagbaaGreatDoor
