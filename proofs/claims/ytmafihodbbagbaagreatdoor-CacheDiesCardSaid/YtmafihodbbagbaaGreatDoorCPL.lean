/- CachePlays: its plain laws: changed numbers in order, bytes turned in a string. -/
import Derived.Test.YtmafihodbbagbaaGreatDoorChg
import Derived.Test.YtmafihodbbagbaaGreatDoorCacheW
namespace Go.Proofs.YtmafihodbbagbaaGreatDoor
open Go.RowKit
set_option maxHeartbeats 1000000
set_option maxRecDepth 20000

theorem perm_sorted_eq {l1 l2 : List Nat} (hp : l1.Perm l2) (h1 : l1.Pairwise (· ≤ ·)) (h2 : l2.Pairwise (· ≤ ·)) : l1 = l2 := by
  induction l1 generalizing l2 with
  | nil => exact (List.nil_perm.1 hp).symm ▸ rfl
  | cons a l1 ih =>
    cases l2 with
    | nil => exact absurd hp.length_eq (by simp)
    | cons b l2 =>
      have hab : a = b := by
        have ha : a ∈ b :: l2 := hp.mem_iff.1 (List.mem_cons_self ..)
        have hb : b ∈ a :: l1 := hp.mem_iff.2 (List.mem_cons_self ..)
        rcases List.mem_cons.1 ha with h | h
        · exact h
        · rcases List.mem_cons.1 hb with h' | h'
          · exact h'.symm
          · exact Nat.le_antisymm ((List.pairwise_cons.1 h1).1 _ h') ((List.pairwise_cons.1 h2).1 _ h)
      subst hab
      rw [ih ((List.perm_cons a).1 hp) (List.pairwise_cons.1 h1).2 (List.pairwise_cons.1 h2).2]
def srt (l : List Nat) : List Nat := l.mergeSort fun a b => decide (a ≤ b)
theorem srt_perm (l : List Nat) : (srt l).Perm l := List.mergeSort_perm _ _
theorem srt_sorted (l : List Nat) : (srt l).Pairwise (· ≤ ·) := by
  have h := List.pairwise_mergeSort (le := fun a b : Nat => decide (a ≤ b)) (fun a b c h1 h2 => by simp at *; omega) (fun a b => by simp; omega) l
  exact h.imp fun h => by simpa using h
/-- A new number among sorted ones. -/
theorem srt_insert {l : List Nat} {n k : Nat} (h1 : ∀ i x, i < k → (srt l)[i]? = some x → x < n) (h2 : ∀ x, (srt l)[k]? = some x → n ≤ x) :
    srt (l ++ [n]) = (srt l).take k ++ n :: (srt l).drop k := by
  have hs := srt_sorted l
  refine perm_sorted_eq ?_ (srt_sorted _) ?_
  · refine (srt_perm _).trans ?_
    refine (List.perm_append_comm (l₁ := l) (l₂ := [n])).trans ?_
    refine List.Perm.trans ?_ (List.perm_middle).symm
    rw [List.take_append_drop]
    exact (List.Perm.cons n (srt_perm l).symm)
  · rw [← List.take_append_drop k (srt l)] at hs
    obtain ⟨ha, hb, hc⟩ := List.pairwise_append.1 hs
    refine List.pairwise_append.2 ⟨ha, List.pairwise_cons.2 ⟨fun x hx => ?_, hb⟩, fun x hx y hy => ?_⟩
    · cases hd : (srt l).drop k with
      | nil => rw [hd] at hx; cases hx
      | cons z zs =>
        have hz : (srt l)[k]? = some z := by
          have := List.getElem?_drop (xs := srt l) (i := k) (j := 0)
          rw [hd] at this; simpa using this.symm
        have hnz := h2 z hz
        rw [hd] at hx hb
        rcases List.mem_cons.1 hx with h | h
        · omega
        · exact Nat.le_trans hnz ((List.pairwise_cons.1 hb).1 _ h)
    · obtain ⟨i, hi⟩ := List.mem_iff_getElem?.1 hx
      rw [List.getElem?_take] at hi
      split at hi
      · rename_i hik
        have hxn := h1 i x hik hi
        rcases List.mem_cons.1 hy with h | h
        · omega
        · exact hc x hx y h
      · cases hi
/-- A number is among sorted ones just where the first that is not less is it. -/
theorem srt_mem {l : List Nat} {n k : Nat} (h1 : ∀ i x, i < k → (srt l)[i]? = some x → x < n) (h2 : ∀ x, (srt l)[k]? = some x → n ≤ x) : n ∈ l ↔ (srt l)[k]? = some n := by
  rw [← (srt_perm l).mem_iff]
  constructor
  · intro h
    obtain ⟨i, hi⟩ := List.mem_iff_getElem?.1 h
    by_cases hik : i < k
    · exact absurd (h1 i n hik hi) (Nat.lt_irrefl _)
    · have hil : i < (srt l).length := by
        rcases Nat.lt_or_ge i (srt l).length with h | h
        · exact h
        · rw [List.getElem?_eq_none h] at hi; cases hi
      have hkl : k < (srt l).length := by omega
      have hkx := List.getElem?_eq_getElem hkl
      have hn := h2 _ hkx
      rcases Nat.lt_or_ge k i with hki | hki
      · have hle := (List.pairwise_iff_getElem.1 (srt_sorted l)) k i hkl hil hki
        have e := List.getElem?_eq_getElem hil
        rw [hi] at e
        have e2 := Option.some.inj e
        rw [hkx]; congr 1; omega
      · have : i = k := by omega
        rw [← this]; exact hi
  · intro h
    exact List.mem_of_getElem? h
theorem ba_ext {a b : ByteArray} (h : a.data.toList = b.data.toList) : a = b := ByteArray.ext (Array.ext' h)
theorem str_size (xs : List Int) : (str xs).size = xs.length := by
  show (str xs).data.size = _
  rw [← Array.length_toList, str_list, List.length_map]
theorem str_app (xs ys : List Int) : str (xs ++ ys) = str xs ++ str ys := by
  apply ba_ext
  rw [ByteArray.data_append, Array.toList_append, str_list, str_list, str_list, List.map_append]
theorem str_take (xs : List Int) (p : Nat) : (str xs).extract 0 p = str (xs.take p) := by
  apply ba_ext
  rw [ByteArray.data_extract, Array.toList_extract, str_list, str_list]
  simp [List.extract]
theorem str_drop (xs : List Int) (p : Nat) : (str xs).extract p xs.length = str (xs.drop p) := by
  apply ba_ext
  rw [ByteArray.data_extract, Array.toList_extract, str_list, str_list]
  simp [List.extract]
  rw [← List.map_drop, List.take_of_length_le (by simp)]
theorem str_splice (xs ys : List Int) (p : Nat) : str (splice xs p ys) = (str xs).extract 0 p ++ str ys ++ (str xs).extract (p + ys.length) xs.length := by
  unfold splice
  rw [str_app, str_app, str_take, str_drop, ByteArray.append_assoc]
theorem CSt.chs_srt (C : CSt) : C.chs = srt C.ch := rfl
theorem CSt.wr_chs_in {C : CSt} {no p : Nat} {ys : List Int} (h : no ∈ C.ch) : (C.wr no p ys).chs = C.chs := by
  unfold CSt.chs CSt.wr
  rw [if_pos h]
theorem CSt.wr_chs_out {C : CSt} {no p k : Nat} {ys : List Int} (h : no ∉ C.ch) (h1 : ∀ i x, i < k → C.chs[i]? = some x → x < no) (h2 : ∀ x, C.chs[k]? = some x → no ≤ x) : (C.wr no p ys).chs = C.chs.take k ++ no :: C.chs.drop k := by
  have := srt_insert (l := C.ch) h1 h2
  unfold CSt.wr
  rw [if_neg h]
  exact this
theorem CSt.chs_at {C : CSt} {no k : Nat} (h1 : ∀ i x, i < k → C.chs[i]? = some x → x < no) (h2 : ∀ x, C.chs[k]? = some x → no ≤ x) : no ∈ C.ch ↔ C.chs[k]? = some no := srt_mem (l := C.ch) h1 h2
theorem CSt.wr_view {C : CSt} {no p : Nat} {ys : List Int} (k : Nat) : (C.wr no p ys).view k = if k = no then splice (C.view no) p ys else C.view k := by
  unfold CSt.wr CSt.view
  by_cases hk : k = no
  · subst hk
    by_cases h : k ∈ C.ch <;> simp [h]
  · by_cases h : no ∈ C.ch <;> simp [h, hk]
end Go.Proofs.YtmafihodbbagbaaGreatDoor
