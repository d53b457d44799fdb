/- Six inodes: how many blocks all have; bytes as they are written and read: plain laws. -/
import Derived.Test.YthjbpbahcemfgaaGreatDoorInoN
import Derived.Test.YthjbpbahcemfgaaGreatDoorText
import Derived.Test.YthjbpbahcemfgaaGreatDoorMadeC
import Derived.Deep.RegionHeldLaw
import Derived.Lib.SlBytesConst
namespace Go.Proofs.YthjbpbahcemfgaaGreatDoor
open Go.RowKit
set_option maxHeartbeats 1000000
set_option maxRecDepth 20000

/-- How many blocks all have. -/
def usedR (R : Nat → Nat × List Int) : Nat → Nat
  | 0 => 0
  | k + 1 => usedR R k + bks (R (k + 1)).2.length
def setR (R : Nat → Nat × List Int) (i : Nat) (r : Nat × List Int) : Nat → Nat × List Int := fun k => if k = i then r else R k
@[simp] theorem setR_same (R : Nat → Nat × List Int) (i : Nat) (r : Nat × List Int) : setR R i r i = r := by simp [setR]
theorem setR_other (R : Nat → Nat × List Int) {i k : Nat} (r : Nat × List Int) (h : k ≠ i) : setR R i r k = R k := by simp [setR, h]
theorem usedR_set (R : Nat → Nat × List Int) {i n : Nat} (r : Nat × List Int) (h1 : 1 ≤ i) (h2 : i ≤ n) : usedR (setR R i r) n + bks (R i).2.length = usedR R n + bks r.2.length := by
  induction n with
  | zero => omega
  | succ n ih =>
    rw [usedR, usedR]
    by_cases e : i = n + 1
    · subst e
      have : usedR (setR R (n + 1) r) n = usedR R n := by
        have : ∀ m, m ≤ n → usedR (setR R (n + 1) r) m = usedR R m := by
          intro m
          induction m with
          | zero => intro _; rfl
          | succ m ihm => intro hm; rw [usedR, usedR, ihm (by omega), setR_other _ _ (by omega)]
        exact this n (Nat.le_refl _)
      rw [this, setR_same]; omega
    · have := ih (by omega)
      rw [setR_other _ _ (by omega)]; omega

theorem it_used {wr : World} {bt bx bc bj bm bd nbl : Nat} {R : Nat → Nat × List Int} {C : CSt} {T : Nat → Nd} {F : Nat → Prop} (h : Tab wr bt bx bc bj bm bd 5 6 0 20 nbl C F T) (hR : ∀ k, 1 ≤ k → k ≤ 6 → (T k).kind = (R k).1 ∧ dataOf C.view (T k) = (R k).2) : frees (bitC C 0) nbl + usedR R 6 = nbl := by
  have h1 := h.ti.used
  have h2 : ∀ m, m ≤ 6 → (usedT T m).length = usedR R m := by
    intro m
    induction m with
    | zero => intro _; rfl
    | succ m ih =>
      intro hm
      rw [usedT, List.length_append, ih (by omega), usedR, bks_of (h.ti.ok (m + 1) (by omega) hm), ← data_len h (by omega) hm, (hR (m + 1) (by omega) hm).2]
  rw [h2 6 (Nat.le_refl _)] at h1
  exact h1
theorem setR_setR (R : Nat → Nat × List Int) (i : Nat) (a b : Nat × List Int) : setR (setR R i a) i b = setR R i b := by
  funext k; unfold setR; split <;> rfl
def R0 : Nat → Nat × List Int := fun _ => (0, [])
theorem used_one (k : Nat) (d : List Int) : usedR (setR R0 1 (k, d)) 6 = bks d.length := by
  have := usedR_set R0 (i := 1) (n := 6) (k, d) (by omega) (by omega)
  have h0 : usedR R0 6 = 0 := rfl
  have h1 : bks (R0 1).2.length = 0 := rfl
  have e : bks (k, d).2.length = bks d.length := rfl
  omega
theorem splice_eq {α : Type} (xs ys : List α) (p : Nat) : splice xs p ys = xs.take p ++ ys ++ xs.drop (p + ys.length) := by
  unfold splice; simp
theorem grownL_len (d : List Int) (k : Nat) : (grownL d k).length = max d.length k := by
  unfold grownL; split
  · omega
  · simp; omega
theorem grown_splice (d : List Int) (k : Nat) : splice (zs (max d.length k)) 0 d = grownL d k := by
  rw [splice_eq]
  unfold grownL zs
  simp only [List.take_zero, List.nil_append, Nat.zero_add, List.drop_replicate]
  split
  · rw [Nat.max_eq_left (by omega), Nat.sub_self]; simp
  · rw [Nat.max_eq_right (by omega)]
theorem wrAt_eq (d : List Int) (p : Nat) (ys : List Int) : wrAt d p ys = (grownL d (p + ys.length)).take p ++ ys ++ (grownL d (p + ys.length)).drop (p + ys.length) := by
  unfold wrAt
  rw [grown_splice, splice_eq]
theorem grownL_byt {d : List Int} (h : Byt d) (k : Nat) : Byt (grownL d k) := by
  rw [← grown_splice]; exact splice_byt (zs_byt _) h
theorem readAt_all (d : List Int) (m : Nat) (h : d.length ≤ m) : readAt d 0 m = d := by
  unfold readAt
  simp only [Nat.zero_min, List.drop_zero, Nat.sub_zero]
  rw [Nat.min_eq_right h, List.take_length]
theorem wpList_convSn {ops : Array Oper} {rest : List Oper} {o : Oper} {a : Act} {Q : Exit → Act → World → Prop} {w : World} (hgd : o.guard = none) (x : Operand) (ho : o.op = .convert 9 52 x) (ys : List Int) (n : Nat) (hn : ys.length = n) (hx : a.eval x = .string (str ys)) (hb : Byt ys) (hl : n ≤ maxLen)
    (h : ∀ w' c, Kp (fun _ => False) w w' → Sl w' (.slice (some ⟨w.heap.size, 0, none⟩) n c) ys → wpList Tryz.prog ops Q rest (a.put o.dst (.slice (some ⟨w.heap.size, 0, none⟩) n c)) w') : wpList Tryz.prog ops Q (o :: rest) a w := by
  subst hn
  exact wpList_convS hgd x ho ys hx hb hl fun w' c _ h2 h3 => h w' c h2 h3
theorem str_wr (d : List Int) (p k t : Nat) : (str ((grownL d (p + t)).take p) ++ str (textL k t)) ++ str ((grownL d (p + t)).drop (p + t)) = str (wrAt d p (textL k t)) := by
  rw [str_app, str_app, wrAt_eq, textL_length]
theorem cutAt_eq (d : List Int) (k : Nat) : cutAt d k = (grownL d k).take k := by
  unfold cutAt grownL zs
  rw [splice_eq]
  simp only [List.take_zero, List.nil_append, Nat.zero_add, List.drop_replicate, List.length_take]
  split
  · rw [Nat.min_eq_left (by assumption), Nat.sub_self]; simp
  · rw [Nat.min_eq_right (by omega), List.take_append, List.take_of_length_le (by omega : d.length ≤ k)]
    congr 1
    rw [List.take_of_length_le (by simp)]
theorem wrAt_nil (ys : List Int) : wrAt [] 0 ys = ys := by
  rw [wrAt_eq]
  unfold grownL zs
  split
  · rename_i h; simp at h; subst h; simp
  · simp
theorem cutAt_take (d : List Int) (k : Nat) (h : k ≤ d.length) : cutAt d k = d.take k := by
  rw [cutAt_eq]; unfold grownL; rw [if_pos h]
end Go.Proofs.YthjbpbahcemfgaaGreatDoor
