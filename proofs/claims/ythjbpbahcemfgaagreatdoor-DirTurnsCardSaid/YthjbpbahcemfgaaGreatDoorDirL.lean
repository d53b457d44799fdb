/- Records of names: plain laws. -/
import Derived.Test.YthjbpbahcemfgaaGreatDoorIU
import Derived.Test.YthjbpbahcemfgaaGreatDoorName
namespace Go.Proofs.YthjbpbahcemfgaaGreatDoor
open Go.RowKit
set_option maxHeartbeats 1000000
set_option maxRecDepth 20000

/-- What a directory's bytes are. -/
def dirRow : List Rc → List Int
  | [] => []
  | x :: l => recRow x ++ dirRow l
def AllOk (l : List Rc) : Prop := ∀ x ∈ l, RcOk x
theorem dirRow_len : ∀ {l : List Rc}, AllOk l → (dirRow l).length = 32 * l.length
  | [], _ => rfl
  | x :: l, h => by
    rw [dirRow, List.length_append, recRow_len (h x List.mem_cons_self).nm.hi, dirRow_len (l := l) (fun y hy => h y (List.mem_cons_of_mem _ hy)), List.length_cons]
    omega
theorem dirRow_app (a b : List Rc) : dirRow (a ++ b) = dirRow a ++ dirRow b := by
  induction a with
  | nil => rfl
  | cons x a ih => rw [List.cons_append, dirRow, dirRow, ih, List.append_assoc]
theorem dirRow_byt {l : List Rc} (h : AllOk l) : Byt (dirRow l) := by
  induction l with
  | nil => intro c hc; cases hc
  | cons x l ih =>
    intro c hc
    rw [dirRow, List.mem_append] at hc
    rcases hc with hc | hc
    · exact recRow_byt (h x List.mem_cons_self) c hc
    · exact ih (fun y hy => h y (List.mem_cons_of_mem _ hy)) c hc
theorem AllOk.take {l : List Rc} (h : AllOk l) (k : Nat) : AllOk (l.take k) := fun x hx => h x (List.mem_of_mem_take hx)
theorem AllOk.drop {l : List Rc} (h : AllOk l) (k : Nat) : AllOk (l.drop k) := fun x hx => h x (List.mem_of_mem_drop hx)
theorem AllOk.app {l : List Rc} (h : AllOk l) {x : Rc} (hx : RcOk x) : AllOk (l ++ [x]) := fun y hy => by
  rcases List.mem_append.1 hy with h1 | h1
  · exact h y h1
  · rw [List.mem_singleton.1 h1]; exact hx
theorem AllOk.set {l : List Rc} (h : AllOk l) {x : Rc} (hx : RcOk x) (i : Nat) : AllOk (l.set i x) := fun y hy => by
  rcases List.mem_or_eq_of_mem_set hy with h1 | h1
  · exact h y h1
  · rw [h1]; exact hx
theorem dirRow_split {l : List Rc} (h : AllOk l) (i : Nat) (hi : i ≤ l.length) : (dirRow l).take (32 * i) = dirRow (l.take i) ∧ (dirRow l).drop (32 * i) = dirRow (l.drop i) := by
  have e : dirRow l = dirRow (l.take i) ++ dirRow (l.drop i) := by rw [← dirRow_app, List.take_append_drop]
  have hl : (dirRow (l.take i)).length = 32 * i := by rw [dirRow_len (h.take i), List.length_take]; omega
  rw [e]
  constructor
  · rw [List.take_append_of_le_length (by omega), ← hl, List.take_length]
  · rw [← hl, List.drop_left]
/-- The k-th record. -/
theorem dirRow_at {l : List Rc} (h : AllOk l) {k : Nat} {x : Rc} (hx : l[k]? = some x) : ((dirRow l).drop (32 * k)).take 32 = recRow x := by
  have hk := (List.getElem?_eq_some_iff.1 hx).1
  rw [(dirRow_split h k (Nat.le_of_lt hk)).2]
  have : l.drop k = x :: l.drop (k + 1) := by
    rw [List.drop_eq_getElem_cons hk]
    rw [(List.getElem?_eq_some_iff.1 hx).2]
  rw [this, dirRow, List.take_append_of_le_length (by rw [recRow_len (h x (List.mem_of_getElem? hx)).nm.hi]; exact Nat.le_refl _), List.take_of_length_le (by rw [recRow_len (h x (List.mem_of_getElem? hx)).nm.hi]; exact Nat.le_refl _)]
/-- A record behind the others. -/
theorem dirRow_put {l : List Rc} (h : AllOk l) {x : Rc} (hx : RcOk x) : wrAt (dirRow l) (32 * l.length) (recRow x) = dirRow (l ++ [x]) := by
  have hl := dirRow_len h
  have hr := recRow_len hx.nm.hi
  rw [wrAt_eq, dirRow_app, hr]
  have e : grownL (dirRow l) (32 * l.length + 32) = dirRow l ++ zs 32 := by
    unfold grownL
    rw [if_neg (by omega), hl, show 32 * l.length + 32 - 32 * l.length = 32 by omega]
  rw [e, List.take_append_of_le_length (by omega), List.take_of_length_le (by omega), List.drop_of_length_le (by rw [List.length_append, zs_length]; omega)]
  simp [dirRow]
/-- A record in the place of another. -/
theorem dirRow_set {l : List Rc} (h : AllOk l) {x : Rc} (hx : RcOk x) {i : Nat} (hi : i < l.length) : wrAt (dirRow l) (32 * i) (recRow x) = dirRow (l.set i x) := by
  have hl := dirRow_len h
  have hr := recRow_len hx.nm.hi
  rw [wrAt_eq, hr]
  have e : grownL (dirRow l) (32 * i + 32) = dirRow l := by
    unfold grownL
    rw [if_pos (by omega)]
  rw [e, (dirRow_split h i (by omega)).1, show 32 * i + 32 = 32 * (i + 1) by omega, (dirRow_split h (i + 1) (by omega)).2, List.set_eq_take_append_cons_drop, if_pos hi, dirRow_app, dirRow, List.append_assoc]
theorem dirRow_cut {l : List Rc} (h : AllOk l) {m : Nat} (hm : m ≤ l.length) : cutAt (dirRow l) (32 * m) = dirRow (l.take m) := by
  have hl := dirRow_len h
  rw [cutAt_take _ _ (by omega), (dirRow_split h m hm).1]
/-- No name stands twice. -/
def Names (l : List Rc) : Prop := (l.map (·.s)).Nodup
end Go.Proofs.YthjbpbahcemfgaaGreatDoor
