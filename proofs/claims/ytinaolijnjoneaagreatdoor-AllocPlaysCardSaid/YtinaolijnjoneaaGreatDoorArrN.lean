/- n bools in memory; two slices of ints compared. -/
import Derived.Test.YtinaolijnjoneaaGreatDoorAllocG
import Derived.Test.YtinaolijnjoneaaGreatDoorOne
namespace Go.Proofs.YtinaolijnjoneaaGreatDoor
open Go.RowKit
set_option maxHeartbeats 2000000
set_option maxRecDepth 20000

/-- n bools in memory. -/
def arrN (n : Nat) (f : Nat → Bool) : Array Value := ((List.range n).map fun j => Value.bool (f j)).toArray
theorem arrN_get (n : Nat) (f : Nat → Bool) (j : Nat) (h : j < n) : (arrN n f)[j]? = some (.bool (f j)) := by simp [arrN, h]
theorem arrN_size (n : Nat) (f : Nat → Bool) : (arrN n f).size = n := by simp [arrN]
theorem arrN_set (n : Nat) (f : Nat → Bool) (q : Nat) (b : Bool) : (arrN n f).setIfInBounds q (.bool b) = arrN n (upd f q b) := by
  apply Array.ext_getElem?
  intro i
  rw [Array.getElem?_setIfInBounds]
  by_cases h : q = i
  · subst h
    by_cases h2 : q < n
    · rw [if_pos rfl, if_pos (by simpa [arrN] using h2), arrN_get _ _ _ h2]; simp
    · rw [if_pos rfl, if_neg (by simpa [arrN] using h2)]
      simp [arrN, h2]
  · rw [if_neg h]
    by_cases h2 : i < n
    · rw [arrN_get _ _ _ h2, arrN_get _ _ _ h2, upd_other _ _ (fun e => h e.symm)]
    · simp [arrN, h2]
theorem arrN_new (n : Nat) : (List.replicate n (Value.bool false)).toArray = arrN n fun _ => false := by
  apply Array.ext'
  simp only [arrN]
  exact (List.map_const' ..).symm ▸ by simp
theorem arrN_list (n : Nat) (f : Nat → Bool) : (arrN n f).toList = (List.range n).map fun j => Value.bool (f j) := by simp [arrN]
theorem Tryz.infoBool : (Tryz.prog.info? 4).map (fun i => (i.zero, i.size, i.bytes)) = some (some (.bool false), 1, 1) := by kernel_rfl
/-- make([]bool, n). -/
theorem make_bools (n : Nat) (hn : n ≤ 100000) (w : World) : (Instr.makeSlice 57 (.int .i64 (n : Int)) (.int .i64 (n : Int))).run Tryz.prog w
    = .ok (.slice (some ⟨w.heap.size, 0, none⟩) n n) (w.alloc (.cells (arrN n fun _ => false) 4)) := by
  obtain ⟨i, hi, hz, hs, hb⟩ := info_parts Tryz.infoBool
  have h := run_make (P := Tryz.prog) w 57 4 i (.bool false) Tryz.underlying57 hi hz .i64 .i64 n n (by omega) (by omega) (by rw [hb]; omega) (by omega)
  rw [h, hs]
  simp only [Value.cells, madeCells_one, Int.toNat_natCast, Nat.mul_one, arrN_new]

theorem bools_one (n : Nat) (f : Nat → Bool) : ∀ v ∈ (arrN n f).toList, v.oneCell' = true := by
  intro v hv
  rw [arrN_list] at hv
  obtain ⟨j, _, rfl⟩ := List.mem_map.1 hv
  rfl
/-- All the bools of one block over those of another. -/
theorem wpList_copyN {w : World} {ops : Array Oper} {rest : List Oper} {o : Oper} {a : Act} {Q : Exit → Act → World → Prop} (hgd : o.guard = none) (d s : Operand)
    (ho : o.op = .call { callee := .builtin .copy, args := #[d, s], argTypes := #[57, 57] }) (b1 b2 n : Nat) (f g : Nat → Bool)
    (hd : a.eval d = .slice (some ⟨b1, 0, none⟩) n n) (hs : a.eval s = .slice (some ⟨b2, 0, none⟩) n n) (h1 : w.heap[b1]? = some (.cells (arrN n f) 4 (0, 0))) (h2 : w.heap[b2]? = some (.cells (arrN n g) 4 (0, 0)))
    (h : ∀ w', Kp (fun k => k = b1) w w' → w'.heap[b1]? = some (.cells (arrN n g) 4 (0, 0)) → wpList Tryz.prog ops Q rest (a.put o.dst (goInt n)) w') : wpList Tryz.prog ops Q (o :: rest) a w := by
  obtain ⟨i, hi, hz, hsz, hb⟩ := info_parts Tryz.infoBool
  have hsz' : (Tryz.prog.info? 4).map (·.size) = some 1 := by rw [hi]; simp [hsz]
  have hl : (arrN n g).toList.length = n := by simp [arrN]
  have e : ((arrN n f).toList.take 0 ++ ((arrN n g).toList ++ (arrN n f).toList.drop (0 + (arrN n g).toList.length))).toArray = arrN n g := by
    apply Array.ext'
    simp [arrN]
  refine wpList_copy_own hgd d s _ _ ho 4 Tryz.underlying57 hsz' b1 0 n n ⟨b2, 0, none⟩ n n hd hs (arrN n f) _ h1 (arrN n g).toList (by rw [hl]; exact (Nat.min_self n).symm) ?_ (by rw [hl, arrN_size]; omega) (bools_one n g) ?_
  · intro j v hj
    rw [add0, cell_blk h2]
    simpa using hj
  · rw [e, hl]
    exact h _ (setRow_kp w b1 _) (setRow_heap w b1 _ (arrN n g) _ (0, 0) h1)

theorem ref_SameInts {w : World} {v u : Value} {xs : List Int} (hv : SlI w v xs) (hu : SlI w u xs) (hl : xs.length ≤ 100000) :
    Calls Tryz.prog 20 #[v, u] w fun e w' => e = .returned (.bool true) ∧ Kp (fun _ => False) w w' := by
  obtain ⟨A, c, rfl, _, _, hA⟩ := hv
  obtain ⟨B, d, rfl, _, _, hB⟩ := hu
  have HA := Lib.hid hA
  have HB := Lib.hid hB
  clear hA hB
  go_enter Tryz.func20, Tryz.ntmps20
  go_wp2
  go_loopw [5] (fun x wr => ∃ i : Nat, x = .int .i64 (i : Nat) ∧ i ≤ xs.length ∧ Kp (fun _ => False) w wr) (fun x _ => xs.length - (intOf x).toNat)
  case atStart => exact ⟨0, rfl, by omega, Kp.refl _ _⟩
  case round =>
    obtain ⟨i, rfl, hi, hk⟩ := hrel
    have Hk := Lib.hid hk
    by_cases hlt : i < xs.length
    · have hz : (i : Int) < (xs.length : Int) := by omega
      have hz0 : (0 : Int) ≤ (i : Int) := by omega
      obtain ⟨x, hx⟩ : ∃ x, xs[i]? = some x := ⟨_, List.getElem?_eq_getElem hlt⟩
      obtain ⟨ad1, rfl, h1⟩ := HA.out (by rintro rfl; simp at hlt)
      obtain ⟨ad2, rfl, h2⟩ := HB.out (by rintro rfl; simp at hlt)
      have c1 := hk.cell (h1 i (.int .i64 x) (by simp [ints, hx])) (fun h => h)
      have c2 := hk.cell (h2 i (.int .i64 x) (by simp [ints, hx])) (fun h => h)
      clear h1 h2 hx hk
      go_wp2_with fail
      go_quiet (fail)
      go_wp2_with fail
      go_roundw
      case rel => exact ⟨i + 1, by go_num, by omega, Hk.out.drewN _⟩
      case measure => simp [intOf]; omega
    · have hz : ¬ (i : Int) < (xs.length : Int) := by omega
      clear hk
      go_wp2
      go_ret
      exact ⟨rfl, Hk.out⟩
end Go.Proofs.YtinaolijnjoneaaGreatDoor
