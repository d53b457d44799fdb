/- The sum of bytes. -/
/- The journal's head. -/
import Derived.Test.YtdmmlkkemceifaaGreatDoorPut
import Derived.Lib.BufferWrite
import Derived.Deep.RegionHeldLaw
namespace Go.Proofs.YtdmmlkkemceifaaGreatDoor
open Go.RowKit
set_option maxHeartbeats 1000000
set_option maxRecDepth 20000

/-- A slice value that reads as these rows of bytes. -/
def SS (w : World) (v : Value) (rows : List (List Int)) : Prop :=
  ∃ A c, v = .slice A rows.length c ∧ rows.length ≤ c ∧ c ≤ maxLen ∧ (rows ≠ [] → ∃ ad, A = some ad ∧ ∀ i ys, rows[i]? = some ys → ∃ u, w.cell? (ad.add i) = some u ∧ Sl w u ys)
def sumStep (n c : Int) : Int := IntKind.u64.wrap (bits BinOp.xor IntKind.u64 n (IntKind.u64.wrap c) * 1099511628211)
def sumRow (n : Int) (ys : List Int) : Int := ys.foldl sumStep n
def sumAll (rows : List (List Int)) : Int := rows.foldl sumRow 14695981039346656037
theorem sumRow_snoc (n : Int) (ys : List Int) (y : Int) : sumRow n (ys ++ [y]) = sumStep (sumRow n ys) y := by simp only [sumRow, List.foldl_append, List.foldl_cons, List.foldl_nil]
theorem sumAll_snoc (rows : List (List Int)) (ys : List Int) : sumAll (rows ++ [ys]) = sumRow (sumAll rows) ys := by simp only [sumAll, List.foldl_append, List.foldl_cons, List.foldl_nil]
theorem take_succ' {α : Type} {l : List α} {i : Nat} {x : α} (h : l[i]? = some x) : l.take (i + 1) = l.take i ++ [x] := by
  rw [List.take_add_one, h]; rfl

theorem sum_Parts {w : World} {v : Value} {rows : List (List Int)} (h : SS w v rows) :
    Calls Tryz.prog 107 #[v] w fun e w' => e = .returned (.int .u64 (sumAll rows)) ∧ w = w' := by
  obtain ⟨A, c, rfl, hc1, hc2, hA⟩ := h
  have HA := Lib.hid hA
  unfold maxLen at hc2
  clear hA
  go_enter Tryz.func107, Tryz.ntmps107
  go_wp2
  go_loop [3, 10] (fun x y => ∃ i : Nat, x = .int .u64 (sumAll (rows.take i)) ∧ y = .int .i64 (i : Nat) ∧ i ≤ rows.length) (fun _ y => rows.length - (intOf y).toNat)
  case atStart => exact ⟨0, rfl, rfl, by omega⟩
  case round =>
    obtain ⟨i, rfl, rfl, hi⟩ := hrel
    by_cases hlt : i < rows.length
    · have hz : (i : Int) < (rows.length : Int) := by omega
      have hz0 : (0 : Int) ≤ (i : Int) := by omega
      obtain ⟨ys, hys⟩ : ∃ ys, rows[i]? = some ys := ⟨_, List.getElem?_eq_getElem hlt⟩
      obtain ⟨ad, rfl, hcells⟩ := HA.out (by rintro rfl; simp at hlt)
      obtain ⟨u, c1, hu⟩ := hcells i ys hys
      obtain ⟨B, d, rfl, hd1, hd2, hB⟩ := hu
      have HB := Lib.hid hB
      have HT := Lib.hid (take_succ' hys)
      unfold maxLen at hd2
      clear hB hcells hys
      obtain ⟨n0, hn0⟩ : ∃ n0, n0 = sumAll (rows.take i) := ⟨_, rfl⟩
      rw [← hn0]
      have Hn0 := Lib.hid hn0
      clear hn0
      go_wp2
      go_loop [3, 16] (fun x y => ∃ j : Nat, x = .int .u64 (sumRow n0 (ys.take j)) ∧ y = .int .i64 (j : Nat) ∧ j ≤ ys.length) (fun _ y => ys.length - (intOf y).toNat)
      case atStart => exact ⟨0, rfl, rfl, by omega⟩
      case round =>
        obtain ⟨j, rfl, rfl, hj⟩ := hrel
        by_cases hjlt : j < ys.length
        · have hy : (j : Int) < (ys.length : Int) := by omega
          have hy0 : (0 : Int) ≤ (j : Int) := by omega
          obtain ⟨y, hyj⟩ : ∃ y, ys[j]? = some y := ⟨_, List.getElem?_eq_getElem hjlt⟩
          obtain ⟨ad2, rfl, hcell2⟩ := HB.out (by rintro rfl; simp at hjlt)
          have c2 := hcell2 j (.int .u8 y) (by simp [bs, hyj])
          have HT2 := Lib.hid (take_succ' hyj)
          clear hcell2 hyj
          obtain ⟨n1, hn1⟩ : ∃ n1, n1 = sumRow n0 (ys.take j) := ⟨_, rfl⟩
          rw [← hn1]
          have Hn1 := Lib.hid hn1
          clear hn1
          go_wp2
          go_round
          case rel => exact ⟨j + 1, by rw [HT2.out, sumRow_snoc, ← Hn1.out, sumStep], by go_num, by omega⟩
          case measure => simp [intOf]; omega
        · have hy : ¬ (j : Int) < (ys.length : Int) := by omega
          have hj2 : j = ys.length := by omega
          have hfin : sumRow n0 (ys.take j) = sumRow n0 ys := by rw [hj2, List.take_length]
          rw [hfin]
          have hall : sumRow n0 ys = sumRow n0 ys := rfl
          clear hj2 hfin hall
          go_wp2
          go_round
          case rel => exact ⟨i + 1, by rw [HT.out, sumAll_snoc, ← Hn0.out], by go_num, by omega⟩
          case measure => simp [intOf]; omega
    · have hz : ¬ (i : Int) < (rows.length : Int) := by omega
      have hi2 : i = rows.length := by omega
      have hfin : sumAll (rows.take i) = sumAll rows := by rw [hi2, List.take_length]
      rw [hfin]
      clear hi2 hfin
      go_wp2
      go_ret
      exact ⟨rfl, rfl⟩
theorem wrap_u64 (n : Int) : 0 ≤ IntKind.u64.wrap n ∧ IntKind.u64.wrap n < 18446744073709551616 := by
  rw [IntKind.wrap_u64]; omega
theorem sumRow_range (ys : List Int) : ∀ n : Int, 0 ≤ n ∧ n < 18446744073709551616 → 0 ≤ sumRow n ys ∧ sumRow n ys < 18446744073709551616 := by
  induction ys with
  | nil => intro n h; exact h
  | cons y ys ih => intro n _; exact ih _ (wrap_u64 _)
theorem sumAll_range (rows : List (List Int)) : 0 ≤ sumAll rows ∧ sumAll rows < 18446744073709551616 := by
  have : ∀ (rows : List (List Int)) (n : Int), 0 ≤ n ∧ n < 18446744073709551616 → 0 ≤ rows.foldl sumRow n ∧ rows.foldl sumRow n < 18446744073709551616 := by
    intro rows
    induction rows with
    | nil => intro n h; exact h
    | cons y ys ih => intro n h; exact ih _ (sumRow_range y n h)
  exact this rows _ (by omega)
end Go.Proofs.YtdmmlkkemceifaaGreatDoor
namespace Go.Proofs.YtdmmlkkemceifaaGreatDoor
open Go.RowKit
set_option maxHeartbeats 1000000
set_option maxRecDepth 20000

theorem Sl.fresh {F : Nat → Prop} {w w' : World} {v : Value} {ys : List Int} (h : Sl w v ys) (k : Kp F w w') (hf : ∀ b, F b → w.heap.size ≤ b) : Sl w' v ys := by
  obtain ⟨A, c, rfl, h1, h2, h3⟩ := h
  refine ⟨A, c, rfl, h1, h2, fun hn => ?_⟩
  obtain ⟨ad, rfl, h4⟩ := h3 hn
  refine ⟨ad, rfl, fun j u hj => ?_⟩
  have hc := h4 j u hj
  exact k.cell hc (fun hF => by have := hf _ hF; have := World.block_lt_of_cell? w _ hc; omega)
theorem SS.fresh {F : Nat → Prop} {w w' : World} {v : Value} {rows : List (List Int)} (h : SS w v rows) (k : Kp F w w') (hf : ∀ b, F b → w.heap.size ≤ b) : SS w' v rows := by
  obtain ⟨A, c, rfl, h1, h2, h3⟩ := h
  refine ⟨A, c, rfl, h1, h2, fun hn => ?_⟩
  obtain ⟨ad, rfl, h4⟩ := h3 hn
  refine ⟨ad, rfl, fun i ys hi => ?_⟩
  obtain ⟨u, hc, hu⟩ := h4 i ys hi
  exact ⟨u, k.cell hc (fun hF => by have := hf _ hF; have := World.block_lt_of_cell? w _ hc; omega), hu.fresh k hf⟩
/-- copy(b, s) of a constant string into a row of the call's own, from its first byte on. -/
theorem wpList_copyS {w : World} {ops : Array Oper} {rest : List Oper} {o : Oper} {a : Act} {Q : Exit → Act → World → Prop} (hgd : o.guard = none) (d s : Operand)
    (ho : o.op = .call { callee := .builtin .copy, args := #[d, s], argTypes := #[34, 9] })
    (g dl dc : Nat) (hd : a.eval d = .slice (some ⟨g, 0, none⟩) dl dc) (t : ByteArray) (hs : a.eval s = .string t) (xs ys : List Int) (hg : RowE w g xs) (hy : Lib.byteCells t.data.toList = bs ys) (hsz : t.size = ys.length) (hle : ys.length ≤ dl) (hfit : ys.length ≤ xs.length)
    (h : ∀ w', Kp (fun k => k = g) w w' → w'.heap.size = w.heap.size → RowE w' g (splice xs 0 ys) → wpList Tryz.prog ops Q rest (a.put o.dst (goInt ys.length)) w') :
    wpList Tryz.prog ops Q (o :: rest) a w := by
  obtain ⟨i, hi, hz, hsz2, hb⟩ := info_parts Tryz.infoU8
  have hsz' : (Tryz.prog.info? 5).map (·.size) = some 1 := by rw [hi]; simp [hsz2]
  refine wpList_plain hgd fun K hK => ?_
  have hrun := Lib.run_copy_row_string (P := Tryz.prog) w 34 9 o.type 5 g 0 dl dc t _ _ Tryz.underlying34 hsz' hg (by omega) (by simp; omega)
  unfold Oper.wp
  simp [execOp, ho, resolve, invoke, builtin, hd, hs, hrun, Result.andThen]
  rw [hsz]
  refine hK _ _ (h _ (setRow_kp w g _) (by simp) ?_)
  unfold RowE at hg ⊢
  rw [setRow_heap w g _ _ _ _ hg]
  congr 2
  simp [splice, hy, bs, List.map_drop]

def magicL : List Int := [99, 114, 101, 100, 101, 110, 122, 97]
/-- A group's head. -/
def headRow (n : Int) (rows : List (List Int)) : List Int := splice (splice (splice (zs 128) 0 magicL) 8 (le8 n)) 16 (le8 (sumAll rows))

theorem headRow_len (n : Int) (rows : List (List Int)) : (headRow n rows).length = 128 := by
  unfold headRow
  have l0 : (splice (zs 128) 0 magicL).length = 128 := by rw [length_splice _ _ _ (by decide), zs_length]
  have l1 : (splice (splice (zs 128) 0 magicL) 8 (le8 n)).length = 128 := by rw [length_splice _ _ _ (by rw [l0, le8_len]; omega), l0]
  rw [length_splice _ _ _ (by rw [l1, le8_len]; omega), l1]

theorem journal_head {w : World} {v : Value} {rows : List (List Int)} (h : SS w v rows) (n : Int) (h0 : 0 ≤ n) (h1 : n ≤ 9223372036854775807) :
    Calls Tryz.prog 71 #[.int .i64 n, v] w fun e w' => e = .returned (.slice (some ⟨w.heap.size, 0, none⟩) 128 128) ∧ RowE w' w.heap.size (headRow n rows) ∧ Kp (fun _ => False) w w' := by
  have H := Lib.hid h
  have hw : IntKind.u64.wrap n = n := IntWalk.u64_in n (by omega)
  have HR := Lib.hid (sumAll_range rows)
  have l0 : (splice (zs 128) 0 magicL).length = 128 := by rw [length_splice _ _ _ (by decide), zs_length]
  have L0 := Lib.hid l0
  have l1 : (splice (splice (zs 128) 0 magicL) 8 (le8 n)).length = 128 := by rw [length_splice _ _ _ (by rw [l0, le8_len]; omega), l0]
  have L1 := Lib.hid l1
  clear h l0 l1
  go_enter Tryz.func71, Tryz.ntmps71
  go_wp2_with (first | (at_make; refine wpList_make128 rfl rfl ?_) | ((with_reducible refine at_copy rfl ?_); (refine wpList_copyS rfl _ _ rfl w.heap.size 128 128 rfl _ rfl (zs 128) magicL (rowE_new w 128) rfl rfl (by decide) (by decide) ?_); intro w1 hk1 hs1 hr1))
  have Hk1 := Lib.hid ((Kp.alloc (F := fun _ => False) (Kp.refl _ _) (zrow 128)).trans (F1 := fun k => k = w.heap.size) hk1 (fun k hk => .inr (by simp only [] at hk; omega)))
  have Hs1 := Lib.hid hs1
  clear hk1 hs1
  refine (journal_put hr1 (by omega) (by rw [L0.out]; omega) n h0 (by omega)).mono ?_
  rintro e w2 ⟨rfl, hr2, hk2⟩
  have Hk2 := Lib.hid (Hk1.out.trans (F1 := fun k => k = w.heap.size) hk2 (fun k hk => .inr (by simp only [] at hk; omega)))
  have Hr2 := Lib.hid hr2
  clear hr1 hr2 hk2 Hk1
  go_wp2_with fail
  have hkk : Kp (fun k => k = w.heap.size) w2 w2 := Kp.refl _ _
  go_region_held_law (fun W => Kp (fun k => k = w.heap.size) w2 W)
    (first | exact Kp.refl _ _ | assumption | exact Kp.drew (by assumption) | exact Kp.trans (by assumption) (by assumption) (Gr.refl _ _))
    (first | (go_at_call 107; refine (sum_Parts (H.out.fresh (Hk2.out.trans (show Kp (fun k => k = w.heap.size) w2 _ by assumption) (fun k (hk : k = w.heap.size) => .inr (by omega))) (fun _ h => h.elim))).mono ?_; rintro e w3 ⟨rfl, rfl⟩) | (go_at_call 105; refine (journal_put (Hr2.out.kp (F := fun _ => False) (Kp.drew (Kp.refl _ _)) (fun h => h)) (by omega) (by rw [L1.out]; omega) (sumAll rows) HR.out.1 HR.out.2).mono ?_; rintro e w4 ⟨rfl, hr4, hk4⟩))
  have hend := Lib.hid (Hk2.out.trans (show Kp (fun k => k = w.heap.size) w2 w4 by assumption) (fun k (hk : k = w.heap.size) => .inr (by omega)))
  go_wp2_with fail
  go_ret
  exact ⟨rfl, hr4, hend.out⟩
end Go.Proofs.YtdmmlkkemceifaaGreatDoor
