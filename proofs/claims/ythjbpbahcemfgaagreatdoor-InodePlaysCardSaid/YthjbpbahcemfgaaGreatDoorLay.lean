/- The disk when it is dead. -/
/- Rows of bytes that are filled one by one. -/
/- The journal's numbers as bytes; the sum of bytes; its head. -/
/- The sum of bytes. -/
/- The journal's head. -/
/- The journal: blocks are laid where they belong. -/
import Derived.Test.YthjbpbahcemfgaaGreatDoorJrnl
import Derived.Test.YthjbpbahcemfgaaGreatDoorSl
import Derived.Test.YthjbpbahcemfgaaGreatDoorOpen
import Derived.Lib.BufferWrite
import Derived.Deep.RegionHeldLaw
namespace Go.Proofs.YthjbpbahcemfgaaGreatDoor
open Go.RowKit
set_option maxHeartbeats 1000000
set_option maxRecDepth 20000

theorem disk_may_dead {w : World} {bd : Nat} {D : DSt} {F : Nat → Prop} (h : DRep w bd D F) (i : Int) (h0 : 0 ≤ i) (hi : i < D.n) (hd : D.dead = true) :
    Calls Tryz.prog 138 #[.pointer (some ⟨bd, 0, none⟩), .int .i64 i, .bool true] w fun e w' => ∃ v, e = .returned v ∧ IsErr w' v [(tx [100, 105, 115, 107], tx (Lib.itoa i))] 50 ∧ Kp (fun _ => False) w w' := by
  obtain ⟨⟨bl, rows, h1, h2, h3, h4, h5⟩, ho, hl, hf, hg, hh, hc⟩ := h
  have c0 := cell_blk h1 0
  have c3 := cell_blk h1 3
  simp [hd] at c0 c3
  have HG := Lib.hid hg
  clear h1 h2 h5 hl hg hh hc
  go_enter Tryz.func138, Tryz.ntmps138
  go_wp2_with fail
  refine (disk_wrong _ _ _ HG.out (by omega) (by omega) (by decide)).mono ?_
  rintro e w1 ⟨v5, rfl, hv5, hk5⟩
  replace hv5 := Lib.hid hv5
  replace hk5 := Lib.hid hk5
  go_wp2_with fail
  go_ret
  exact ⟨v5, rfl, hv5.out, hk5.out⟩

theorem disk_Read_dead {w : World} {bd : Nat} {D : DSt} {F : Nat → Prop} (h : DRep w bd D F) (i : Int) (h0 : 0 ≤ i) (hi : i < D.n) (hd : D.dead = true) :
    Calls Tryz.prog 154 #[.pointer (some ⟨bd, 0, none⟩), .int .i64 i] w fun e w' => ∃ v, e = .returned (.tuple #[.slice none 0 0, v]) ∧ IsErr w' v [(tx [100, 105, 115, 107], tx (Lib.itoa i))] 50 ∧ Kp (fun _ => False) w w' := by
  have HM := Lib.hid (disk_may_dead h i h0 hi hd)
  clear h
  go_enter Tryz.func154, Tryz.ntmps154
  go_wp2_with fail
  refine HM.out.mono ?_
  rintro e w1 ⟨v5, rfl, hv5, hk5⟩
  obtain ⟨t5, x5, rfl⟩ := hv5.iface
  replace hv5 := Lib.hid hv5
  replace hk5 := Lib.hid hk5
  go_wp2_with fail
  go_ret2
  exact ⟨_, rfl, hv5.out, hk5.out⟩

theorem disk_Write_dead {w : World} {bd : Nat} {D : DSt} {F : Nat → Prop} (h : DRep w bd D F) (i : Int) (h0 : 0 ≤ i) (hi : i < D.n) (hd : D.dead = true)
    (v : Value) (ys : List Int) (hv : Sl w v ys) (hy : ys.length = 128) :
    Calls Tryz.prog 106 #[.pointer (some ⟨bd, 0, none⟩), .int .i64 i, v] w fun e w' => ∃ v, e = .returned v ∧ IsErr w' v [(tx [100, 105, 115, 107], tx (Lib.itoa i))] 50 ∧ Kp (fun _ => False) w w' := by
  have HM := Lib.hid (disk_may_dead h i h0 hi hd)
  obtain ⟨A, c, hve, hv1, hv2, hv3⟩ := id hv
  rw [hy] at hve hv1
  subst hve
  clear h hv hv3
  go_enter Tryz.func106, Tryz.ntmps106
  go_wp2_with fail
  refine HM.out.mono ?_
  rintro e w1 ⟨v5, rfl, hv5, hk5⟩
  obtain ⟨t5, x5, rfl⟩ := hv5.iface
  replace hv5 := Lib.hid hv5
  replace hk5 := Lib.hid hk5
  go_wp2_with fail
  go_ret
  exact ⟨_, rfl, hv5.out, hk5.out⟩
/-- A fuse that an int holds. -/
def DSt.Fz (D : DSt) : Prop := D.fuse ≤ 9223372036854775807 ∧ -9223372036854775808 ≤ D.fuse
theorem DSt.Fz.wr {D : DSt} (h : D.Fz) (i : Nat) (ys : List Int) : (D.wr i ys).Fz := by
  obtain ⟨h1, h2⟩ := h
  unfold DSt.Fz DSt.wr
  simp only
  split <;> omega
/-- The disk behind a Write, dead or not. -/
def DSt.put (D : DSt) (i : Nat) (ys : List Int) : DSt := if D.dead then D else D.wr i ys
/-- What a Write answers. -/
def DSt.tells (D : DSt) (i : Nat) : EV := if D.dead then some ([(tx [100, 105, 115, 107], tx (Lib.itoa i))], 50) else none
theorem DSt.Fz.put {D : DSt} (h : D.Fz) (i : Nat) (ys : List Int) : (D.put i ys).Fz := by
  unfold DSt.put; split
  · exact h
  · exact h.wr i ys
theorem DSt.put_n (D : DSt) (i : Nat) (ys : List Int) : (D.put i ys).n = D.n := by unfold DSt.put; split <;> rfl
theorem disk_Write_any {w : World} {bd : Nat} {D : DSt} {F : Nat → Prop} (h : DRep w bd D F) (hz : D.Fz) (i : Nat) (hi : i < D.n)
    (v : Value) (ys : List Int) (hv : Sl w v ys) (hy : ys.length = 128) :
    Calls Tryz.prog 106 #[.pointer (some ⟨bd, 0, none⟩), .int .i64 (i : Nat), v] w fun e w' => ∃ u, e = .returned u ∧ ErrV w' u (D.tells i) ∧
      ∃ F', DRep w' bd (D.put i ys) F' ∧ Kp F w w' ∧ Gr F F' w.heap.size ∧ KpD bd w w' := by
  cases hd : D.dead with
  | true =>
    refine (disk_Write_dead h i (by omega) (by omega) hd v ys hv hy).mono ?_
    rintro e w' ⟨u, rfl, hu, hk⟩
    refine ⟨u, rfl, by simpa [DSt.tells, hd, ErrV] using hu, F, by simpa [DSt.put, hd] using h.kp0 hk, hk.mono (fun _ h => h.elim), Gr.refl _ _, KpD.of0 hk⟩
  | false =>
    refine (disk_Write_ok h i (by omega) (by omega) hd hz.1 hz.2 v ys hv hy).mono ?_
    rintro e w' ⟨rfl, F', hr, hk, hg, hkd⟩
    refine ⟨_, rfl, by simp [DSt.tells, hd, ErrV], F', by simpa [DSt.put, hd] using hr, hk, hg, hkd⟩
end Go.Proofs.YthjbpbahcemfgaaGreatDoor
namespace Go.Proofs.YthjbpbahcemfgaaGreatDoor
open Go.RowKit
set_option maxHeartbeats 1000000
set_option maxRecDepth 20000

theorem RowE.cell {w : World} {g : Nat} {xs : List Int} (h : RowE w g xs) {i : Nat} {x : Int} (hx : xs[i]? = some x) : w.cell? ⟨g, i, none⟩ = some (.int .u8 x) := by
  rw [cell_blk h]; simp [bs, hx]
theorem RowE.set {w : World} {g : Nat} {xs : List Int} (h : RowE w g xs) (i : Nat) (x : Int) : RowE (w.setCell ⟨g, i, none⟩ (.int .u8 x)) g (xs.set i x) := by
  unfold RowE at h ⊢
  rw [set_blk h]
  congr 2
  simp [bs, List.map_set]
/-- A row whose first i bytes are told by f, the others are noughts. -/
def part (f : Nat → Int) (i : Nat) : List Int := (List.range 128).map fun k => if k < i then f k else 0
theorem part_get (f : Nat → Int) (i k : Nat) (h : k < 128) : (part f i)[k]? = some (if k < i then f k else 0) := by simp [part, h]
theorem part_len (f : Nat → Int) (i : Nat) : (part f i).length = 128 := by simp [part]
theorem part_zero (f : Nat → Int) : part f 0 = zs 128 := by
  apply List.ext_getElem?
  intro k
  rw [zs, List.getElem?_replicate]
  by_cases h : k < 128
  · rw [part_get _ _ _ h]; simp [h]
  · rw [List.getElem?_eq_none (by simp [part]; omega), if_neg h]
theorem part_step (f : Nat → Int) (i : Nat) (hi : i < 128) : (part f i).set i (f i) = part f (i + 1) := by
  apply List.ext_getElem?
  intro k
  by_cases h : k < 128
  · rw [List.getElem?_set, part_get _ _ _ h, part_len]
    by_cases e : i = k
    · subst e; rw [part_get _ _ _ h]; simp [hi]
    · rw [if_neg e, part_get _ _ _ h]
      have : (k < i + 1) ↔ (k < i) := by omega
      simp [this]
  · rw [List.getElem?_eq_none (by simp [part_len]; omega), List.getElem?_eq_none (by simp [part_len]; omega)]
/-- What Fill gives. -/
def fillAt (n i : Nat) : Int := ((n + i * (n / 256)) % 256 : Nat)
theorem and7 : ∀ q : Fin 8, bits .and .i64 ((q.1 : Nat) : Int) 7 = ((q.1 : Nat) : Int) := by decide +kernel
def fillRow (n : Nat) : List Int := part (fillAt n) 128
end Go.Proofs.YthjbpbahcemfgaaGreatDoor
namespace Go.Proofs.YthjbpbahcemfgaaGreatDoor
open Go.RowKit
set_option maxHeartbeats 1000000
set_option maxRecDepth 20000

/-- A number's eight bytes. -/
def le8 (n : Int) : List Int := (List.range 8).map fun i => n / 2 ^ (8 * i) % 256
theorem le8_len (n : Int) : (le8 n).length = 8 := by simp [le8]
theorem le8_get (n : Int) (i : Nat) (h : i < 8) : (le8 n)[i]? = some (n / 2 ^ (8 * i) % 256) := by simp [le8, h]
theorem le8_byte (n : Int) : ∀ x ∈ le8 n, 0 ≤ x ∧ x ≤ 255 := by
  intro x hx
  obtain ⟨i, _, rfl⟩ := List.mem_map.1 hx
  omega
theorem splice_getQ {α : Type} (xs ys : List α) (off k : Nat) (h : off + ys.length ≤ xs.length) : (splice xs off ys)[k]? = if off ≤ k ∧ k < off + ys.length then ys[k - off]? else xs[k]? := by
  unfold splice
  by_cases h1 : k < off
  · rw [List.getElem?_append_left (by rw [List.length_take]; omega), List.getElem?_take, if_pos h1, if_neg (by omega)]
  · rw [List.getElem?_append_right (by rw [List.length_take]; omega), List.length_take, Nat.min_eq_left (by omega)]
    by_cases h2 : k < off + ys.length
    · rw [if_pos ⟨by omega, h2⟩, List.getElem?_append_left (by omega)]
    · rw [if_neg (by omega), List.getElem?_append_right (by omega), List.getElem?_drop]
      congr 1
      omega
theorem splice_set {α : Type} (xs ys : List α) (off i : Nat) (y : α) (hy : ys[i]? = some y) (h : off + ys.length ≤ xs.length) : (splice xs off (ys.take i)).set (off + i) y = splice xs off (ys.take (i + 1)) := by
  have hi := (List.getElem?_eq_some_iff.1 hy).1
  have l1 : (ys.take i).length = i := by rw [List.length_take]; omega
  have l2 : (ys.take (i + 1)).length = i + 1 := by rw [List.length_take]; omega
  apply List.ext_getElem?
  intro k
  rw [List.getElem?_set, splice_getQ _ _ _ _ (by omega), splice_getQ _ _ _ _ (by omega), l1, l2, length_splice _ _ _ (by omega)]
  by_cases e : off + i = k
  · subst e
    rw [if_pos rfl, if_pos (by omega), if_pos (by omega), List.getElem?_take, if_pos (by omega), show off + i - off = i by omega, hy]
  · rw [if_neg e, List.getElem?_take, List.getElem?_take]
    by_cases h2 : off ≤ k ∧ k < off + i
    · rw [if_pos h2, if_pos (by omega), if_pos (by omega), if_pos (by omega)]
    · rw [if_neg h2, if_neg (by omega)]

theorem journal_put {w : World} {g off len c : Nat} {xs : List Int} (h : RowE w g xs) (hl : 8 ≤ len) (hx : off + 8 ≤ xs.length) (n : Int) (_h0 : 0 ≤ n) (_h1 : n < 18446744073709551616) :
    Calls Tryz.prog 137 #[.slice (some ⟨g, off, none⟩) len c, .int .u64 n] w fun e w' => e = .returned (.tuple #[]) ∧ RowE w' g (splice xs off (le8 n)) ∧ Kp (fun k => k = g) w w' := by
  have H := Lib.hid h
  clear h
  go_enter Tryz.func137, Tryz.ntmps137
  go_wp2
  go_loopw [5] (fun x wr => ∃ i : Nat, x = .int .i64 (i : Nat) ∧ i ≤ 8 ∧ RowE wr g (splice xs off ((le8 n).take i)) ∧ Kp (fun k => k = g) w wr) (fun x _ => 8 - (intOf x).toNat)
  case atStart => exact ⟨0, rfl, by omega, by have := H.out; simpa [splice] using this, Kp.refl _ _⟩
  case round =>
    obtain ⟨i, rfl, hi, hr, hk⟩ := hrel
    have Hr := Lib.hid hr
    have Hk := Lib.hid hk
    by_cases hlt : i < 8
    · have hz : (i : Int) < 8 := by omega
      have hz0 : (0 : Int) ≤ (i : Int) := by omega
      have hz1 : (i : Int) < (len : Int) := by omega
      have hg := splice_getQ xs ((le8 n).take i) off (off + i) (by rw [List.length_take, le8_len]; omega)
      rw [if_neg (by rw [List.length_take, le8_len]; omega)] at hg
      obtain ⟨y, hy⟩ : ∃ y, xs[off + i]? = some y := ⟨_, List.getElem?_eq_getElem (by omega)⟩
      rw [hy] at hg
      have c1 := hr.cell hg
      have f1 := frozen_blk hr (off + i)
      have Hx := Lib.hid hx
      clear hr hk hg hy hx
      go_wp2
      go_roundw
      case rel =>
        refine ⟨i + 1, by go_num, by omega, ?_, Kp.setCell (F := fun k => k = g) Hk.out (.inl rfl) _⟩
        rw [← splice_set _ _ _ _ _ (le8_get n i hlt) (by rw [le8_len]; exact Hx.out)]
        exact Hr.out.set _ _
      case measure => simp [intOf]; omega
    · have hz : ¬ (i : Int) < 8 := by omega
      have hi8 : i = 8 := by omega
      clear hr hk
      go_wp2
      go_end0
      refine ⟨rfl, ?_, Hk.out⟩
      have := Hr.out
      rw [hi8, List.take_of_length_le (by rw [le8_len]; omega)] at this
      exact this
theorem le_le8 (n : Int) (h0 : 0 ≤ n) (h1 : n < 18446744073709551616) : le 8 (le8 n) = n := by
  simp only [le, le8, List.range, List.range.loop, List.map_cons, List.map_nil, List.getD_cons_succ, List.getD_cons_zero]
  simp only [Nat.mul_zero, Nat.reduceMul, Nat.mul_one, Int.reducePow]
  omega
end Go.Proofs.YthjbpbahcemfgaaGreatDoor
namespace Go.Proofs.YthjbpbahcemfgaaGreatDoor
open Go.RowKit
set_option maxHeartbeats 1000000
set_option maxRecDepth 20000

/-- A slice value that reads as these rows of bytes. -/
def SS (w : World) (v : Value) (rows : List (List Int)) : Prop :=
  ∃ A c, v = .slice A rows.length c ∧ rows.length ≤ c ∧ c ≤ maxLen ∧ (rows ≠ [] → ∃ ad, A = some ad ∧ ∀ i ys, rows[i]? = some ys → ∃ u, w.cell? (ad.add i) = some u ∧ Sl w u ys)
def sumStep (n c : Int) : Int := IntKind.u64.wrap (bits BinOp.xor IntKind.u64 n (IntKind.u64.wrap c) * 1099511628211)
def sumRow (n : Int) (ys : List Int) : Int := ys.foldl sumStep n
def sumAll (rows : List (List Int)) : Int := rows.foldl sumRow 14695981039346656037
theorem sumRow_snoc (n : Int) (ys : List Int) (y : Int) : sumRow n (ys ++ [y]) = sumStep (sumRow n ys) y := by simp only [sumRow, List.foldl_append, List.foldl_cons, List.foldl_nil]
theorem sumAll_snoc (rows : List (List Int)) (ys : List Int) : sumAll (rows ++ [ys]) = sumRow (sumAll rows) ys := by simp only [sumAll, List.foldl_append, List.foldl_cons, List.foldl_nil]
theorem take_succ' {α : Type} {l : List α} {i : Nat} {x : α} (h : l[i]? = some x) : l.take (i + 1) = l.take i ++ [x] := by
  rw [List.take_add_one, h]; rfl

theorem sum_Parts {w : World} {v : Value} {rows : List (List Int)} (h : SS w v rows) :
    Calls Tryz.prog 139 #[v] w fun e w' => e = .returned (.int .u64 (sumAll rows)) ∧ w = w' := by
  obtain ⟨A, c, rfl, hc1, hc2, hA⟩ := h
  have HA := Lib.hid hA
  unfold maxLen at hc2
  clear hA
  go_enter Tryz.func139, Tryz.ntmps139
  go_wp2
  go_loop [3, 10] (fun x y => ∃ i : Nat, x = .int .u64 (sumAll (rows.take i)) ∧ y = .int .i64 (i : Nat) ∧ i ≤ rows.length) (fun _ y => rows.length - (intOf y).toNat)
  case atStart => exact ⟨0, rfl, rfl, by omega⟩
  case round =>
    obtain ⟨i, rfl, rfl, hi⟩ := hrel
    by_cases hlt : i < rows.length
    · have hz : (i : Int) < (rows.length : Int) := by omega
      have hz0 : (0 : Int) ≤ (i : Int) := by omega
      obtain ⟨ys, hys⟩ : ∃ ys, rows[i]? = some ys := ⟨_, List.getElem?_eq_getElem hlt⟩
      obtain ⟨ad, rfl, hcells⟩ := HA.out (by rintro rfl; simp at hlt)
      obtain ⟨u, c1, hu⟩ := hcells i ys hys
      obtain ⟨B, d, rfl, hd1, hd2, hB⟩ := hu
      have HB := Lib.hid hB
      have HT := Lib.hid (take_succ' hys)
      unfold maxLen at hd2
      clear hB hcells hys
      obtain ⟨n0, hn0⟩ : ∃ n0, n0 = sumAll (rows.take i) := ⟨_, rfl⟩
      rw [← hn0]
      have Hn0 := Lib.hid hn0
      clear hn0
      go_wp2
      go_loop [3, 16] (fun x y => ∃ j : Nat, x = .int .u64 (sumRow n0 (ys.take j)) ∧ y = .int .i64 (j : Nat) ∧ j ≤ ys.length) (fun _ y => ys.length - (intOf y).toNat)
      case atStart => exact ⟨0, rfl, rfl, by omega⟩
      case round =>
        obtain ⟨j, rfl, rfl, hj⟩ := hrel
        by_cases hjlt : j < ys.length
        · have hy : (j : Int) < (ys.length : Int) := by omega
          have hy0 : (0 : Int) ≤ (j : Int) := by omega
          obtain ⟨y, hyj⟩ : ∃ y, ys[j]? = some y := ⟨_, List.getElem?_eq_getElem hjlt⟩
          obtain ⟨ad2, rfl, hcell2⟩ := HB.out (by rintro rfl; simp at hjlt)
          have c2 := hcell2 j (.int .u8 y) (by simp [bs, hyj])
          have HT2 := Lib.hid (take_succ' hyj)
          clear hcell2 hyj
          obtain ⟨n1, hn1⟩ : ∃ n1, n1 = sumRow n0 (ys.take j) := ⟨_, rfl⟩
          rw [← hn1]
          have Hn1 := Lib.hid hn1
          clear hn1
          go_wp2
          go_round
          case rel => exact ⟨j + 1, by rw [HT2.out, sumRow_snoc, ← Hn1.out, sumStep], by go_num, by omega⟩
          case measure => simp [intOf]; omega
        · have hy : ¬ (j : Int) < (ys.length : Int) := by omega
          have hj2 : j = ys.length := by omega
          have hfin : sumRow n0 (ys.take j) = sumRow n0 ys := by rw [hj2, List.take_length]
          rw [hfin]
          have hall : sumRow n0 ys = sumRow n0 ys := rfl
          clear hj2 hfin hall
          go_wp2
          go_round
          case rel => exact ⟨i + 1, by rw [HT.out, sumAll_snoc, ← Hn0.out], by go_num, by omega⟩
          case measure => simp [intOf]; omega
    · have hz : ¬ (i : Int) < (rows.length : Int) := by omega
      have hi2 : i = rows.length := by omega
      have hfin : sumAll (rows.take i) = sumAll rows := by rw [hi2, List.take_length]
      rw [hfin]
      clear hi2 hfin
      go_wp2
      go_ret
      exact ⟨rfl, rfl⟩
theorem wrap_u64 (n : Int) : 0 ≤ IntKind.u64.wrap n ∧ IntKind.u64.wrap n < 18446744073709551616 := by
  rw [IntKind.wrap_u64]; omega
theorem sumRow_range (ys : List Int) : ∀ n : Int, 0 ≤ n ∧ n < 18446744073709551616 → 0 ≤ sumRow n ys ∧ sumRow n ys < 18446744073709551616 := by
  induction ys with
  | nil => intro n h; exact h
  | cons y ys ih => intro n _; exact ih _ (wrap_u64 _)
theorem sumAll_range (rows : List (List Int)) : 0 ≤ sumAll rows ∧ sumAll rows < 18446744073709551616 := by
  have : ∀ (rows : List (List Int)) (n : Int), 0 ≤ n ∧ n < 18446744073709551616 → 0 ≤ rows.foldl sumRow n ∧ rows.foldl sumRow n < 18446744073709551616 := by
    intro rows
    induction rows with
    | nil => intro n h; exact h
    | cons y ys ih => intro n h; exact ih _ (sumRow_range y n h)
  exact this rows _ (by omega)
end Go.Proofs.YthjbpbahcemfgaaGreatDoor
namespace Go.Proofs.YthjbpbahcemfgaaGreatDoor
open Go.RowKit
set_option maxHeartbeats 1000000
set_option maxRecDepth 20000

theorem Sl.fresh {F : Nat → Prop} {w w' : World} {v : Value} {ys : List Int} (h : Sl w v ys) (k : Kp F w w') (hf : ∀ b, F b → w.heap.size ≤ b) : Sl w' v ys := by
  obtain ⟨A, c, rfl, h1, h2, h3⟩ := h
  refine ⟨A, c, rfl, h1, h2, fun hn => ?_⟩
  obtain ⟨ad, rfl, h4⟩ := h3 hn
  refine ⟨ad, rfl, fun j u hj => ?_⟩
  have hc := h4 j u hj
  exact k.cell hc (fun hF => by have := hf _ hF; have := World.block_lt_of_cell? w _ hc; omega)
theorem SS.fresh {F : Nat → Prop} {w w' : World} {v : Value} {rows : List (List Int)} (h : SS w v rows) (k : Kp F w w') (hf : ∀ b, F b → w.heap.size ≤ b) : SS w' v rows := by
  obtain ⟨A, c, rfl, h1, h2, h3⟩ := h
  refine ⟨A, c, rfl, h1, h2, fun hn => ?_⟩
  obtain ⟨ad, rfl, h4⟩ := h3 hn
  refine ⟨ad, rfl, fun i ys hi => ?_⟩
  obtain ⟨u, hc, hu⟩ := h4 i ys hi
  exact ⟨u, k.cell hc (fun hF => by have := hf _ hF; have := World.block_lt_of_cell? w _ hc; omega), hu.fresh k hf⟩
/-- copy(b, s) of a constant string into a row of the call's own, from its first byte on. -/
theorem wpList_copyS {w : World} {ops : Array Oper} {rest : List Oper} {o : Oper} {a : Act} {Q : Exit → Act → World → Prop} (hgd : o.guard = none) (d s : Operand)
    (ho : o.op = .call { callee := .builtin .copy, args := #[d, s], argTypes := #[52, 9] })
    (g dl dc : Nat) (hd : a.eval d = .slice (some ⟨g, 0, none⟩) dl dc) (t : ByteArray) (hs : a.eval s = .string t) (xs ys : List Int) (hg : RowE w g xs) (hy : Lib.byteCells t.data.toList = bs ys) (hsz : t.size = ys.length) (hle : ys.length ≤ dl) (hfit : ys.length ≤ xs.length)
    (h : ∀ w', Kp (fun k => k = g) w w' → w'.heap.size = w.heap.size → RowE w' g (splice xs 0 ys) → wpList Tryz.prog ops Q rest (a.put o.dst (goInt ys.length)) w') :
    wpList Tryz.prog ops Q (o :: rest) a w := by
  obtain ⟨i, hi, hz, hsz2, hb⟩ := info_parts Tryz.infoU8
  have hsz' : (Tryz.prog.info? 5).map (·.size) = some 1 := by rw [hi]; simp [hsz2]
  refine wpList_plain hgd fun K hK => ?_
  have hrun := Lib.run_copy_row_string (P := Tryz.prog) w 52 9 o.type 5 g 0 dl dc t _ _ Tryz.underlying52 hsz' hg (by omega) (by simp; omega)
  unfold Oper.wp
  simp [execOp, ho, resolve, invoke, builtin, hd, hs, hrun, Result.andThen]
  rw [hsz]
  refine hK _ _ (h _ (setRow_kp w g _) (by simp) ?_)
  unfold RowE at hg ⊢
  rw [setRow_heap w g _ _ _ _ hg]
  congr 2
  simp [splice, hy, bs, List.map_drop]

def magicL : List Int := [99, 114, 101, 100, 101, 110, 122, 97]
/-- A group's head. -/
def headRow (n : Int) (rows : List (List Int)) : List Int := splice (splice (splice (zs 128) 0 magicL) 8 (le8 n)) 16 (le8 (sumAll rows))

theorem headRow_len (n : Int) (rows : List (List Int)) : (headRow n rows).length = 128 := by
  unfold headRow
  have l0 : (splice (zs 128) 0 magicL).length = 128 := by rw [length_splice _ _ _ (by decide), zs_length]
  have l1 : (splice (splice (zs 128) 0 magicL) 8 (le8 n)).length = 128 := by rw [length_splice _ _ _ (by rw [l0, le8_len]; omega), l0]
  rw [length_splice _ _ _ (by rw [l1, le8_len]; omega), l1]

theorem journal_head {w : World} {v : Value} {rows : List (List Int)} (h : SS w v rows) (n : Int) (h0 : 0 ≤ n) (h1 : n ≤ 9223372036854775807) :
    Calls Tryz.prog 108 #[.int .i64 n, v] w fun e w' => e = .returned (.slice (some ⟨w.heap.size, 0, none⟩) 128 128) ∧ RowE w' w.heap.size (headRow n rows) ∧ Kp (fun _ => False) w w' := by
  have H := Lib.hid h
  have hw : IntKind.u64.wrap n = n := IntWalk.u64_in n (by omega)
  have HR := Lib.hid (sumAll_range rows)
  have l0 : (splice (zs 128) 0 magicL).length = 128 := by rw [length_splice _ _ _ (by decide), zs_length]
  have L0 := Lib.hid l0
  have l1 : (splice (splice (zs 128) 0 magicL) 8 (le8 n)).length = 128 := by rw [length_splice _ _ _ (by rw [l0, le8_len]; omega), l0]
  have L1 := Lib.hid l1
  clear h l0 l1
  go_enter Tryz.func108, Tryz.ntmps108
  go_wp2_with (first | (at_make; refine wpList_make128 rfl rfl ?_) | ((with_reducible refine at_copy rfl ?_); (refine wpList_copyS rfl _ _ rfl w.heap.size 128 128 rfl _ rfl (zs 128) magicL (rowE_new w 128) rfl rfl (by decide) (by decide) ?_); intro w1 hk1 hs1 hr1))
  have Hk1 := Lib.hid ((Kp.alloc (F := fun _ => False) (Kp.refl _ _) (zrow 128)).trans (F1 := fun k => k = w.heap.size) hk1 (fun k hk => .inr (by simp only [] at hk; omega)))
  have Hs1 := Lib.hid hs1
  clear hk1 hs1
  refine (journal_put hr1 (by omega) (by rw [L0.out]; omega) n h0 (by omega)).mono ?_
  rintro e w2 ⟨rfl, hr2, hk2⟩
  have Hk2 := Lib.hid (Hk1.out.trans (F1 := fun k => k = w.heap.size) hk2 (fun k hk => .inr (by simp only [] at hk; omega)))
  have Hr2 := Lib.hid hr2
  clear hr1 hr2 hk2 Hk1
  go_wp2_with fail
  have hkk : Kp (fun k => k = w.heap.size) w2 w2 := Kp.refl _ _
  go_region_held_law (fun W => Kp (fun k => k = w.heap.size) w2 W)
    (first | exact Kp.refl _ _ | assumption | exact Kp.drew (by assumption) | exact Kp.trans (by assumption) (by assumption) (Gr.refl _ _))
    (first | (go_at_call 139; refine (sum_Parts (H.out.fresh (Hk2.out.trans (show Kp (fun k => k = w.heap.size) w2 _ by assumption) (fun k (hk : k = w.heap.size) => .inr (by omega))) (fun _ h => h.elim))).mono ?_; rintro e w3 ⟨rfl, rfl⟩) | (go_at_call 137; refine (journal_put (Hr2.out.kp (F := fun _ => False) (Kp.drew (Kp.refl _ _)) (fun h => h)) (by omega) (by rw [L1.out]; omega) (sumAll rows) HR.out.1 HR.out.2).mono ?_; rintro e w4 ⟨rfl, hr4, hk4⟩))
  have hend := Lib.hid (Hk2.out.trans (show Kp (fun k => k = w.heap.size) w2 w4 by assumption) (fun k (hk : k = w.heap.size) => .inr (by omega)))
  go_wp2_with fail
  go_ret
  exact ⟨rfl, hr4, hend.out⟩
end Go.Proofs.YthjbpbahcemfgaaGreatDoor
namespace Go.Proofs.YthjbpbahcemfgaaGreatDoor
open Go.RowKit
set_option maxHeartbeats 1000000
set_option maxRecDepth 20000

/-- The disk behind some Writes; the first that fails ends them. -/
def DSt.runs (D : DSt) : List (Nat × List Int) → EV × DSt
  | [] => (none, D)
  | x :: l => if D.dead then (some ([(tx [100, 105, 115, 107], tx (Lib.itoa (x.1 : Int)))], 50), D) else (D.wr x.1 x.2).runs l
theorem DSt.runs_Fz : ∀ (l : List (Nat × List Int)) {D : DSt}, D.Fz → (D.runs l).2.Fz
  | [], _, h => h
  | x :: l, D, h => by
    unfold DSt.runs
    split
    · exact h
    · exact DSt.runs_Fz l (h.wr _ _)
theorem DSt.runs_n : ∀ (l : List (Nat × List Int)) (D : DSt), (D.runs l).2.n = D.n
  | [], _ => rfl
  | x :: l, D => by
    unfold DSt.runs
    split
    · rfl
    · rw [DSt.runs_n l]; rfl
theorem DSt.runs_app : ∀ (l m : List (Nat × List Int)) (D : DSt), D.runs (l ++ m) = if (D.runs l).1 = none then (D.runs l).2.runs m else D.runs l
  | [], m, D => by simp [DSt.runs]
  | x :: l, m, D => by
    rw [List.cons_append, DSt.runs, DSt.runs]
    cases hd : D.dead with
    | true => simp
    | false => simpa using DSt.runs_app l m _
theorem DSt.runs_none {D : DSt} {l : List (Nat × List Int)} (h : (D.runs l).1 = none) (x : Nat × List Int) : D.runs (l ++ [x]) = ((D.runs l).2.tells x.1, (D.runs l).2.put x.1 x.2) := by
  rw [DSt.runs_app, if_pos h, DSt.runs, DSt.tells, DSt.put]
  cases (D.runs l).2.dead <;> rfl

theorem DSt.runs_stop {D : DSt} {l m : List (Nat × List Int)} {i : Nat} {x : Nat × List Int} (hn : (D.runs (l.take i)).1 = none) (hx : l[i]? = some x) (hd : (D.runs (l.take i)).2.dead = true) : D.runs (l ++ m) = ((D.runs (l.take i)).2.tells x.1, (D.runs (l.take i)).2) := by
  have e : l ++ m = l.take i ++ (x :: (l.drop (i + 1) ++ m)) := by
    have h1 : l = l.take i ++ l.drop i := (List.take_append_drop i l).symm
    have h2 : l.drop i = x :: l.drop (i + 1) := by
      obtain ⟨hlt, he⟩ := List.getElem?_eq_some_iff.1 hx
      rw [List.drop_eq_getElem_cons hlt, he]
    calc l ++ m = (l.take i ++ l.drop i) ++ m := by rw [← h1]
      _ = _ := by rw [h2]; simp
  rw [e, DSt.runs_app, if_pos hn, DSt.runs, if_pos hd, DSt.tells, if_pos hd]

/-- A slice of blocks to be written. -/
def BS (w : World) (v : Value) (l : List (Nat × List Int)) : Prop :=
  ∃ A c, v = .slice A l.length c ∧ l.length ≤ c ∧ c ≤ maxLen ∧ (l ≠ [] → ∃ g off, A = some ⟨g, off, none⟩ ∧ ∀ i no ys, l[i]? = some (no, ys) → w.cell? ⟨g, off + i * 2, none⟩ = some (.int .i64 (no : Nat)) ∧ ∃ u, w.cell? ⟨g, off + i * 2 + 1, none⟩ = some u ∧ Sl w u ys)

theorem KpD.blk {w W : World} {bd : Nat} {D : DSt} {F : Nat → Prop} (h : DRep w bd D F) (k : KpD bd w W) {b : Nat} {o : Obj} (hb : w.heap[b]? = some o) (h1 : ∀ cs fr, o ≠ .cells cs 195 fr) (h2 : ∀ cs fr, o ≠ .cells cs 52 fr) : W.heap[b]? = some o := by
  obtain ⟨bl, rows, e1, e2, _⟩ := h.ex
  have hL : DL w bd bl := ⟨D.n, by rw [cell_blk e1]; rfl⟩
  refine (k bl hL).1.blk hb ?_
  rintro (rfl | rfl)
  · rw [e1] at hb; cases hb; exact h1 _ _ rfl
  · rw [e2] at hb; cases hb; exact h2 _ _ rfl
theorem JBlk.kpD {w W : World} {bj bd at_ most : Nat} {D : DSt} {F : Nat → Prop} (hj : JBlk w bj bd at_ most) (h : DRep w bd D F) (k : KpD bd w W) : JBlk W bj bd at_ most :=
  k.blk h hj (by intro cs fr e; injection e with _ e2; exact absurd e2 (by decide)) (by intro cs fr e; injection e with _ e2; exact absurd e2 (by decide))

theorem journal_lay {w : World} {bj bd at_ most : Nat} {D : DSt} {F : Nat → Prop} (hj : JBlk w bj bd at_ most) (h : DRep w bd D F) (hz : D.Fz) (v : Value) (l : List (Nat × List Int)) (hl : ∀ W, KpD bd w W → BS W v l)
    (hin : ∀ x ∈ l, x.1 < D.n ∧ x.2.length = 128) (hat : at_ < D.n) (hll : l.length ≤ 2048) :
    Calls Tryz.prog 109 #[.pointer (some ⟨bj, 0, none⟩), v] w fun e w' => ∃ u, e = .returned u ∧ ErrV w' u (D.runs (l ++ [(at_, zs 128)])).1 ∧
      ∃ F', DRep w' bd (D.runs (l ++ [(at_, zs 128)])).2 F' ∧ Kp F w w' ∧ Gr F F' w.heap.size ∧ KpD bd w w' := by
  obtain ⟨A, c, rfl, hc1, hc2, _⟩ := hl w (KpD.of0 (Kp.refl _ _))
  unfold maxLen at hc2
  have HJ := Lib.hid hj
  have H := Lib.hid h
  have Hz := Lib.hid hz
  have HL := Lib.hid hl
  have Hin := Lib.hid hin
  clear hj h hz hl hin
  go_enter Tryz.func109, Tryz.ntmps109
  go_wp2
  go_loopw [10] (fun x wr => ∃ (i : Nat) (F' : Nat → Prop), x = .int .i64 (i : Nat) ∧ i ≤ l.length ∧ (D.runs (l.take i)).1 = none ∧ DRep wr bd (D.runs (l.take i)).2 F' ∧ Kp F w wr ∧ Gr F F' w.heap.size ∧ KpD bd w wr) (fun x _ => l.length - (intOf x).toNat)
  case atStart => exact ⟨0, F, rfl, by omega, rfl, H.out, Kp.refl _ _, Gr.refl _ _, KpD.of0 (Kp.refl _ _)⟩
  case round =>
    obtain ⟨i, F1, rfl, hi, hnone, hD, hk, hg, hkd⟩ := hrel
    have HD := Lib.hid hD
    have Hk := Lib.hid hk
    have Hg := Lib.hid hg
    have Hkd := Lib.hid hkd
    have Hnone := Lib.hid hnone
    have cj := HJ.out.kpD H.out hkd
    have c0 := cell_blk cj 0
    have c1 := cell_blk cj 1
    simp at c0 c1
    obtain ⟨A', c', e', _, _, hcells⟩ := HL.out wr hkd
    cases e'
    by_cases hlt : i < l.length
    · have hy : (i : Int) < (l.length : Int) := by omega
      have hy0 : (0 : Int) ≤ (i : Int) := by omega
      obtain ⟨x, hx⟩ : ∃ x, l[i]? = some x := ⟨_, List.getElem?_eq_getElem hlt⟩
      obtain ⟨no, ys⟩ := x
      obtain ⟨g, off, rfl, hcell⟩ := hcells (by rintro rfl; simp at hlt)
      obtain ⟨ca, u, cb, hu⟩ := hcell i no ys hx
      have Hu := Lib.hid hu
      have hino := Hin.out _ (List.mem_of_getElem? hx)
      have Hx := Lib.hid hx
      obtain ⟨Au, cu, hue, _, _, _⟩ := id hu
      rw [hino.2] at hue
      subst hue
      have Hino := Lib.hid hino
      have hino1 := hino.1
      clear hino
      clear hcells hcell hu hx hD hk hg hkd hnone cj
      go_wp2_with fail
      have HDa := Lib.hid (HD.out.kp0 ((Kp.refl _ _).alloc (.cells #[.int .i64 (no : Nat), .slice Au 128 cu] 131)))
      have Hua := Lib.hid (Hu.out.kp (F := fun _ => False) ((Kp.refl _ _).alloc (.cells #[.int .i64 (no : Nat), .slice Au 128 cu] 131)) (fun _ _ h => h))
      have nb := new_blk wr (.cells #[.int .i64 (no : Nat), .slice Au 128 cu] 131)
      have ka : KpD bd wr (wr.alloc (.cells #[.int .i64 (no : Nat), .slice Au 128 cu] 131)) := KpD.of0 ((Kp.refl _ _).alloc _)
      have hl0 : ∀ W : World, KpD bd (wr.alloc (.cells #[.int .i64 (no : Nat), .slice Au 128 cu] 131)) W → W.cell? ⟨bj, 0, none⟩ = some (.pointer (some ⟨bd, 0, none⟩)) := fun W hW => by
        have := cell_blk (HJ.out.kpD H.out ((Hkd.out.trans ka).trans hW)) 0
        simpa using this
      have hb2 : ∀ W : World, KpD bd (wr.alloc (.cells #[.int .i64 (no : Nat), .slice Au 128 cu] 131)) W → W.heap[wr.heap.size]? = some (.cells #[.int .i64 (no : Nat), .slice Au 128 cu] 131 (0, 0)) := fun W hW =>
        hW.blk HDa.out nb (by intro cs fr e; injection e with _ e2; exact absurd e2 (by decide)) (by intro cs fr e; injection e with _ e2; exact absurd e2 (by decide))
      have hl1 : ∀ W : World, KpD bd (wr.alloc (.cells #[.int .i64 (no : Nat), .slice Au 128 cu] 131)) W → W.cell? ⟨wr.heap.size, 0, none⟩ = some (.int .i64 (no : Nat)) := fun W hW => by rw [cell_blk (hb2 W hW)]; rfl
      have hl2 : ∀ W : World, KpD bd (wr.alloc (.cells #[.int .i64 (no : Nat), .slice Au 128 cu] 131)) W → W.cell? ⟨wr.heap.size, 1, none⟩ = some (.slice Au 128 cu) := fun W hW => by rw [cell_blk (hb2 W hW)]; rfl
      have Hka := Lib.hid ((Kp.refl F wr).alloc (.cells #[.int .i64 (no : Nat), .slice Au 128 cu] 131))
      have Hkad := Lib.hid ka
      generalize hwa : wr.alloc (.cells #[.int .i64 (no : Nat), .slice Au 128 cu] 131) = wa at *
      generalize wr.heap.size = b at *
      clear hwa hb2 nb ka HD Hu ca cb c0 c1
      have HZ := Lib.hid (DSt.runs_Fz (l.take i) Hz.out)
      have HN := Lib.hid (DSt.runs_n (l.take i) D)
      have HR := Lib.hid (DSt.runs_none Hnone.out (no, ys))
      have hkk : KpD bd wa wa := KpD.of0 (Kp.refl _ _)
      have hsz := Hka.out.size
      go_region_held_law (fun W => KpD bd wa W)
        (first | assumption | exact KpD.of0 ((Kp.refl _ _).drew) | exact KpD.trans (by assumption) (by assumption) | exact KpD.trans (KpD.of0 ((Kp.refl _ _).drew)) (by assumption))
        (first | (go_at_call 106; refine (disk_Write_any (HDa.out.kp0 ((Kp.refl _ _).drew)) HZ.out no (by rw [HN.out]; exact hino1) _ ys (Hua.out.kp (F := fun _ => False) ((Kp.refl _ _).drew) (fun _ _ h => h)) Hino.out.2).mono ?_; rintro e w5 ⟨u5, rfl, hu5, F5, hr5, hk5, hg5, hkd5⟩))
      have kD5 := Lib.hid ((Hkd.out.trans Hkad.out).trans (show KpD bd wa w5 by assumption))
      have k5 := Lib.hid (((Hk.out.trans Hka.out (Gr.refl _ _)).drew).trans hk5 Hg.out)
      have g5 := Lib.hid (Hg.out.trans hg5 (Nat.le_trans Hk.out.size hsz))
      have R5 := Lib.hid hr5
      have U5 := Lib.hid hu5
      clear hkd5 hk5 hg5 hr5 hu5 hl0 hl1 hl2 hkk HDa Hua
      cases hd : (D.runs (l.take i)).2.dead with
      | true =>
        have hu := U5.out
        simp only [DSt.tells, hd, if_true, ErrV] at hu
        obtain ⟨t5, x5, rfl⟩ := hu.iface
        have hs := Lib.hid (DSt.runs_stop (m := [(at_, zs 128)]) Hnone.out Hx.out hd)
        have hp : (D.runs (l.take i)).2.put no ys = (D.runs (l.take i)).2 := by simp [DSt.put, hd]
        have R6 := Lib.hid (hp ▸ R5.out)
        clear hu hd hp
        go_wp2_with fail
        go_ret
        rw [hs.out]
        exact ⟨_, rfl, U5.out, F5, R6.out, k5.out, g5.out, kD5.out⟩
      | false =>
        have hu := U5.out
        simp only [DSt.tells, hd, ErrV] at hu
        have ht : (D.runs (l.take i)).2.tells no = none := by simp [DSt.tells, hd]
        have HT := Lib.hid ht
        have hu' : u5 = .nilIface := by simpa using hu
        subst hu'
        clear hu ht hd
        go_wp2_with fail
        go_roundw
        case rel => exact ⟨i + 1, F5, by go_num, by omega, by rw [take_succ' Hx.out, HR.out]; exact HT.out, by rw [take_succ' Hx.out, HR.out]; exact R5.out, k5.out, g5.out, kD5.out⟩
        case measure => simp [intOf]; omega
    · have hy : ¬ (i : Int) < (l.length : Int) := by omega
      have hil : l.take i = l := by rw [show i = l.length by omega, List.take_length]
      rw [hil] at hD hnone
      have HD := Lib.hid hD
      have HR := Lib.hid (DSt.runs_none hnone (at_, zs 128))
      have HZ := Lib.hid (DSt.runs_Fz l Hz.out)
      have HN := Lib.hid (DSt.runs_n l D)
      have hl0 : ∀ W : World, KpD bd wr W → W.cell? ⟨bj, 0, none⟩ = some (.pointer (some ⟨bd, 0, none⟩)) := fun W hW => by
        have := cell_blk (HJ.out.kpD H.out (Hkd.out.trans hW)) 0
        simpa using this
      have hl1 : ∀ W : World, KpD bd wr W → W.cell? ⟨bj, 1, none⟩ = some (.int .i64 (at_ : Nat)) := fun W hW => by
        have := cell_blk (HJ.out.kpD H.out (Hkd.out.trans hW)) 1
        simpa using this
      have hm7 := make128
      clear hcells hD hk hg hkd hnone cj hil c0 c1
      go_wp2_with fail
      have hkk : KpD bd wr wr := KpD.of0 (Kp.refl _ _)
      go_region_held_law (fun W => KpD bd wr W)
        (first | assumption | exact KpD.of0 ((Kp.refl _ _).drew) | exact KpD.of0 (((Kp.refl _ _).alloc _).drew) | exact KpD.of0 (((Kp.refl _ _).drew).alloc _) | exact KpD.trans (by assumption) (by assumption) | exact KpD.trans (KpD.of0 (((Kp.refl _ _).alloc _).drew)) (by assumption))
        (first | (go_at_call 106; refine (disk_Write_any (HD.out.kp0 (((Kp.refl _ _).alloc (zrow 128)).drew)) HZ.out at_ (by rw [HN.out]; exact hat) _ (zs 128) (((row_new wr 128).kp (F := fun _ => False) ((Kp.refl _ _).drew) (fun h => h)).sl 128 (by simp) (by simp [maxLen])) (by simp)).mono ?_; rintro e w5 ⟨u5, rfl, hu5, F5, hr5, hk5, hg5, hkd5⟩))
      have kD5 := Lib.hid (Hkd.out.trans (show KpD bd wr w5 by assumption))
      have k5 := Lib.hid (((Hk.out.alloc (zrow 128)).drew).trans hk5 Hg.out)
      have g5 := Lib.hid (Hg.out.trans hg5 (by have := Hk.out.size; have := size_alloc wr (zrow 128); show _ ≤ (wr.alloc (zrow 128)).heap.size; omega))
      have R5 := Lib.hid hr5
      have U5 := Lib.hid hu5
      clear hkd5 hk5 hg5 hr5 hu5 hl0 hl1 hkk HD
      go_wp2_with fail
      go_ret
      rw [HR.out]
      exact ⟨_, rfl, U5.out, F5, R5.out, k5.out, g5.out, kD5.out⟩
end Go.Proofs.YthjbpbahcemfgaaGreatDoor
