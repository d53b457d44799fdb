/- dir.parse and dir.row's bytes, where the record is one. -/
/- dir.row's bytes. -/
import Derived.Test.YthjbpbahcemfgaaGreatDoorName
import Derived.Lib.LazyBuf
import Derived.Deep.RegionHeldLaw
namespace Go.Proofs.YthjbpbahcemfgaaGreatDoor
open Go.RowKit
set_option maxHeartbeats 2000000
set_option maxRecDepth 20000

theorem run_lohi_i {W : World} {A : Option Addr} {m c i j : Nat} {lo hi : Int} (e1 : lo = (i : Int)) (e2 : hi = (j : Int)) (hij : i ≤ j) (hj : j ≤ c) : (Instr.sliceAt 52 (.slice A m c) (some (.int .i64 lo)) (some (.int .i64 hi)) none).run Tryz.prog W = .ok (.slice (A.map fun a => if c = i then a else a.add i) (j - i) (c - i)) W := by
  rw [e1, e2]; exact run_lohi_b hij hj
theorem rec_get (x : Rc) (hx : x.s.length ≤ 27) : (recRow x)[0]? = some (x.s.length : Int) ∧ (∀ k, k < x.s.length → (recRow x)[1 + k]? = x.s[k]?) ∧ (∀ k, k < 27 - x.s.length → (recRow x)[1 + x.s.length + k]? = some 0) ∧ (∀ k, k < 3 → (recRow x)[28 + k]? = some 0) ∧ (recRow x)[31]? = some (x.id : Int) := by
  unfold recRow
  refine ⟨rfl, fun k hk => ?_, fun k hk => ?_, fun k hk => ?_, ?_⟩
  · rw [List.append_assoc, List.getElem?_append_left (by simp; omega), show 1 + k = k + 1 by omega, List.getElem?_cons_succ]
  · rw [List.append_assoc, List.getElem?_append_right (by simp; omega), List.length_cons, show 1 + x.s.length + k - (x.s.length + 1) = k by omega, List.getElem?_append_left (by rw [zs_length]; exact hk)]
    unfold zs
    rw [List.getElem?_replicate, if_pos hk]
  · rw [List.getElem?_append_right (by simp [zs_length]; omega), List.length_append, List.length_cons, zs_length, show 28 + k - (x.s.length + 1 + (27 - x.s.length)) = k by omega]
    rcases (show k = 0 ∨ k = 1 ∨ k = 2 by omega) with rfl | rfl | rfl <;> rfl
  · rw [List.getElem?_append_right (by simp [zs_length]; omega), List.length_append, List.length_cons, zs_length, show 31 - (x.s.length + 1 + (27 - x.s.length)) = 3 by omega]
    rfl
theorem sl_cell {w : World} {g o n c : Nat} {ys : List Int} (h : Sl w (.slice (some ⟨g, o, none⟩) n c) ys) {j : Nat} {y : Int} (hj : ys[j]? = some y) : w.cell? ⟨g, o + j, none⟩ = some (.int .u8 y) := by
  obtain ⟨A, c', e, _, _, h3⟩ := h
  have hne : ys ≠ [] := fun e => by rw [e] at hj; simp at hj
  obtain ⟨ad, rfl, h4⟩ := h3 hne
  simp only [Value.slice.injEq, Option.some.injEq] at e
  obtain ⟨rfl, _, _⟩ := e
  have := h4 j (.int .u8 y) (by simp [bs, hj])
  rwa [Addr.add_lit] at this
theorem or0 (i : Nat) (h : i ≤ 255) : bits .or .i64 0 (i : Int) = (i : Int) := by
  have : ∀ k : Fin 256, bits .or .i64 0 (k.1 : Int) = (k.1 : Int) := by decide +kernel
  exact this ⟨i, by omega⟩
theorem setCell_step {w W : World} {p i : Nat} {u : Value} (h : Kp (fun b => b = p) w W) : Kp (fun b => b = p) w (W.setCell ⟨p, i, none⟩ u) := h.setCell (p := ⟨p, i, none⟩) (.inl rfl) u
def RS (wr : World) (p : Nat) (W : World) : Prop := Kp (fun b => b = p) wr W ∧ ∃ a b, W.heap[p]? = some (.cells #[a, b] 86 (0, 0))
theorem RS.drew {wr W : World} {p : Nat} (h : RS wr p W) : RS wr p W.drew := ⟨h.1.drew, h.2⟩
theorem RS.set2 {wr W : World} {p : Nat} (h : RS wr p W) (u v : Value) : RS wr p ((W.setCell ⟨p, 0, none⟩ u).setCell ⟨p, 1, none⟩ v) := by
  obtain ⟨h1, a, b, h2⟩ := h
  have h3 := set_blk h2 0 u
  have h4 := set_blk h3 1 v
  exact ⟨setCell_step (setCell_step h1), _, _, by simpa using h4⟩
theorem RS.c0 {wr W : World} {p : Nat} (h : RS wr p W) : W.cell? ⟨p, 0, none⟩ = some ((W.cell? ⟨p, 0, none⟩).getD undef) := by
  obtain ⟨h1, a, b, h2⟩ := h
  rw [cell_blk h2]; rfl
theorem RS.c1 {wr W : World} {p : Nat} (h : RS wr p W) : W.cell? ⟨p, 1, none⟩ = some ((W.cell? ⟨p, 1, none⟩).getD undef) := by
  obtain ⟨h1, a, b, h2⟩ := h
  rw [cell_blk h2]; rfl
theorem RS.f0 {wr W : World} {p : Nat} (h : RS wr p W) : W.frozen? ⟨p, 0, none⟩ = false := by
  obtain ⟨h1, a, b, h2⟩ := h
  exact frozen_blk h2 0
theorem RS.f1 {wr W : World} {p : Nat} (h : RS wr p W) : W.frozen? ⟨p, 1, none⟩ = false := by
  obtain ⟨h1, a, b, h2⟩ := h
  exact frozen_blk h2 1
def LeH (w : World) (k : Nat) : Prop := w.heap.size ≤ k
theorem dir_parse {w : World} {x : Rc} (hx : RcOk x) (g o : Nat) (hs : Sl w (.slice (some ⟨g, o, none⟩) 32 32) (recRow x)) :
    Calls Tryz.prog 75 #[.slice (some ⟨g, o, none⟩) 32 32] w fun e w' => e = .returned (.tuple #[.agg #[.string (str x.s), .int .i64 x.id], .bool true]) ∧ Kp (fun _ => False) w w' := by
  have h27 := hx.nm.hi
  have h1 := hx.nm.lo
  have hid := hx.hi
  have hid1 := hx.lo
  obtain ⟨r0, r1, r2, r3, r4⟩ := rec_get x h27
  have HN := Lib.hid (fun (W : World) => name_Ok (w := W) x.s hx.nm)
  have hl32 := recRow_len h27
  have HC := Lib.hid (fun (j : Nat) (y : Int) (h : (recRow x)[j]? = some y) => sl_cell hs h)
  have Hconv := Lib.hid (fun (W : World) (hk : Kp (fun _ => False) w W) => conv_str (w := W) (v := .slice (some ⟨g, o + 1, none⟩) x.s.length 31) (ys := x.s) ⟨some ⟨g, o + 1, none⟩, 31, rfl, by omega, by unfold maxLen; omega, fun _ => ⟨_, rfl, fun j u hj => by
    obtain ⟨y, hy, rfl⟩ := bs_get _ _ _ hj
    have hlt := (List.getElem?_eq_some_iff.1 hy).1
    have := HC.out (1 + j) y ((r1 j hlt).trans hy)
    rw [Addr.add_lit, show o + 1 + j = o + (1 + j) by omega]
    exact hk.cell this (fun h => h)⟩⟩)
  have C0 := Lib.hid (HC.out 0 _ r0)
  have CZ := Lib.hid (fun (k : Nat) (hk : k < 27 - x.s.length) => HC.out _ _ (r2 k hk))
  have CI := Lib.hid (fun (k : Nat) (hk : k < 3) => HC.out _ _ (r3 k hk))
  have CL := Lib.hid (HC.out _ _ r4)
  have HNg := Lib.hid (show g < w.heap.size from World.block_lt_of_cell? w _ C0.out)
  clear hs r0 r1 r2 r3 r4 HC hx hl32
  generalize x.s.length = n at *
  generalize x.id = i at *
  generalize str x.s = S at *
  have n27 : ¬ (27 : Int) < (n : Int) := by omega
  have q0 : IntKind.i64.wrap (n : Int) = (n : Int) := IntWalk.i64_in _ (by omega)
  have q1 : IntKind.i64.wrap (1 + (n : Int)) = 1 + (n : Int) := IntWalk.i64_in _ (by omega)
  have HS1 := Lib.hid (fun (W : World) => show (Instr.sliceAt 52 (.slice (some ⟨g, o, none⟩) 32 32) (some (.int .i64 1)) (some (.int .i64 (1 + (n : Int)))) none).run Tryz.prog W = .ok (.slice (some ⟨g, o + 1, none⟩) n 31) W by
    have := run_lohi_i (W := W) (A := some ⟨g, o, none⟩) (m := 32) (c := 32) (i := 1) (j := 1 + n) (lo := 1) (hi := 1 + (n : Int)) rfl (by omega) (by omega) (by omega)
    rw [this]
    simp [Addr.add])
  have HS2 := Lib.hid (fun (W : World) => show (Instr.sliceAt 52 (.slice (some ⟨g, o, none⟩) 32 32) (some (.int .i64 (1 + (n : Int)))) (some (.int .i64 28)) none).run Tryz.prog W = .ok (.slice (some ⟨g, o + (1 + n), none⟩) (27 - n) (31 - n)) W by
    have := run_lohi_i (W := W) (A := some ⟨g, o, none⟩) (m := 32) (c := 32) (i := 1 + n) (j := 28) (lo := 1 + (n : Int)) (hi := 28) (by omega) rfl (by omega) (by omega)
    rw [this, show 28 - (1 + n) = 27 - n by omega, show 32 - (1 + n) = 31 - n by omega]
    simp [Addr.add, show ¬ 32 = 1 + n by omega])
  have HS3 := Lib.hid (fun (W : World) => show (Instr.sliceAt 52 (.slice (some ⟨g, o, none⟩) 32 32) (some (.int .i64 28)) (some (.int .i64 32)) none).run Tryz.prog W = .ok (.slice (some ⟨g, o + 28, none⟩) 4 4) W by
    have := run_lohi_i (W := W) (A := some ⟨g, o, none⟩) (m := 32) (c := 32) (i := 28) (j := 32) (lo := 28) (hi := 32) rfl rfl (by omega) (by omega)
    rw [this]
    simp [Addr.add])
  go_enter Tryz.func75, Tryz.ntmps75
  go_upto_region 1 with fail
  have hk1 := (Kp.refl (fun _ => False) w).alloc (.cells #[.string { data := #[] }, .int .i64 0] 86)
  have HP1 := Lib.hid (new_blk w (.cells #[.string { data := #[] }, .int .i64 0] 86))
  have HK1 := Lib.hid hk1
  have c0 := hk1.cell C0.out (fun h => h)
  rw [Nat.add_zero] at c0
  have hcv := Hconv.out _ hk1
  clear hk1
  generalize w.alloc (.cells #[.string { data := #[] }, .int .i64 0] 86) = w1 at *
  have Hp1 : Hid (w.heap.size < w1.heap.size) := lt_blk HP1.out
  go_upto_region 5 with ((with_reducible refine at_slice rfl ?_); refine wpList_slice_run rfl _ _ _ _ _ rfl _ _ _ _ _ rfl rfl rfl rfl (HS1.out _) ?_)
  clear hcv c0
  have HP2 := Lib.hid (new_blk w1 (.cells #[.string S, .int .i64 0] 86))
  have hk2 := HK1.out.trans ((Kp.refl (fun _ => False) w1).alloc (.cells #[.string S, .int .i64 0] 86)) (Gr.refl _ _)
  have HK2 := Lib.hid hk2
  have HP1' := Lib.hid (((Kp.refl (fun _ => False) w1).alloc (.cells #[.string S, .int .i64 0] 86)).blk HP1.out (fun h => h))
  clear hk2
  generalize w1.alloc (.cells #[.string S, .int .i64 0] 86) = w2 at *
  have Hws : LeH w w.heap.size := Nat.le_refl _
  generalize w.heap.size = p1 at *
  generalize w1.heap.size = p2 at *
  go_wp2_with ((with_reducible refine at_slice rfl ?_); refine wpList_slice_run rfl _ _ _ _ _ rfl _ _ _ _ _ rfl rfl rfl rfl (HS2.out _) ?_)
  go_loopw [7, 28] (fun _ k wr => ∃ j : Nat, k = .int .i64 j ∧ j ≤ 27 - n ∧ wr = w2) (fun _ k _ => 27 - n - (intOf k).toNat)
  case atStart => exact ⟨0, rfl, Nat.zero_le _, rfl⟩
  case round =>
    obtain ⟨j, rfl, hj, rfl⟩ := hrel
    by_cases hlt : j < 27 - n
    · have hltz : (j : Int) < ((27 - n : Nat) : Int) := by omega
      have c0 := HK2.out.cell (CZ.out j hlt) (fun h => h)
      rw [← Nat.add_assoc] at c0
      go_wp2_with fail
      go_roundw
      case rel => exact ⟨j + 1, by go_num, by omega, trivial⟩
      case measure => simp [intOf]; omega
    · have hltz : ¬ (j : Int) < ((27 - n : Nat) : Int) := by omega
      clear hlt hj
      go_wp2_with ((with_reducible refine at_slice rfl ?_); refine wpList_slice_run rfl _ _ _ _ _ rfl _ _ _ _ _ rfl rfl rfl rfl (HS3.out _) ?_)
      clear hltz
      generalize wr = w3 at *
      go_loopw [9, 39] (fun _ k W => ∃ j : Nat, k = .int .i64 j ∧ j ≤ 4 ∧ Kp (fun b => b = p2) w3 W ∧ W.heap[p2]? = some (.cells #[.string S, .int .i64 (if j = 4 then (i : Int) else 0)] 86 (0, 0))) (fun _ k _ => 4 - (intOf k).toNat)
      case atStart => exact ⟨0, rfl, Nat.zero_le _, Kp.refl _ _, HP2.out⟩
      case round =>
        obtain ⟨j, rfl, hj, hkp, hbx⟩ := hrel
        have Hkp := Lib.hid hkp
        have Hbx := Lib.hid hbx
        have d0 := cell_blk hbx 0
        have d1 := cell_blk hbx 1
        have f1 := frozen_blk hbx 1
        simp at d0 d1
        clear hkp hbx
        have hg : ∀ y, w3.cell? ⟨g, o + 28 + j, none⟩ = some (.int .u8 y) → wr.cell? ⟨g, o + 28 + j, none⟩ = some (.int .u8 y) := fun y hy => Hkp.out.cell hy (fun e => by
          have e' : g = p2 := e
          subst e'
          have := HNg.out
          have := Hp1.out
          omega)
        rcases (show j < 3 ∨ j = 3 ∨ j = 4 by omega) with h3 | h3 | h3
        · have c0 := hg 0 (by rw [Nat.add_assoc]; exact HK2.out.cell (CI.out j h3) (fun h => h))
          have hz : (if j = 4 then (i : Int) else 0) = 0 := if_neg (by omega)
          rw [hz] at d1
          have h4 : (j : Int) < 4 := by omega
          have ho : bits .or .i64 0 0 = 0 := or0 0 (by omega)
          clear hg hz
          go_wp2_with fail
          go_roundw
          case rel => exact ⟨j + 1, by go_num, by omega, setCell_step Hkp.out, by
            rw [if_neg (show ¬ j + 1 = 4 by omega)]
            have := set_blk Hbx.out 1 (.int .i64 0)
            simpa using this⟩
          case measure => simp [intOf]; omega
        · subst h3
          have c0 := hg (i : Int) (HK2.out.cell CL.out (fun h => h))
          simp only [show ¬ (3 : Nat) = 4 by decide, if_false] at d1
          have ho : bits .or .i64 0 (i : Int) = (i : Int) := or0 i (by omega)
          have hw : IntKind.i64.wrap (i : Int) = (i : Int) := IntWalk.i64_in _ (by omega)
          clear hg
          go_wp2_with fail
          go_roundw
          case rel => exact ⟨4, by go_num, by omega, setCell_step Hkp.out, by
            rw [if_pos rfl]
            have := set_blk Hbx.out 1 (.int .i64 (i : Int))
            simpa using this⟩
          case measure => simp [intOf]
        · subst h3
          simp only [if_true] at d1
          have hi1 : (0 : Int) < (i : Int) := by omega
          have hb := Hkp.out.blk HP1'.out (fun e => Nat.ne_of_lt Hp1.out e)
          have Hb := Lib.hid hb
          have hne : p2 ≠ p1 := fun e => Nat.ne_of_lt Hp1.out e.symm
          have e0 : ∀ W : World, RS wr p1 W → W.cell? ⟨p2, 0, none⟩ = some (.string S) := fun W hk => hk.1.cell d0 hne
          have e1 : ∀ W : World, RS wr p1 W → W.cell? ⟨p2, 1, none⟩ = some (.int .i64 (i : Int)) := fun W hk => hk.1.cell d1 hne
          obtain ⟨v0, b0⟩ : ∃ v0 : World → Value, ∀ W : World, RS wr p1 W → W.cell? ⟨p1, 0, none⟩ = some (v0 W) := ⟨_, fun W hk => hk.c0⟩
          obtain ⟨v1, b1⟩ : ∃ v1 : World → Value, ∀ W : World, RS wr p1 W → W.cell? ⟨p1, 1, none⟩ = some (v1 W) := ⟨_, fun W hk => hk.c1⟩
          have g0 : ∀ W : World, RS wr p1 W → W.frozen? ⟨p1, 0, none⟩ = false := fun W hk => hk.f0
          have g1 : ∀ W : World, RS wr p1 W → W.frozen? ⟨p1, 1, none⟩ = false := fun W hk => hk.f1
          have hs1 : RS wr p1 wr := ⟨Kp.refl _ _, _, _, hb⟩
          clear hg f1 d0 d1 hb hne
          go_upto_region 16 with fail
          go_region_held_law (fun W => RS wr p1 W)
            (first | assumption | exact RS.drew (by assumption) | exact RS.set2 (by assumption) _ _ | exact RS.set2 (RS.drew (by assumption)) _ _)
            (first | (go_at_call 68; refine (HN.out _).mono ?_; rintro e w' ⟨rfl, rfl⟩))
          all_goals (
            have hdi : decide (0 < i) = true := decide_eq_true (by omega)
            rw [hdi]
            have D := set_blk (set_blk Hb.out 0 (.string S)) 1 (.int .i64 (i : Int))
            have K1 : Kp (fun b => b = p1) wr ((wr.setCell ⟨p1, 0, none⟩ (.string S)).setCell ⟨p1, 1, none⟩ (.int .i64 (i : Int))) := setCell_step (setCell_step (Kp.refl _ _))
            have KE := Lib.hid (((HK2.out.trans Hkp.out (fun b (e : b = p2) => .inr (by have := Hp1.out; unfold LeH at Hws; omega))).trans K1 (fun b (e : b = p1) => .inr (by unfold LeH at Hws; omega))).drew)
            generalize (wr.setCell ⟨p1, 0, none⟩ (.string S)).setCell ⟨p1, 1, none⟩ (.int .i64 (i : Int)) = wf at *
            have D0 : wf.drew.cell? ⟨p1, 0, none⟩ = some (.string S) := by rw [show wf.drew.cell? ⟨p1, 0, none⟩ = wf.cell? ⟨p1, 0, none⟩ from rfl, cell_blk D]; rfl
            have D1 : wf.drew.cell? ⟨p1, 1, none⟩ = some (.int .i64 (i : Int)) := by rw [show wf.drew.cell? ⟨p1, 1, none⟩ = wf.cell? ⟨p1, 1, none⟩ from rfl, cell_blk D]; rfl
            clear e0 e1 b0 b1 g0 g1 hs1 K1 D
            go_wp2_with fail
            refine bodyPost_ret (v := .tuple #[.agg #[.string S, .int .i64 (i : Int)], .bool true]) (by simp [results, Tryz.results75, go_sem, D0, D1]) rfl ⟨rfl, KE.out⟩)
end Go.Proofs.YthjbpbahcemfgaaGreatDoor
namespace Go.Proofs.YthjbpbahcemfgaaGreatDoor
open Go.RowKit
set_option maxHeartbeats 2000000
set_option maxRecDepth 20000

theorem make32 (w : World) : (Instr.makeSlice 52 (.int .i64 32) (.int .i64 32)).run Tryz.prog w = .ok (.slice (some ⟨w.heap.size, 0, none⟩) 32 32) (w.alloc (zrow 32)) := make_bytes 32 (by omega) w
theorem setCells_row {g : Nat} : ∀ (ys : List Int) (w : World) (xs : List Int) (o : Nat), RowE w g xs → o + ys.length ≤ xs.length → RowE (w.setCells g o (bs ys)) g (xs.take o ++ ys ++ xs.drop (o + ys.length)) ∧ ∀ w0, Kp (fun b => b = g) w0 w → Kp (fun b => b = g) w0 (w.setCells g o (bs ys))
  | [], w, xs, o, h, _ => by
    refine ⟨?_, fun _ h => h⟩
    simp only [List.append_nil, List.length_nil, Nat.add_zero, List.take_append_drop]
    exact h
  | y :: ys, w, xs, o, h, hl => by
    have h1 : RowE (w.setCell ⟨g, o, none⟩ (.int .u8 y)) g (xs.set o y) := by
      have := set_blk h o (.int .u8 y)
      unfold RowE
      rw [this]
      congr 2
      simp [bs, List.map_set]
    simp only [List.length_cons] at hl
    obtain ⟨h2, h3⟩ := setCells_row ys _ _ (o + 1) h1 (by rw [List.length_set]; omega)
    refine ⟨?_, fun w0 hk => h3 w0 (setCell_step hk)⟩
    have e : (xs.set o y).take (o + 1) ++ ys ++ (xs.set o y).drop (o + 1 + ys.length) = xs.take o ++ (y :: ys) ++ xs.drop (o + (y :: ys).length) := by
      rw [List.drop_set_of_lt (by omega), List.length_cons, show o + (ys.length + 1) = o + 1 + ys.length by omega]
      have : (xs.set o y).take (o + 1) = xs.take o ++ [y] := by
        rw [List.take_add_one, List.take_set_of_le (Nat.le_refl _), List.getElem?_set_self (by omega)]
        rfl
      rw [this]; simp
    rw [← e]
    exact h2
theorem setCells_kp (w : World) (g : Nat) : ∀ (vs : List Value) (o : Nat), Kp (fun b => b = g) w (w.setCells g o vs) := by
  have : ∀ (vs : List Value) (o : Nat) (w0 w : World), Kp (fun b => b = g) w0 w → Kp (fun b => b = g) w0 (w.setCells g o vs) := by
    intro vs
    induction vs with
    | nil => exact fun _ _ _ h => h
    | cons v vs ih => exact fun o w0 w h => ih (o + 1) w0 _ (setCell_step h)
  exact fun vs o => this vs o w w (Kp.refl _ _)
/-- The record's bytes when j of the four last are laid. -/
def recP (x : Rc) : Nat → List Int
  | 0 => ((x.s.length : Int) :: x.s) ++ zs (31 - x.s.length)
  | j + 1 => (recP x j).set (31 - j) (if j = 0 then (x.id : Int) else 0)
theorem recP_len (x : Rc) (h : x.s.length ≤ 27) : ∀ j, (recP x j).length = 32
  | 0 => by unfold recP; simp [zs_length]; omega
  | j + 1 => by rw [recP, List.length_set, recP_len x h j]
theorem recP_end (x : Rc) (h : x.s.length ≤ 27) : recP x 4 = recRow x := by
  have e0 : recP x 0 = (((x.s.length : Int) :: x.s) ++ zs (27 - x.s.length)) ++ [0, 0, 0, 0] := by
    unfold recP
    rw [List.append_assoc, show 31 - x.s.length = (27 - x.s.length) + 4 by omega]
    congr 1
    unfold zs
    rw [List.replicate_append_replicate.symm]; rfl
  have hl : (((x.s.length : Int) :: x.s) ++ zs (27 - x.s.length)).length = 28 := by simp [zs_length]; omega
  unfold recRow
  generalize ((x.s.length : Int) :: x.s) ++ zs (27 - x.s.length) = A at *
  rw [recP, recP, recP, recP, e0]
  rw [List.set_append_right _ _ (by omega), List.set_append_right _ _ (by omega), List.set_append_right _ _ (by omega), List.set_append_right _ _ (by omega), hl]
  simp
theorem row_bytes {w : World} {x : Rc} (hx : RcOk x) :
    Calls Tryz.prog 40 #[.agg #[.string (str x.s), .int .i64 x.id]] w fun e w' => ∃ g, e = .returned (.slice (some ⟨g, 0, none⟩) 32 32) ∧ RowE w' g (recRow x) ∧ Kp (fun _ => False) w w' ∧ w.heap.size ≤ g := by
  have h27 := hx.nm.hi
  have hid := hx.hi
  have hsz : (str x.s).size = x.s.length := str_size x.s
  have hm := make32
  have hbl : (str x.s).data.toList.map (fun b => Value.int .u8 (b.toNat : Int)) = bs x.s := by
    rw [str_list, List.map_map]
    unfold bs
    refine List.map_congr_left fun c hc => ?_
    have := hx.nm.byt c hc
    simp
    omega
  have Hbl := Lib.hid hbl
  have HE := Lib.hid (recP_end x h27)
  have HL := Lib.hid (fun j => recP_len x h27 j)
  have H0 := Lib.hid (show recP x 0 = ((x.s.length : Int) :: x.s) ++ zs (31 - x.s.length) from rfl)
  have HSu := Lib.hid (show ∀ j, recP x (j + 1) = (recP x j).set (31 - j) (if j = 0 then (x.id : Int) else 0) from fun j => rfl)
  have q8 : IntKind.u8.wrap (x.s.length : Int) = (x.s.length : Int) := IntWalk.u8_in _ (by omega)
  have qi : IntKind.u8.wrap (x.id : Int) = (x.id : Int) := IntWalk.u8_in _ (by omega)
  clear hx hbl
  go_enter Tryz.func40, Tryz.ntmps40
  go_upto_region 2 with fail
  have hka := (Kp.refl (fun _ => False) w).alloc (.cells #[.string (str x.s), .int .i64 x.id] 86)
  have HP0 := Lib.hid ((Kp.refl (fun _ => False) (w.alloc (.cells #[.string (str x.s), .int .i64 x.id] 86))).alloc (zrow 32) |>.blk (new_blk w (.cells #[.string (str x.s), .int .i64 x.id] 86)) (fun h => h))
  have hR := rowE_new (w.alloc (.cells #[.string (str x.s), .int .i64 x.id] 86)) 32
  rw [size_alloc] at hR
  have HK := Lib.hid (hka.alloc (zrow 32))
  have HR := Lib.hid hR
  clear hka hR hm
  have Hws : LeH w w.heap.size := Nat.le_refl _
  generalize (w.alloc (.cells #[.string (str x.s), .int .i64 x.id] 86)).alloc (zrow 32) = w1 at *
  generalize w.heap.size = p0 at *
  have e0 := cell_blk HP0.out 0
  have e1 := cell_blk HP0.out 1
  simp at e0 e1
  have r0 : w1.cell? ⟨p0 + 1, 0, none⟩ = some (.int .u8 0) := by rw [cell_blk HR.out]; rfl
  have f0 := frozen_blk HR.out 0
  go_upto_region 3 with fail
  have HR1 := Lib.hid (show RowE (w1.setCell ⟨p0 + 1, 0, none⟩ (.int .u8 (x.s.length : Int))) (p0 + 1) ((zs 32).set 0 (x.s.length : Int)) from by
    have := set_blk HR.out 0 (.int .u8 (x.s.length : Int))
    unfold RowE
    rw [this]
    congr 2)
  have HK1 := Lib.hid (setCell_step (i := 0) (u := .int .u8 (x.s.length : Int)) (Kp.refl (fun b => b = p0 + 1) w1))
  clear e0 e1 r0 f0
  generalize w1.setCell ⟨p0 + 1, 0, none⟩ (.int .u8 (x.s.length : Int)) = w2 at *
  have hb2 := HK1.out.blk HP0.out (fun e => Nat.ne_of_lt (Nat.lt_succ_self p0) e)
  have HB2 := Lib.hid hb2
  have e0 := cell_blk hb2 0
  have e1 := cell_blk hb2 1
  simp at e0 e1
  have hl0 : ((zs 32).set 0 (x.s.length : Int)).length = 32 := by rw [List.length_set, zs_length]
  have HC := Lib.hid (show ∀ j, j < (str x.s).size → (w2.cell? ⟨p0 + 1, 1 + j, none⟩).isSome = true from fun j hj => by
    rw [hsz] at hj
    rw [cell_blk HR1.out]
    simp [bs, zs_length]; omega)
  have HF := Lib.hid (show ∀ j, j < (str x.s).size → w2.frozen? ⟨p0 + 1, 1 + j, none⟩ = false from fun j _ => frozen_blk HR1.out _)
  have c0 : ∀ W : World, Kp (fun b => b = p0 + 1) w2 W → W.cell? ⟨p0, 0, none⟩ = some (.string (str x.s)) := fun W hk => hk.cell e0 (fun e => Nat.ne_of_lt (Nat.lt_succ_self p0) e)
  have hs1 : Kp (fun b => b = p0 + 1) w2 w2 := Kp.refl _ _
  have hle : (str x.s).size ≤ 31 := by rw [hsz]; omega
  have hcp : (Builtin.copy_ #[52, 9] 3 #[.slice (some ⟨p0 + 1, 1, none⟩) 31 31, .string (str x.s)]).run Tryz.prog w2.drew = .ok (.int .i64 (x.s.length : Int)) (w2.drew.setCells (p0 + 1) 1 (bs x.s)) := by
    have := run_copy_string (P := Tryz.prog) w2.drew 52 9 3 5 (p0 + 1) 1 31 31 (str x.s) Tryz.underlying52 Tryz.sizeU8 hle HC.out HF.out
    rw [Hbl.out, hsz] at this
    exact this
  have HCS := Lib.hid (setCells_row x.s w2.drew _ 1 (show RowE w2.drew (p0 + 1) ((zs 32).set 0 (x.s.length : Int)) from HR1.out) (by rw [hl0]; omega))
  clear e0 e1 hb2 HC HF hle
  go_region_held_law (fun W => Kp (fun b => b = p0 + 1) w2 W)
    (first | assumption | exact Kp.drew (by assumption) | (refine Kp.trans (by assumption) ?_ (Gr.refl _ _); exact setCells_kp _ _ _ _) | (refine Kp.trans (Kp.drew (by assumption)) ?_ (Gr.refl _ _); exact setCells_kp _ _ _ _))
    (fail)
  have HR2 := Lib.hid (show RowE (w2.drew.setCells (p0 + 1) 1 (bs x.s)) (p0 + 1) (recP x 0) from by
    have h := HCS.out.1
    have e : ((zs 32).set 0 (x.s.length : Int)).take 1 ++ x.s ++ ((zs 32).set 0 (x.s.length : Int)).drop (1 + x.s.length) = recP x 0 := by
      rw [H0.out]
      have e1 : (zs 32).set 0 (x.s.length : Int) = (x.s.length : Int) :: zs 31 := rfl
      rw [e1, show 1 + x.s.length = x.s.length + 1 by omega, List.drop_succ_cons]
      unfold zs
      rw [List.drop_replicate]
      rfl
    rw [e] at h
    exact h)
  have HK2 := Lib.hid (HCS.out.2 w1 HK1.out.drew)
  clear HCS hcp c0 hs1
  generalize w2.drew.setCells (p0 + 1) 1 (bs x.s) = w3 at *
  go_wp2_with fail
  go_loopw [4, 17] (fun _ k W => ∃ j : Nat, k = .int .i64 j ∧ j ≤ 4 ∧ RowE W (p0 + 1) (recP x j) ∧ Kp (fun b => b = p0 + 1) w1 W) (fun _ k _ => 4 - (intOf k).toNat)
  case atStart => exact ⟨0, rfl, Nat.zero_le _, HR2.out, HK2.out⟩
  case round =>
    obtain ⟨j, rfl, hj, hr, hkp⟩ := hrel
    have hb2 := hkp.blk HP0.out (fun e => Nat.ne_of_lt (Nat.lt_succ_self p0) e)
    have e1 := cell_blk hb2 1
    simp at e1
    have Hr := Lib.hid hr
    have Hkp := Lib.hid hkp
    have hl := HL.out j
    obtain ⟨y, hy⟩ : ∃ y, (recP x j)[31 - j]? = some y := ⟨_, List.getElem?_eq_getElem (by omega)⟩
    have r1 : wr.cell? ⟨p0 + 1, 31 - j, none⟩ = some (.int .u8 y) := by
      rw [cell_blk hr]
      simp [bs, hy]
    have f1 : wr.frozen? ⟨p0 + 1, 31 - j, none⟩ = false := frozen_blk hr _
    have hst := fun v => set_blk hr (31 - j) (.int .u8 v)
    have HST := Lib.hid (show ∀ v, RowE (wr.setCell ⟨p0 + 1, 31 - j, none⟩ (.int .u8 v)) (p0 + 1) ((recP x j).set (31 - j) v) from fun v => by
      have := hst v
      unfold RowE
      rw [this]
      congr 2
      simp [bs, List.map_set])
    have HSK := Lib.hid (show ∀ v, Kp (fun b => b = p0 + 1) w1 (wr.setCell ⟨p0 + 1, 31 - j, none⟩ (.int .u8 v)) from fun v => setCell_step Hkp.out)
    clear hb2 hr hkp hl hy hst
    rcases (show j = 0 ∨ j = 1 ∨ j = 2 ∨ j = 3 ∨ j = 4 by omega) with h | h | h | h | h
    all_goals subst h
    all_goals simp only [Nat.sub_zero, Nat.reduceSub] at r1 f1
    case inl =>
      go_wp2_with fail
      go_roundw
      case rel => exact ⟨1, rfl, by omega, by rw [HSu.out 0, if_pos rfl]; exact HST.out _, HSK.out _⟩
      case measure => simp [intOf]
    case inr.inl =>
      have hsh : (x.id : Int) / 256 = 0 := by omega
      go_wp2_with fail
      go_roundw
      case rel => exact ⟨2, rfl, by omega, by rw [HSu.out 1, if_neg (by decide)]; exact HST.out _, HSK.out _⟩
      case measure => simp [intOf]
    case inr.inr.inl =>
      have hsh : (x.id : Int) / 65536 = 0 := by omega
      go_wp2_with fail
      go_roundw
      case rel => exact ⟨3, rfl, by omega, by rw [HSu.out 2, if_neg (by decide)]; exact HST.out _, HSK.out _⟩
      case measure => simp [intOf]
    case inr.inr.inr.inl =>
      have hsh : (x.id : Int) / 16777216 = 0 := by omega
      go_wp2_with fail
      go_roundw
      case rel => exact ⟨4, rfl, by omega, by rw [HSu.out 3, if_neg (by decide)]; exact HST.out _, HSK.out _⟩
      case measure => simp [intOf]
    case inr.inr.inr.inr =>
      have HRE := Lib.hid (show RowE wr (p0 + 1) (recRow x) from HE.out ▸ Hr.out)
      clear r1 f1 HST HSK Hr
      go_wp2_with fail
      go_ret
      refine ⟨p0 + 1, rfl, HRE.out, HK.out.trans Hkp.out (fun b (e : b = p0 + 1) => .inr (by unfold LeH at Hws; omega)), by unfold LeH at Hws; omega⟩
end Go.Proofs.YthjbpbahcemfgaaGreatDoor
