/- The journal's head. -/
import Derived.Test.YtmafihodbbagbaaGreatDoorSum
import Derived.Lib.BufferWrite
import Derived.Deep.RegionHeldLaw
namespace Go.Proofs.YtmafihodbbagbaaGreatDoor
open Go.RowKit
set_option maxHeartbeats 1000000
set_option maxRecDepth 20000

theorem Sl.fresh {F : Nat → Prop} {w w' : World} {v : Value} {ys : List Int} (h : Sl w v ys) (k : Kp F w w') (hf : ∀ b, F b → w.heap.size ≤ b) : Sl w' v ys := by
  obtain ⟨A, c, rfl, h1, h2, h3⟩ := h
  refine ⟨A, c, rfl, h1, h2, fun hn => ?_⟩
  obtain ⟨ad, rfl, h4⟩ := h3 hn
  refine ⟨ad, rfl, fun j u hj => ?_⟩
  have hc := h4 j u hj
  exact k.cell hc (fun hF => by have := hf _ hF; have := World.block_lt_of_cell? w _ hc; omega)
theorem SS.fresh {F : Nat → Prop} {w w' : World} {v : Value} {rows : List (List Int)} (h : SS w v rows) (k : Kp F w w') (hf : ∀ b, F b → w.heap.size ≤ b) : SS w' v rows := by
  obtain ⟨A, c, rfl, h1, h2, h3⟩ := h
  refine ⟨A, c, rfl, h1, h2, fun hn => ?_⟩
  obtain ⟨ad, rfl, h4⟩ := h3 hn
  refine ⟨ad, rfl, fun i ys hi => ?_⟩
  obtain ⟨u, hc, hu⟩ := h4 i ys hi
  exact ⟨u, k.cell hc (fun hF => by have := hf _ hF; have := World.block_lt_of_cell? w _ hc; omega), hu.fresh k hf⟩
/-- copy(b, s) of a constant string into a row of the call's own, from its first byte on. -/
theorem wpList_copyS {w : World} {ops : Array Oper} {rest : List Oper} {o : Oper} {a : Act} {Q : Exit → Act → World → Prop} (hgd : o.guard = none) (d s : Operand)
    (ho : o.op = .call { callee := .builtin .copy, args := #[d, s], argTypes := #[29, 9] })
    (g dl dc : Nat) (hd : a.eval d = .slice (some ⟨g, 0, none⟩) dl dc) (t : ByteArray) (hs : a.eval s = .string t) (xs ys : List Int) (hg : RowE w g xs) (hy : Lib.byteCells t.data.toList = bs ys) (hsz : t.size = ys.length) (hle : ys.length ≤ dl) (hfit : ys.length ≤ xs.length)
    (h : ∀ w', Kp (fun k => k = g) w w' → w'.heap.size = w.heap.size → RowE w' g (splice xs 0 ys) → wpList Tryz.prog ops Q rest (a.put o.dst (goInt ys.length)) w') :
    wpList Tryz.prog ops Q (o :: rest) a w := by
  obtain ⟨i, hi, hz, hsz2, hb⟩ := info_parts Tryz.infoU8
  have hsz' : (Tryz.prog.info? 5).map (·.size) = some 1 := by rw [hi]; simp [hsz2]
  refine wpList_plain hgd fun K hK => ?_
  have hrun := Lib.run_copy_row_string (P := Tryz.prog) w 29 9 o.type 5 g 0 dl dc t _ _ Tryz.underlying29 hsz' hg (by omega) (by simp; omega)
  unfold Oper.wp
  simp [execOp, ho, resolve, invoke, builtin, hd, hs, hrun, Result.andThen]
  rw [hsz]
  refine hK _ _ (h _ (setRow_kp w g _) (by simp) ?_)
  unfold RowE at hg ⊢
  rw [setRow_heap w g _ _ _ _ hg]
  congr 2
  simp [splice, hy, hsz, bs, List.map_drop]

def magicL : List Int := [99, 114, 101, 100, 101, 110, 122, 97]
/-- A group's head. -/
def headRow (n : Int) (rows : List (List Int)) : List Int := splice (splice (splice (zs 128) 0 magicL) 8 (le8 n)) 16 (le8 (sumAll rows))

theorem headRow_len (n : Int) (rows : List (List Int)) : (headRow n rows).length = 128 := by
  unfold headRow
  have l0 : (splice (zs 128) 0 magicL).length = 128 := by rw [length_splice _ _ _ (by decide), zs_length]
  have l1 : (splice (splice (zs 128) 0 magicL) 8 (le8 n)).length = 128 := by rw [length_splice _ _ _ (by rw [l0, le8_len]; omega), l0]
  rw [length_splice _ _ _ (by rw [l1, le8_len]; omega), l1]

theorem journal_head {w : World} {v : Value} {rows : List (List Int)} (h : SS w v rows) (n : Int) (h0 : 0 ≤ n) (h1 : n ≤ 9223372036854775807) :
    Calls Tryz.prog 56 #[.int .i64 n, v] w fun e w' => e = .returned (.slice (some ⟨w.heap.size, 0, none⟩) 128 128) ∧ RowE w' w.heap.size (headRow n rows) ∧ Kp (fun _ => False) w w' := by
  have H := Lib.hid h
  have hw : IntKind.u64.wrap n = n := IntWalk.u64_in n (by omega)
  have HR := Lib.hid (sumAll_range rows)
  have l0 : (splice (zs 128) 0 magicL).length = 128 := by rw [length_splice _ _ _ (by decide), zs_length]
  have L0 := Lib.hid l0
  have l1 : (splice (splice (zs 128) 0 magicL) 8 (le8 n)).length = 128 := by rw [length_splice _ _ _ (by rw [l0, le8_len]; omega), l0]
  have L1 := Lib.hid l1
  clear h l0 l1
  go_enter Tryz.func56, Tryz.ntmps56
  go_wp2_with (first | (at_make; refine wpList_make128 rfl rfl ?_) | ((with_reducible refine at_copy rfl ?_); (refine wpList_copyS rfl _ _ rfl w.heap.size 128 128 rfl _ rfl (zs 128) magicL (rowE_new w 128) rfl rfl (by decide) (by decide) ?_); intro w1 hk1 hs1 hr1))
  have Hk1 := Lib.hid ((Kp.alloc (F := fun _ => False) (Kp.refl _ _) (zrow 128)).trans (F1 := fun k => k = w.heap.size) hk1 (fun k hk => .inr (by simp only [] at hk; omega)))
  have Hs1 := Lib.hid hs1
  clear hk1 hs1
  refine (journal_put hr1 (by omega) (by rw [L0.out]; omega) n h0 (by omega)).mono ?_
  rintro e w2 ⟨rfl, hr2, hk2⟩
  have Hk2 := Lib.hid (Hk1.out.trans (F1 := fun k => k = w.heap.size) hk2 (fun k hk => .inr (by simp only [] at hk; omega)))
  have Hr2 := Lib.hid hr2
  clear hr1 hr2 hk2 Hk1
  go_wp2_with fail
  have hkk : Kp (fun k => k = w.heap.size) w2 w2 := Kp.refl _ _
  go_region_held_law (fun W => Kp (fun k => k = w.heap.size) w2 W)
    (first | exact Kp.refl _ _ | assumption | exact Kp.drew (by assumption) | exact Kp.trans (by assumption) (by assumption) (Gr.refl _ _))
    (first | (go_at_call 67; refine (sum_Parts (H.out.fresh (Hk2.out.trans (show Kp (fun k => k = w.heap.size) w2 _ by assumption) (fun k (hk : k = w.heap.size) => .inr (by omega))) (fun _ h => h.elim))).mono ?_; rintro e w3 ⟨rfl, rfl⟩) | (go_at_call 66; refine (journal_put (Hr2.out.kp (F := fun _ => False) (Kp.drew (Kp.refl _ _)) (fun h => h)) (by omega) (by rw [L1.out]; omega) (sumAll rows) HR.out.1 HR.out.2).mono ?_; rintro e w4 ⟨rfl, hr4, hk4⟩))
  have hend := Lib.hid (Hk2.out.trans (show Kp (fun k => k = w.heap.size) w2 w4 by assumption) (fun k (hk : k = w.heap.size) => .inr (by omega)))
  go_wp2_with fail
  go_ret
  exact ⟨rfl, hr4, hend.out⟩
end Go.Proofs.YtmafihodbbagbaaGreatDoor
