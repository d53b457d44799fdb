/- slices.Chunk of blocks, sixteen at a time: what its iterator gives. -/
import Derived.Test.YtdmmlkkemceifaaGreatDoorLay
import Derived.RangeFuncNested
import Derived.RangeFuncBound
import Derived.RangeFuncCalls
import Derived.RangeFuncLeaves
import Derived.Shelf.Abstract
import Derived.Shelf.RegionOpen
import Derived.OwnWalkIn
import Derived.TacticsInMore
import Derived.LoopNIn
import Derived.LoopIn
namespace Go.Proofs.YtdmmlkkemceifaaGreatDoor
open Go.RowKit Go.Shelf
set_option maxHeartbeats 1000000
set_option maxRecDepth 100000
attribute [local go_sem] Oper.semAt_some

/-- The k-th sixteen of n blocks. -/
structure CkI (n : Nat) where
  k : Nat
  h : k * 16 < n
def ckVal (g off n : Nat) (k : CkI n) : Value := .slice (some ⟨g, off + k.k * 16 * 2, none⟩) (min 16 (n - k.k * 16)) (min 16 (n - k.k * 16))
def ckN (n : Nat) : Nat := (n + 15) / 16
def ckUpto (n : Nat) : Nat → List (CkI n)
  | 0 => []
  | k + 1 => if h : k * 16 < n then ckUpto n k ++ [⟨k, h⟩] else ckUpto n k

/-- The iterator's own two boxes are as they were. -/
def SameB (B1 B2 : Nat) (A B : World) : Prop := B.cell? ⟨B1, 0, none⟩ = A.cell? ⟨B1, 0, none⟩ ∧ B.cell? ⟨B2, 0, none⟩ = A.cell? ⟨B2, 0, none⟩
theorem SameB.refl (B1 B2 : Nat) (A : World) : SameB B1 B2 A A := ⟨rfl, rfl⟩
theorem SameB.trans {B1 B2 : Nat} {A B C : World} (h : SameB B1 B2 A B) (k : SameB B1 B2 B C) : SameB B1 B2 A C := ⟨k.1.trans h.1, k.2.trans h.2⟩
theorem SameB.put {B1 B2 : Nat} {w : World} (h1 : B1 < w.heap.size) (h2 : B2 < w.heap.size) (W : World) (l : Nat) (o o' : Obj) (hl : w.heap.size ≤ l) (_ : W.heap[l]? = some o) (_ : o.isCells = false) (_ : o.isWalk = false) : SameB B1 B2 W (W.putObj l o') :=
  ⟨World.cell?_of_block (Array.getElem?_setIfInBounds_ne (by simp; omega)), World.cell?_of_block (Array.getElem?_setIfInBounds_ne (by simp; omega))⟩
theorem ckUpto_len (n : Nat) : ∀ k, (ckUpto n k).length ≤ k
  | 0 => Nat.le_refl _
  | k + 1 => by
    have := ckUpto_len n k
    unfold ckUpto
    split
    · rw [List.length_append, List.length_singleton]; omega
    · omega
theorem ckUpto_succ {n k : Nat} (h : k * 16 < n) : ckUpto n (k + 1) = ckUpto n k ++ [⟨k, h⟩] := by rw [ckUpto, dif_pos h]

theorem chunk_in (F : Fence) (n : Nat) (h : F.fn 104) (hro : F.round = none) (A : Option Addr) (m c : Nat) (w : World) :
    CallsIn F n Tryz.prog 104 #[.slice A m c, .int .i64 16] w fun e w' => e = .returned (.func (.func 118) #[] #[.pointer (some ⟨w.heap.size, 0, none⟩), .pointer (some ⟨w.heap.size + 1, 0, none⟩)]) ∧
      w' = (w.alloc (.cells #[.slice A m c] 77)).alloc (.cells #[.int .i64 16] 3) := by
  refine callsIn_of_wp Tryz.func104 rfl h ?_ hro
  simp only [Tryz.ntmps104, List.size_toArray, List.length_cons, List.length_nil, Nat.reduceAdd, Nat.reduceSub, Array.replicate_succ, Array.replicate_zero, List.push_toArray, List.append_toArray, List.nil_append, List.cons_append]
  gi_wp2
  go_ret
  exact ⟨rfl, rfl⟩

theorem chunk1_in (F : Fence) (n : Nat) (h : F.fn 118) (hro : F.round = none) (hn : 1 ≤ n) (l B1 B2 g off m c : Nat) (hm : m ≤ c) (hc : c ≤ maxLen) (hm62 : m ≤ 1000000) (J Jx : List (CkI m) → World → Prop) (hJ : ∀ s A, J s A → J s A.drew)
    (hY : ∀ pre x W, J pre W → pre.length < ckN m → YieldAt F (n - 1) Tryz.prog l #[ckVal g off m x] W fun e W' =>
      (e = .returned (.bool true) ∧ J (pre ++ [x]) W' ∧ SameB B1 B2 W W') ∨ (e = .returned (.bool false) ∧ Jx (pre ++ [x]) W'))
    (W : World) (h1 : W.cell? ⟨B1, 0, none⟩ = some (.slice (some ⟨g, off, none⟩) m c)) (h2 : W.cell? ⟨B2, 0, none⟩ = some (.int .i64 16)) (h0 : J [] W) :
    CallsIn F n Tryz.prog 118 #[.func (.yield l) #[] #[], .pointer (some ⟨B1, 0, none⟩), .pointer (some ⟨B2, 0, none⟩)] W fun e W' => (∃ v, e = .returned v) ∧
      ((∃ ys, ys = ckUpto m (ckN m) ∧ J ys W') ∨ (∃ pre, True ∧ Jx pre W')) := by
  unfold maxLen at hc
  refine callsIn_of_wp Tryz.func118 rfl h ?_ hro
  simp only [Tryz.ntmps118, List.size_toArray, List.length_cons, List.length_nil, Nat.reduceAdd, Nat.reduceSub, Array.replicate_succ, Array.replicate_zero, List.push_toArray, List.append_toArray, List.nil_append, List.cons_append]
  gi_wp2
  gi_loopw [4] (fun i wr => ∃ k : Nat, k ≤ ckN m ∧ i = .int .i64 ((k * 16 : Nat) : Int) ∧ J (ckUpto m k) wr ∧ SameB B1 B2 W wr)
    (fun i _ => m + 16 - (intOf i).toNat)
  case atStart => exact ⟨0, Nat.zero_le _, rfl, h0, SameB.refl _ _ _⟩
  case round =>
    obtain ⟨k, hk, rfl, hJs, hnx⟩ := hrel
    have c1 := hnx.1.trans h1
    have c2 := hnx.2.trans h2
    unfold ckN at hk
    obtain ⟨q, hq⟩ : ∃ q, q = k * 16 := ⟨_, rfl⟩
    rw [← hq]
    have Hq := Lib.hid hq
    have HJ := Lib.hid hJs
    by_cases hlt : q < m
    · have hz0 : (0 : Int) ≤ (q : Int) := by omega
      have hz1 : (q : Int) < (m : Int) := by omega
      have hz2 : (q : Int) ≤ (m : Int) := by omega
      have hz3 : ¬ c = q := by omega
      have hkm : k * 16 < m := by omega
      obtain ⟨e, he⟩ : ∃ e, e = min 16 (m - q) := ⟨_, rfl⟩
      have hmin : min (16 : Int) ((m - q : Nat) : Int) = (e : Int) := by omega
      have he1 : (0 : Int) ≤ (e : Int) := by omega
      have he2 : (q : Int) + (e : Int) ≤ (c : Int) := by omega
      have he3 : q + e ≤ m := by omega
      have hv : ckVal g off m ⟨k, hkm⟩ = .slice (some ⟨g, off + q * 2, none⟩) e e := by simp only [ckVal]; rw [← hq, ← he]
      have hYA := hY _ ⟨k, hkm⟩ wr.drew (hJ _ _ HJ.out) (by have := ckUpto_len m k; unfold ckN; omega)
      rw [hv, ← ckUpto_succ hkm] at hYA
      have HYA := Lib.hid hYA
      clear hq hJs h1 h2 hYA hv he
      gi_wp2
      gi_region
      all_goals (
        obtain ⟨fn, tmps, assign, body, hy, hR⟩ := HYA.out
        gi_wp2
        refine hR.mono ?_
        rintro e3 W3 (⟨rfl, hJ3, hk3⟩ | ⟨rfl, hJx3⟩)
        · have c3 := hk3.2.trans (show wr.drew.cell? ⟨B2, 0, none⟩ = _ from c2)
          gi_wp2
          go_roundw
          case rel => exact ⟨k + 1, by unfold ckN; omega, by have := Hq.out; congr 1; omega, hJ3, hnx.trans (show SameB B1 B2 wr W3 from hk3)⟩
          case measure => simp [intOf]; omega
        · gi_wp2
          refine bodyPost_ret (results_none rfl _ _ _) rfl ?_
          exact ⟨⟨_, rfl⟩, .inr ⟨_, trivial, hJx3⟩⟩)
    · have hz1 : ¬ (q : Int) < (m : Int) := by omega
      have hkk : k = ckN m := by unfold ckN; omega
      clear hq hJs h1 h2
      gi_wp2
      go_end0
      first | exact ⟨⟨_, rfl⟩, .inl (hkk ▸ HJ.out)⟩ | exact ⟨⟨_, rfl⟩, .inl ⟨_, rfl, hkk ▸ HJ.out⟩⟩

theorem chunk_stops (F : Fence) (n : Nat) (h : F.fn 118) (hro : F.round = none) (hn : 1 ≤ n) (B1 B2 g off m c : Nat) (hm : m ≤ c) (hc : c ≤ maxLen) (hm62 : m ≤ 1000000) (w : World) (hB1 : B1 < w.heap.size) (hB2 : B2 < w.heap.size)
    (h1 : w.cell? ⟨B1, 0, none⟩ = some (.slice (some ⟨g, off, none⟩) m c)) (h2 : w.cell? ⟨B2, 0, none⟩ = some (.int .i64 16)) :
    SeqStopsK F n Tryz.prog 118 #[.pointer (some ⟨B1, 0, none⟩), .pointer (some ⟨B2, 0, none⟩)] (fun x : CkI m => #[ckVal g off m x]) (SameB B1 B2) (fun ys => ys = ckUpto m (ckN m)) (fun _ => True) (ckN m) w := fun l J Jx W hW hJ _ hY h0 =>
  chunk1_in F n h hro hn l B1 B2 g off m c hm hc hm62 J Jx (fun s A hs => hJ s A A.drew none hs ⟨rfl, rfl, rfl, Nat.le_refl _, fun _ _ _ => rfl⟩ (fun r e => by cases e)) hY W
    ((hW.cell (p := ⟨B1, 0, none⟩) hB1).trans h1) ((hW.cell (p := ⟨B2, 0, none⟩) hB2).trans h2) h0
end Go.Proofs.YtdmmlkkemceifaaGreatDoor
