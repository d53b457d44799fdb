/- slices.Chunk of bytes, thirty-two at a time: what its iterator gives. -/
import Derived.Test.YthjbpbahcemfgaaGreatDoorSl
import Derived.RangeFuncNested
import Derived.RangeFuncBound
import Derived.RangeFuncCalls
import Derived.RangeFuncLeaves
import Derived.Shelf.Abstract
import Derived.Shelf.RegionOpen
import Derived.OwnWalkIn
import Derived.TacticsInMore
import Derived.LoopNIn
import Derived.LoopIn
namespace Go.Proofs.YthjbpbahcemfgaaGreatDoor
open Go.RowKit Go.Shelf
set_option maxHeartbeats 1000000
set_option maxRecDepth 100000
attribute [local go_sem] Oper.semAt_some

/-- The k-th sixteen of n blocks. -/
structure CbI (n : Nat) where
  k : Nat
  h : k * 32 < n
def cbVal (g off n : Nat) (k : CbI n) : Value := .slice (some ⟨g, off + k.k * 32, none⟩) (min 32 (n - k.k * 32)) (min 32 (n - k.k * 32))
def cbN (n : Nat) : Nat := (n + 31) / 32
def cbUpto (n : Nat) : Nat → List (CbI n)
  | 0 => []
  | k + 1 => if h : k * 32 < n then cbUpto n k ++ [⟨k, h⟩] else cbUpto n k

/-- The iterator's own two boxes are as they were. -/
def SameC (B1 B2 : Nat) (A B : World) : Prop := B.cell? ⟨B1, 0, none⟩ = A.cell? ⟨B1, 0, none⟩ ∧ B.cell? ⟨B2, 0, none⟩ = A.cell? ⟨B2, 0, none⟩
theorem SameC.refl (B1 B2 : Nat) (A : World) : SameC B1 B2 A A := ⟨rfl, rfl⟩
theorem SameC.trans {B1 B2 : Nat} {A B C : World} (h : SameC B1 B2 A B) (k : SameC B1 B2 B C) : SameC B1 B2 A C := ⟨k.1.trans h.1, k.2.trans h.2⟩
theorem SameC.put {B1 B2 : Nat} {w : World} (h1 : B1 < w.heap.size) (h2 : B2 < w.heap.size) (W : World) (l : Nat) (o o' : Obj) (hl : w.heap.size ≤ l) (_ : W.heap[l]? = some o) (_ : o.isCells = false) (_ : o.isWalk = false) : SameC B1 B2 W (W.putObj l o') :=
  ⟨World.cell?_of_block (Array.getElem?_setIfInBounds_ne (by simp; omega)), World.cell?_of_block (Array.getElem?_setIfInBounds_ne (by simp; omega))⟩
theorem cbUpto_len (n : Nat) : ∀ k, (cbUpto n k).length ≤ k
  | 0 => Nat.le_refl _
  | k + 1 => by
    have := cbUpto_len n k
    unfold cbUpto
    split
    · rw [List.length_append, List.length_singleton]; omega
    · omega
theorem cbUpto_le {n : Nat} : ∀ k, ∃ j, cbUpto n k = cbUpto n j ∧ (cbUpto n k).map (·.k) = List.range j ∧ j ≤ cbN n
  | 0 => ⟨0, rfl, rfl, Nat.zero_le _⟩
  | k + 1 => by
    obtain ⟨j, h1, h2, h3⟩ := cbUpto_le (n := n) k
    by_cases h : k * 32 < n
    · have hk : ∀ i, i ≤ k → (cbUpto n i).map (·.k) = List.range i := by
        intro i
        induction i with
        | zero => intro _; rfl
        | succ i ih =>
          intro hi
          have : i * 32 < n := by omega
          rw [cbUpto, dif_pos this, List.map_append, ih (by omega), List.range_succ]; rfl
      refine ⟨k + 1, rfl, ?_, by unfold cbN; omega⟩
      rw [cbUpto, dif_pos h, List.map_append, hk k (Nat.le_refl _), List.range_succ]; rfl
    · refine ⟨j, by rw [cbUpto, dif_neg h]; exact h1, by rw [cbUpto, dif_neg h]; exact h2, h3⟩
theorem cbUpto_ks {n k : Nat} (hk : k ≤ cbN n) : (cbUpto n k).map (·.k) = List.range k := by
  induction k with
  | zero => rfl
  | succ i ih =>
    have : i * 32 < n := by unfold cbN at hk; omega
    rw [cbUpto, dif_pos this, List.map_append, ih (by omega), List.range_succ]; rfl
theorem cbUpto_succ {n k : Nat} (h : k * 32 < n) : cbUpto n (k + 1) = cbUpto n k ++ [⟨k, h⟩] := by rw [cbUpto, dif_pos h]

theorem chunkb_in (F : Fence) (n : Nat) (h : F.fn 74) (hro : F.round = none) (A : Option Addr) (m c : Nat) (w : World) :
    CallsIn F n Tryz.prog 74 #[.slice A m c, .int .i64 32] w fun e w' => e = .returned (.func (.func 119) #[] #[.pointer (some ⟨w.heap.size, 0, none⟩), .pointer (some ⟨w.heap.size + 1, 0, none⟩)]) ∧
      w' = (w.alloc (.cells #[.slice A m c] 52)).alloc (.cells #[.int .i64 32] 3) := by
  refine callsIn_of_wp Tryz.func74 rfl h ?_ hro
  simp only [Tryz.ntmps74, List.size_toArray, List.length_cons, List.length_nil, Nat.reduceAdd, Nat.reduceSub, Array.replicate_succ, Array.replicate_zero, List.push_toArray, List.append_toArray, List.nil_append, List.cons_append]
  gi_wp2
  go_ret
  exact ⟨rfl, rfl⟩

theorem chunkb1_in (F : Fence) (n : Nat) (h : F.fn 119) (hro : F.round = none) (hn : 1 ≤ n) (l B1 B2 g off m c : Nat) (A : Option Addr) (hA : 0 < m → A = some ⟨g, off, none⟩) (hm : m ≤ c) (hc : c ≤ maxLen) (hm62 : m ≤ 1000000) (J Jx : List (CbI m) → World → Prop) (hJ : ∀ s A, J s A → J s A.drew)
    (hY : ∀ pre x W, J pre W → pre.length < cbN m → YieldAt F (n - 1) Tryz.prog l #[cbVal g off m x] W fun e W' =>
      (e = .returned (.bool true) ∧ J (pre ++ [x]) W' ∧ SameC B1 B2 W W') ∨ (e = .returned (.bool false) ∧ Jx (pre ++ [x]) W'))
    (W : World) (h1 : W.cell? ⟨B1, 0, none⟩ = some (.slice A m c)) (h2 : W.cell? ⟨B2, 0, none⟩ = some (.int .i64 32)) (h0 : J [] W) :
    CallsIn F n Tryz.prog 119 #[.func (.yield l) #[] #[], .pointer (some ⟨B1, 0, none⟩), .pointer (some ⟨B2, 0, none⟩)] W fun e W' => (∃ v, e = .returned v) ∧
      ((∃ ys, ys = cbUpto m (cbN m) ∧ J ys W') ∨ (∃ pre, (∃ j, pre = cbUpto m j) ∧ Jx pre W')) := by
  unfold maxLen at hc
  refine callsIn_of_wp Tryz.func119 rfl h ?_ hro
  simp only [Tryz.ntmps119, List.size_toArray, List.length_cons, List.length_nil, Nat.reduceAdd, Nat.reduceSub, Array.replicate_succ, Array.replicate_zero, List.push_toArray, List.append_toArray, List.nil_append, List.cons_append]
  gi_wp2
  gi_loopw [4] (fun i wr => ∃ k : Nat, k ≤ cbN m ∧ i = .int .i64 ((k * 32 : Nat) : Int) ∧ J (cbUpto m k) wr ∧ SameC B1 B2 W wr)
    (fun i _ => m + 32 - (intOf i).toNat)
  case atStart => exact ⟨0, Nat.zero_le _, rfl, h0, SameC.refl _ _ _⟩
  case round =>
    obtain ⟨k, hk, rfl, hJs, hnx⟩ := hrel
    have c1 := hnx.1.trans h1
    have c2 := hnx.2.trans h2
    unfold cbN at hk
    obtain ⟨q, hq⟩ : ∃ q, q = k * 32 := ⟨_, rfl⟩
    rw [← hq]
    have Hq := Lib.hid hq
    have HJ := Lib.hid hJs
    by_cases hlt : q < m
    · rw [hA (by omega)] at c1
      have hz0 : (0 : Int) ≤ (q : Int) := by omega
      have hz1 : (q : Int) < (m : Int) := by omega
      have hz2 : (q : Int) ≤ (m : Int) := by omega
      have hz3 : ¬ c = q := by omega
      have hkm : k * 32 < m := by omega
      obtain ⟨e, he⟩ : ∃ e, e = min 32 (m - q) := ⟨_, rfl⟩
      have hmin : min (32 : Int) ((m - q : Nat) : Int) = (e : Int) := by omega
      have he1 : (0 : Int) ≤ (e : Int) := by omega
      have he2 : (q : Int) + (e : Int) ≤ (c : Int) := by omega
      have he3 : q + e ≤ m := by omega
      have hv : cbVal g off m ⟨k, hkm⟩ = .slice (some ⟨g, off + q, none⟩) e e := by simp only [cbVal]; rw [← hq, ← he]
      have hYA := hY _ ⟨k, hkm⟩ wr.drew (hJ _ _ HJ.out) (by have := cbUpto_len m k; unfold cbN; omega)
      rw [hv, ← cbUpto_succ hkm] at hYA
      have HYA := Lib.hid hYA
      clear hq hJs h1 h2 hYA hv he
      gi_wp2
      gi_region
      all_goals (
        obtain ⟨fn, tmps, assign, body, hy, hR⟩ := HYA.out
        gi_wp2
        refine hR.mono ?_
        rintro e3 W3 (⟨rfl, hJ3, hk3⟩ | ⟨rfl, hJx3⟩)
        · have c3 := hk3.2.trans (show wr.drew.cell? ⟨B2, 0, none⟩ = _ from c2)
          gi_wp2
          go_roundw
          case rel => exact ⟨k + 1, by unfold cbN; omega, by have := Hq.out; congr 1; omega, hJ3, hnx.trans (show SameC B1 B2 wr W3 from hk3)⟩
          case measure => simp [intOf]; omega
        · gi_wp2
          refine bodyPost_ret (results_none rfl _ _ _) rfl ?_
          exact ⟨⟨_, rfl⟩, .inr ⟨_, ⟨_, rfl⟩, hJx3⟩⟩)
    · have hz1 : ¬ (q : Int) < (m : Int) := by omega
      have hkk : k = cbN m := by unfold cbN; omega
      clear hq hJs h1 h2
      gi_wp2
      go_end0
      first | exact ⟨⟨_, rfl⟩, .inl (hkk ▸ HJ.out)⟩ | exact ⟨⟨_, rfl⟩, .inl ⟨_, rfl, hkk ▸ HJ.out⟩⟩

theorem chunkb_stops (F : Fence) (n : Nat) (h : F.fn 119) (hro : F.round = none) (hn : 1 ≤ n) (B1 B2 g off m c : Nat) (A : Option Addr) (hA : 0 < m → A = some ⟨g, off, none⟩) (hm : m ≤ c) (hc : c ≤ maxLen) (hm62 : m ≤ 1000000) (w : World) (hB1 : B1 < w.heap.size) (hB2 : B2 < w.heap.size)
    (h1 : w.cell? ⟨B1, 0, none⟩ = some (.slice A m c)) (h2 : w.cell? ⟨B2, 0, none⟩ = some (.int .i64 32)) :
    SeqStopsK F n Tryz.prog 119 #[.pointer (some ⟨B1, 0, none⟩), .pointer (some ⟨B2, 0, none⟩)] (fun x : CbI m => #[cbVal g off m x]) (SameC B1 B2) (fun ys => ys = cbUpto m (cbN m)) (fun pre => ∃ j, pre = cbUpto m j) (cbN m) w := fun l J Jx W hW hJ _ hY h0 =>
  chunkb1_in F n h hro hn l B1 B2 g off m c A hA hm hc hm62 J Jx (fun s A hs => hJ s A A.drew none hs ⟨rfl, rfl, rfl, Nat.le_refl _, fun _ _ _ => rfl⟩ (fun r e => by cases e)) hY W
    ((hW.cell (p := ⟨B1, 0, none⟩) hB1).trans h1) ((hW.cell (p := ⟨B2, 0, none⟩) hB2).trans h2) h0
end Go.Proofs.YthjbpbahcemfgaaGreatDoor
