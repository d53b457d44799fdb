/- slices.Chunk of blocks, sixteen at a time: what its iterator gives. -/
/- The journal: what stands behind the head. -/
/- The journal: whether blocks may be written, where they may. -/
/- The journal: a group is written, all or none. -/
import Derived.Test.YthjbpbahcemfgaaGreatDoorLay
import Derived.RangeFuncNested
import Derived.RangeFuncBound
import Derived.RangeFuncCalls
import Derived.RangeFuncLeaves
import Derived.Shelf.Abstract
import Derived.Shelf.RegionOpen
import Derived.OwnWalkIn
import Derived.TacticsInMore
import Derived.LoopNIn
import Derived.LoopIn
import Derived.RangeFuncFrom
import Derived.RangeFuncBox
import Derived.Maps.AppendAt
import Derived.Test.YthjbpbahcemfgaaGreatDoorMap
namespace Go.Proofs.YthjbpbahcemfgaaGreatDoor
open Go.RowKit Go.Shelf
set_option maxHeartbeats 1000000
set_option maxRecDepth 100000
attribute [local go_sem] Oper.semAt_some

/-- The k-th sixteen of n blocks. -/
structure CkI (n : Nat) where
  k : Nat
  h : k * 16 < n
def ckVal (g off n : Nat) (k : CkI n) : Value := .slice (some ⟨g, off + k.k * 16 * 2, none⟩) (min 16 (n - k.k * 16)) (min 16 (n - k.k * 16))
def ckN (n : Nat) : Nat := (n + 15) / 16
def ckUpto (n : Nat) : Nat → List (CkI n)
  | 0 => []
  | k + 1 => if h : k * 16 < n then ckUpto n k ++ [⟨k, h⟩] else ckUpto n k

/-- The iterator's own two boxes are as they were. -/
def SameB (B1 B2 : Nat) (A B : World) : Prop := B.cell? ⟨B1, 0, none⟩ = A.cell? ⟨B1, 0, none⟩ ∧ B.cell? ⟨B2, 0, none⟩ = A.cell? ⟨B2, 0, none⟩
theorem SameB.refl (B1 B2 : Nat) (A : World) : SameB B1 B2 A A := ⟨rfl, rfl⟩
theorem SameB.trans {B1 B2 : Nat} {A B C : World} (h : SameB B1 B2 A B) (k : SameB B1 B2 B C) : SameB B1 B2 A C := ⟨k.1.trans h.1, k.2.trans h.2⟩
theorem SameB.put {B1 B2 : Nat} {w : World} (h1 : B1 < w.heap.size) (h2 : B2 < w.heap.size) (W : World) (l : Nat) (o o' : Obj) (hl : w.heap.size ≤ l) (_ : W.heap[l]? = some o) (_ : o.isCells = false) (_ : o.isWalk = false) : SameB B1 B2 W (W.putObj l o') :=
  ⟨World.cell?_of_block (Array.getElem?_setIfInBounds_ne (by simp; omega)), World.cell?_of_block (Array.getElem?_setIfInBounds_ne (by simp; omega))⟩
theorem ckUpto_len (n : Nat) : ∀ k, (ckUpto n k).length ≤ k
  | 0 => Nat.le_refl _
  | k + 1 => by
    have := ckUpto_len n k
    unfold ckUpto
    split
    · rw [List.length_append, List.length_singleton]; omega
    · omega
theorem ckUpto_succ {n k : Nat} (h : k * 16 < n) : ckUpto n (k + 1) = ckUpto n k ++ [⟨k, h⟩] := by rw [ckUpto, dif_pos h]

theorem chunk_in (F : Fence) (n : Nat) (h : F.fn 136) (hro : F.round = none) (A : Option Addr) (m c : Nat) (w : World) :
    CallsIn F n Tryz.prog 136 #[.slice A m c, .int .i64 16] w fun e w' => e = .returned (.func (.func 166) #[] #[.pointer (some ⟨w.heap.size, 0, none⟩), .pointer (some ⟨w.heap.size + 1, 0, none⟩)]) ∧
      w' = (w.alloc (.cells #[.slice A m c] 124)).alloc (.cells #[.int .i64 16] 3) := by
  refine callsIn_of_wp Tryz.func136 rfl h ?_ hro
  simp only [Tryz.ntmps136, List.size_toArray, List.length_cons, List.length_nil, Nat.reduceAdd, Nat.reduceSub, Array.replicate_succ, Array.replicate_zero, List.push_toArray, List.append_toArray, List.nil_append, List.cons_append]
  gi_wp2
  go_ret
  exact ⟨rfl, rfl⟩

theorem chunk1_in (F : Fence) (n : Nat) (h : F.fn 166) (hro : F.round = none) (hn : 1 ≤ n) (l B1 B2 g off m c : Nat) (hm : m ≤ c) (hc : c ≤ maxLen) (hm62 : m ≤ 1000000) (J Jx : List (CkI m) → World → Prop) (hJ : ∀ s A, J s A → J s A.drew)
    (hY : ∀ pre x W, J pre W → pre.length < ckN m → YieldAt F (n - 1) Tryz.prog l #[ckVal g off m x] W fun e W' =>
      (e = .returned (.bool true) ∧ J (pre ++ [x]) W' ∧ SameB B1 B2 W W') ∨ (e = .returned (.bool false) ∧ Jx (pre ++ [x]) W'))
    (W : World) (h1 : W.cell? ⟨B1, 0, none⟩ = some (.slice (some ⟨g, off, none⟩) m c)) (h2 : W.cell? ⟨B2, 0, none⟩ = some (.int .i64 16)) (h0 : J [] W) :
    CallsIn F n Tryz.prog 166 #[.func (.yield l) #[] #[], .pointer (some ⟨B1, 0, none⟩), .pointer (some ⟨B2, 0, none⟩)] W fun e W' => (∃ v, e = .returned v) ∧
      ((∃ ys, ys = ckUpto m (ckN m) ∧ J ys W') ∨ (∃ pre, True ∧ Jx pre W')) := by
  unfold maxLen at hc
  refine callsIn_of_wp Tryz.func166 rfl h ?_ hro
  simp only [Tryz.ntmps166, List.size_toArray, List.length_cons, List.length_nil, Nat.reduceAdd, Nat.reduceSub, Array.replicate_succ, Array.replicate_zero, List.push_toArray, List.append_toArray, List.nil_append, List.cons_append]
  gi_wp2
  gi_loopw [4] (fun i wr => ∃ k : Nat, k ≤ ckN m ∧ i = .int .i64 ((k * 16 : Nat) : Int) ∧ J (ckUpto m k) wr ∧ SameB B1 B2 W wr)
    (fun i _ => m + 16 - (intOf i).toNat)
  case atStart => exact ⟨0, Nat.zero_le _, rfl, h0, SameB.refl _ _ _⟩
  case round =>
    obtain ⟨k, hk, rfl, hJs, hnx⟩ := hrel
    have c1 := hnx.1.trans h1
    have c2 := hnx.2.trans h2
    unfold ckN at hk
    obtain ⟨q, hq⟩ : ∃ q, q = k * 16 := ⟨_, rfl⟩
    rw [← hq]
    have Hq := Lib.hid hq
    have HJ := Lib.hid hJs
    by_cases hlt : q < m
    · have hz0 : (0 : Int) ≤ (q : Int) := by omega
      have hz1 : (q : Int) < (m : Int) := by omega
      have hz2 : (q : Int) ≤ (m : Int) := by omega
      have hz3 : ¬ c = q := by omega
      have hkm : k * 16 < m := by omega
      obtain ⟨e, he⟩ : ∃ e, e = min 16 (m - q) := ⟨_, rfl⟩
      have hmin : min (16 : Int) ((m - q : Nat) : Int) = (e : Int) := by omega
      have he1 : (0 : Int) ≤ (e : Int) := by omega
      have he2 : (q : Int) + (e : Int) ≤ (c : Int) := by omega
      have he3 : q + e ≤ m := by omega
      have hv : ckVal g off m ⟨k, hkm⟩ = .slice (some ⟨g, off + q * 2, none⟩) e e := by simp only [ckVal]; rw [← hq, ← he]
      have hYA := hY _ ⟨k, hkm⟩ wr.drew (hJ _ _ HJ.out) (by have := ckUpto_len m k; unfold ckN; omega)
      rw [hv, ← ckUpto_succ hkm] at hYA
      have HYA := Lib.hid hYA
      clear hq hJs h1 h2 hYA hv he
      gi_wp2
      gi_region
      all_goals (
        obtain ⟨fn, tmps, assign, body, hy, hR⟩ := HYA.out
        gi_wp2
        refine hR.mono ?_
        rintro e3 W3 (⟨rfl, hJ3, hk3⟩ | ⟨rfl, hJx3⟩)
        · have c3 := hk3.2.trans (show wr.drew.cell? ⟨B2, 0, none⟩ = _ from c2)
          gi_wp2
          go_roundw
          case rel => exact ⟨k + 1, by unfold ckN; omega, by have := Hq.out; congr 1; omega, hJ3, hnx.trans (show SameB B1 B2 wr W3 from hk3)⟩
          case measure => simp [intOf]; omega
        · gi_wp2
          refine bodyPost_ret (results_none rfl _ _ _) rfl ?_
          exact ⟨⟨_, rfl⟩, .inr ⟨_, trivial, hJx3⟩⟩)
    · have hz1 : ¬ (q : Int) < (m : Int) := by omega
      have hkk : k = ckN m := by unfold ckN; omega
      clear hq hJs h1 h2
      gi_wp2
      go_end0
      first | exact ⟨⟨_, rfl⟩, .inl (hkk ▸ HJ.out)⟩ | exact ⟨⟨_, rfl⟩, .inl ⟨_, rfl, hkk ▸ HJ.out⟩⟩

theorem chunk_stops (F : Fence) (n : Nat) (h : F.fn 166) (hro : F.round = none) (hn : 1 ≤ n) (B1 B2 g off m c : Nat) (hm : m ≤ c) (hc : c ≤ maxLen) (hm62 : m ≤ 1000000) (w : World) (hB1 : B1 < w.heap.size) (hB2 : B2 < w.heap.size)
    (h1 : w.cell? ⟨B1, 0, none⟩ = some (.slice (some ⟨g, off, none⟩) m c)) (h2 : w.cell? ⟨B2, 0, none⟩ = some (.int .i64 16)) :
    SeqStopsK F n Tryz.prog 166 #[.pointer (some ⟨B1, 0, none⟩), .pointer (some ⟨B2, 0, none⟩)] (fun x : CkI m => #[ckVal g off m x]) (SameB B1 B2) (fun ys => ys = ckUpto m (ckN m)) (fun _ => True) (ckN m) w := fun l J Jx W hW hJ _ hY h0 =>
  chunk1_in F n h hro hn l B1 B2 g off m c hm hc hm62 J Jx (fun s A hs => hJ s A A.drew none hs ⟨rfl, rfl, rfl, Nat.le_refl _, fun _ _ _ => rfl⟩ (fun r e => by cases e)) hY W
    ((hW.cell (p := ⟨B1, 0, none⟩) hB1).trans h1) ((hW.cell (p := ⟨B2, 0, none⟩) hB2).trans h2) h0
end Go.Proofs.YthjbpbahcemfgaaGreatDoor
namespace Go.Proofs.YthjbpbahcemfgaaGreatDoor
open Go.RowKit Go.Shelf
set_option maxHeartbeats 20000000
set_option maxRecDepth 100000
attribute [local go_sem] Oper.semAt_some

/-- A block of numbers, of which i are written. -/
def nr (ns : List Nat) : Nat → List Int
  | 0 => zs 128
  | i + 1 => splice (nr ns i) (8 * i) (le8 ((ns.getD i 0 : Nat) : Int))
theorem nr_len (ns : List Nat) : ∀ i, i ≤ 16 → (nr ns i).length = 128
  | 0, _ => zs_length _
  | i + 1, h => by
    have := nr_len ns i (by omega)
    rw [nr, length_splice _ _ _ (by rw [this, le8_len]; omega), this]
/-- The numbers of the k-th sixteen. -/
def ckNos (l : List (Nat × List Int)) (k : Nat) : List Nat := ((l.map (·.1)).drop (k * 16)).take 16
theorem ckNos_get {l : List (Nat × List Int)} {k i no : Nat} {ys : List Int} (hi : i < 16) (h : l[k * 16 + i]? = some (no, ys)) : (ckNos l k).getD i 0 = no := by
  rw [ckNos, List.getD_eq_getElem?_getD, List.getElem?_take, if_pos hi, List.getElem?_drop, List.getElem?_map, h]
  rfl
def numRow (l : List (Nat × List Int)) (k : Nat) : List Int := nr (ckNos l k) (min 16 (l.length - k * 16))
def slv (g : Nat) : Value := .slice (some ⟨g, 0, none⟩) 128 128

/-- Between two rounds: the rows of numbers so far. -/
def BodyI (w : World) (B n₀ : Nat) (l : List (Nat × List Int)) (pre : List (CkI l.length)) (W : World) : Prop :=
  ∃ (v : Value) (gs : List Nat), Boxed W B 186 v ∧ W.ownsRow n₀ 52 1 v gs.length (gs.map slv) ∧ gs.length = pre.length ∧ (∀ (j gj : Nat) (x : CkI l.length), gs[j]? = some gj → pre[j]? = some x → n₀ ≤ gj ∧ RowE W gj (numRow l x.k)) ∧ Below w.heap.size w W ∧ n₀ ≤ W.heap.size
theorem bodyI_own {w : World} {B n₀ b : Nat} {l : List (Nat × List Int)} (hb : w.heap.size ≤ b) : OwnFrom b (BodyI w B n₀ l) := by
  intro s W W' row h hg hr
  have hc : ∀ {k : Nat} {cs : Array Value} {t : TypeId} {fr : Nat × Nat}, W.heap[k]? = some (.cells cs t fr) → W'.heap[k]? = some (.cells cs t fr) := by
    intro k cs t fr hk
    refine (hg.block k (lt_blk hk) (fun e => ?_)).trans hk
    obtain ⟨_, o, ho, hoc⟩ := hr k e.symm
    rw [hk] at ho; cases ho; cases hoc
  obtain ⟨v, gs, h1, ⟨h2, h3⟩, h4, h5, h6, h7⟩ := h
  refine ⟨v, gs, hc h1, ⟨h2, ?_⟩, h4, fun j gj x hj hx => ⟨(h5 j gj x hj hx).1, hc (h5 j gj x hj hx).2⟩, h6.grown hg h6.size (fun k e => Nat.le_trans hb (hr k e).1), Nat.le_trans h7 hg.size⟩
  rcases h3 with h3 | ⟨g, cap, cur, e1, e2, e3, e4⟩
  · exact .inl h3
  · exact .inr ⟨g, cap, cur, e1, e2, hc e3, e4⟩

theorem ckUpto_full (n : Nat) : ∀ k, k ≤ ckN n → (ckUpto n k).length = k ∧ ∀ j, j < k → ∃ x, (ckUpto n k)[j]? = some x ∧ x.k = j
  | 0, _ => ⟨rfl, fun j hj => by omega⟩
  | k + 1, h => by
    have hk : k * 16 < n := by unfold ckN at h; omega
    obtain ⟨h1, h2⟩ := ckUpto_full n k (by omega)
    rw [ckUpto_succ hk]
    refine ⟨by rw [List.length_append, h1]; rfl, fun j hj => ?_⟩
    by_cases e : j < k
    · obtain ⟨x, hx, hj'⟩ := h2 j e
      exact ⟨x, by rw [List.getElem?_append_left (by omega)]; exact hx, hj'⟩
    · have : j = k := by omega
      subst this
      exact ⟨⟨j, hk⟩, by rw [List.getElem?_append_right (by omega), h1]; simp, rfl⟩
/-- What body gives: a new slice of the rows of numbers, then of the rows that are to be written, as they stand in v. -/
def BodyOut (w w' : World) (v u : Value) (l : List (Nat × List Int)) : Prop :=
  ∃ g off c, v = .slice (some ⟨g, off, none⟩) l.length c ∧ ∃ g' cap cs, u = .slice (some ⟨g', 0, none⟩) (ckN l.length + l.length) cap ∧ w.heap.size ≤ g' ∧ ckN l.length + l.length ≤ cap ∧ cap ≤ maxLen ∧ w'.heap[g']? = some (.cells cs 52 (0, 0)) ∧
    (∀ k, k < ckN l.length → ∃ gk, cs[k]? = some (slv gk) ∧ w.heap.size ≤ gk ∧ RowE w' gk (numRow l k)) ∧
    (∀ i u, i < l.length → w.cell? ⟨g, off + i * 2 + 1, none⟩ = some u → cs[ckN l.length + i]? = some u)
theorem le_alloc {n : Nat} {w : World} (o : Obj) (h : n ≤ w.heap.size) : n ≤ (w.alloc o).heap.size := by rw [size_alloc]; omega
theorem row_kp0 {w w' : World} {base e s n : Nat} {v : Value} {xs : List Value} (h : w.ownsRow base e s v n xs) (k : Kp (fun _ => False) w w') : w'.ownsRow base e s v n xs := by
  obtain ⟨h1, h2 | ⟨g, cap, cur, h2, h3, h4, h5⟩⟩ := h
  · exact ⟨h1, .inl h2⟩
  · exact ⟨h1, .inr ⟨g, cap, cur, h2, h3, k.blk h4 (fun h => h), h5⟩⟩
theorem row_low {w : World} {base base' e s n : Nat} {v : Value} {xs : List Value} (h : w.ownsRow base e s v n xs) (hb : base' ≤ base) : w.ownsRow base' e s v n xs := by
  obtain ⟨h1, h2 | ⟨g, cap, cur, h2, h3, h4, h5⟩⟩ := h
  · exact ⟨h1, .inl h2⟩
  · exact ⟨h1, .inr ⟨g, cap, cur, h2, Nat.le_trans hb h3, h4, h5⟩⟩

theorem journal_body {w : World} {v : Value} {l : List (Nat × List Int)} (h : BS w v l) (hn : l ≠ []) (hm : l.length ≤ 2048) (hno : ∀ x ∈ l, (x.1 : Int) ≤ 9223372036854775807) :
    Calls Tryz.prog 105 #[v] w fun e w' => ∃ u, e = .returned u ∧ BodyOut w w' v u l ∧ Kp (fun _ => False) w w' := by
  obtain ⟨A, c, rfl, hc1, hc2, hA⟩ := h
  obtain ⟨g, off, rfl, hcell⟩ := hA hn
  have hpos : 0 < l.length := List.length_pos_iff.2 hn
  obtain ⟨x0, hx0⟩ : ∃ x0, l[0]? = some x0 := ⟨_, List.getElem?_eq_getElem hpos⟩
  have hglt : g < w.heap.size := World.block_lt_of_cell? w _ (hcell 0 x0.1 x0.2 hx0).1
  have Hcell := Lib.hid hcell
  clear hcell hx0
  unfold maxLen at hc2
  refine (callsIn_wide (n := 6)).1 ?_
  have hfC : Fence.wide.fn 136 := trivial
  refine callsIn_of_wp_marks Tryz.func105 rfl trivial ?_ rfl
  simp only [Tryz.ntmps105, List.size_toArray, List.length_cons, List.length_nil, Nat.reduceAdd, Nat.reduceSub, Array.replicate_succ, Array.replicate_zero, List.push_toArray, List.append_toArray, List.nil_append, List.cons_append]
  gi_wp2_with (gi_at_call 136; refine (chunk_in Fence.wide 5 trivial rfl _ _ _ _).mono ?_; rintro e w' ⟨rfl, rfl⟩)
  obtain ⟨W0, hW0⟩ : ∃ W0, ((w.alloc (.cells #[.slice none 0 0] 186)).alloc (.cells #[.slice (some ⟨g, off, none⟩) l.length c] 124)).alloc (.cells #[.int .i64 16] 3) = W0 := ⟨_, rfl⟩
  have hs0 : W0.heap.size = w.heap.size + 3 := by rw [← hW0]; simp
  have hbB : Boxed W0 w.heap.size 186 (.slice none 0 0) := by rw [← hW0]; exact ((Boxed.new w _ _).alloc _).alloc _
  have hc1 : W0.cell? ⟨w.heap.size + 1, 0, none⟩ = some (.slice (some ⟨g, off, none⟩) l.length c) := by
    have := ((Boxed.new (w.alloc (.cells #[.slice none 0 0] 186)) 124 (.slice (some ⟨g, off, none⟩) l.length c)).alloc (.cells #[.int .i64 16] 3)).cell
    rw [← hW0]; simpa using this
  have hc2' : W0.cell? ⟨w.heap.size + 2, 0, none⟩ = some (.int .i64 16) := by
    have := (Boxed.new ((w.alloc (.cells #[.slice none 0 0] 186)).alloc (.cells #[.slice (some ⟨g, off, none⟩) l.length c] 124)) 3 (.int .i64 16)).cell
    rw [← hW0]; simpa using this
  have hB0 : Below w.heap.size w W0 := by rw [← hW0]; exact (((Below.refl _ _).alloc (Nat.le_refl _) _).alloc (by simp) _).alloc (by simp; omega) _
  rw [hW0]
  have HC1 := Lib.hid hc1
  have HC2 := Lib.hid hc2'
  clear hW0 hc1 hc2'
  refine wpIn_rangeFunc_ownF rfl (by omega) (gf := 166) (lb := #[.pointer (some ⟨w.heap.size + 1, 0, none⟩), .pointer (some ⟨w.heap.size + 2, 0, none⟩)]) rfl trivial (enters_of Tryz.func166 (by kernel_rfl) rfl)
    (chunk_stops Fence.wide 5 trivial rfl (by omega) (w.heap.size + 1) (w.heap.size + 2) g off l.length c ‹_› (by unfold maxLen; omega) (by omega) W0 (by omega) (by omega) HC1.out HC2.out) (SameB.trans) (SameB.put (by omega) (by omega)) (Below.refl _ _) (fun _ => rfl)
    (BodyI w w.heap.size W0.heap.size l) (fun _ _ _ => False) (bodyI_own (by omega)) (fun _ _ _ _ _ h _ _ => h)
    ⟨_, [], hbB, World.ownsRow_nil _ _ _ _, rfl, fun j gj x hj => by simp at hj, hB0, Nat.le_refl _⟩
    (fun x => { tmps := #[.slice (some ⟨g, off, none⟩) l.length c, undef, .slice none 0 0, .pointer (some ⟨w.heap.size, 0, none⟩), ckVal g off l.length x, undef, undef, undef, undef, undef, .slice (some ⟨g, off, none⟩) l.length c, .func (.func 166) #[] #[.pointer (some ⟨w.heap.size + 1, 0, none⟩), .pointer (some ⟨w.heap.size + 2, 0, none⟩)], ckVal g off l.length x, undef, undef, undef, undef, undef, undef, undef, undef, undef, undef, undef, undef, undef, undef, undef, undef, undef, undef, undef, undef, undef, undef, undef, undef, undef, undef, undef, undef, undef, undef, undef, undef, undef, undef], defers := [] }) ?assign ?body ?done ?stop
  case assign =>
    intro l' x W K hK
    gi_wp2
    exact hK
  case stop =>
    rintro D c pre W _ _ h _
    exact h.elim
  case body =>
    rintro l' pre ⟨k, hk⟩ W hI hlen
    obtain ⟨v, gs, hbx, hown, hgl, hrows, hbel, hsz⟩ := hI
    simp only [ckVal]
    obtain ⟨q, hq⟩ : ∃ q, q = k * 16 := ⟨_, rfl⟩
    obtain ⟨e, he⟩ : ∃ e, e = min 16 (l.length - q) := ⟨_, rfl⟩
    rw [← hq, ← he]
    have hm7 := make128
    have Hbx := Lib.hid hbx
    have Hown := Lib.hid hown
    have Hrows := Lib.hid hrows
    have Hbel := Lib.hid hbel
    have Hq := Lib.hid hq
    have He := Lib.hid he
    have he16 : e ≤ 16 := by omega
    have heq : q + e ≤ l.length := by omega
    have Hgl := Lib.hid hgl
    clear hbx hown hrows hbel hq he hgl
    gi_wp2
    obtain ⟨gb, hgb⟩ : ∃ gb, W.heap.size = gb := ⟨_, rfl⟩
    have hr0 : RowE (W.alloc (zrow 128)) gb (nr (ckNos l k) 0) := by rw [← hgb]; exact rowE_new _ _
    have Hgb := Lib.hid hgb
    rw [hgb]
    clear hgb
    gi_loopw [16] (fun x wr => ∃ i : Nat, x = .int .i64 (i : Nat) ∧ i ≤ e ∧ RowE wr gb (nr (ckNos l k) i) ∧ Kp (fun _ => False) W wr) (fun x _ => e - (intOf x).toNat)
    case atStart => exact ⟨0, rfl, by omega, hr0, (Kp.refl _ _).alloc _⟩
    case round =>
      obtain ⟨i, rfl, hi, hr, hkp⟩ := hrel
      have Hr := Lib.hid hr
      have Hkp := Lib.hid hkp
      by_cases hlt : i < e
      · have hy : (i : Int) < (e : Int) := by omega
        have hy0 : (0 : Int) ≤ (i : Int) := by omega
        obtain ⟨⟨no, ys⟩, hx⟩ : ∃ x, l[q + i]? = some x := ⟨_, List.getElem?_eq_getElem (by omega)⟩
        obtain ⟨ca, u, cb, hu⟩ := Hcell.out (q + i) no ys hx
        obtain ⟨Au, cu, rfl, _, _, _⟩ := hu
        rw [show off + (q + i) * 2 = off + q * 2 + i * 2 by omega] at ca cb
        have ca' := Hkp.out.cell ((Hbel.out.cell (p := ⟨g, off + q * 2 + i * 2, none⟩) hglt).trans ca) (fun h => h)
        have cb' := Hkp.out.cell ((Hbel.out.cell (p := ⟨g, off + q * 2 + i * 2 + 1, none⟩) hglt).trans cb) (fun h => h)
        have Hx := Lib.hid hx
        have hno' := hno _ (List.mem_of_getElem? hx)
        have hget := Lib.hid (ckNos_get (l := l) (k := k) (i := i) (no := no) (ys := ys) (by omega) (by rw [← Hq.out]; exact hx))
        clear ca cb hx hr hkp hr0
        gi_wp2
        have Rb := Lib.hid (Hr.out.kp (F := fun _ => False) ((Kp.refl _ _).alloc (.cells #[.int .i64 (no : Nat), .slice Au ys.length cu] 131)) (fun h => h))
        have Kb := Lib.hid (Hkp.out.alloc (.cells #[.int .i64 (no : Nat), .slice Au ys.length cu] 131))
        have nb := cell_blk (new_blk wr (.cells #[.int .i64 (no : Nat), .slice Au ys.length cu] 131)) 0
        simp only [List.getElem?_toArray, List.getElem?_cons_zero] at nb
        generalize wr.alloc (.cells #[.int .i64 (no : Nat), .slice Au ys.length cu] 131) = wb at *
        generalize wr.heap.size = b at *
        have hs0 : (0 : Int) ≤ 8 * (i : Int) := by omega
        have hs1 : 8 * (i : Int) ≤ 128 := by omega
        have hne : ¬ 128 = 8 * i := by omega
        have hw8 : IntKind.i64.wrap (8 * (i : Int)) = 8 * (i : Int) := IntWalk.i64_in _ (by omega)
        have ht8 : (8 * (i : Int)).toNat = 8 * i := by omega
        have hmx : Tryz.prog.follows .mixedOrders = true := by kernel_rfl
        have hfP : Fence.wide.fn 137 := trivial
        have hwu : IntKind.u64.wrap (no : Int) = (no : Int) := IntWalk.u64_in _ (by omega)
        clear ca' cb'
        gi_region_with (gi_at_call 137; refine (CallsIn.inRound l' (callsIn_wide.2 (journal_put (g := gb) (off := 8 * i) (Rb.out.kp (F := fun _ => False) ((Kp.refl _ _).drew) (fun h => h)) (by omega) (by rw [nr_len _ _ (by omega)]; omega) (no : Nat) (by omega) (by omega)))).mono ?_; rintro e5 w5 ⟨rfl, hr5, hk5⟩)
        all_goals (
          have Hr5 := Lib.hid hr5
          have Hk5 := Lib.hid ((Kb.out.drew).trans hk5 (fun j (hj : j = gb) => .inr (by have := Hgb.out; omega)))
          clear hr5 hk5
          gi_wp2
          go_roundw
          case rel => exact ⟨i + 1, by go_num, by omega, by rw [nr, hget.out]; exact Hr5.out, Hk5.out⟩
          case measure => simp [intOf]; omega)
      · have hy : ¬ (i : Int) < (e : Int) := by omega
        have hie : i = e := by omega
        have hrow : RowE wr gb (numRow l k) := by rw [numRow, ← Hq.out, ← He.out, ← hie]; exact hr
        have Hrow := Lib.hid hrow
        clear hie hrow hr hkp hr0
        have hv1 : Boxed wr w.heap.size 186 v := Hkp.out.blk Hbx.out (fun h => h)
        have hown1 := row_kp0 Hown.out Hkp.out
        have hc0 := hv1.cell
        have Hv1 := Lib.hid hv1
        have Hown1 := Lib.hid hown1
        obtain ⟨i0, hi0, hz0, hz1, hz2⟩ := info_parts Tryz.infoRow
        have hgs : gs.length ≤ 200 := by have := hlen; rw [← Hgl.out] at this; unfold ckN at this; omega
        have hWs := Hkp.out.size
        clear hv1 hown1
        gi_wp2_with (gi_at_builtin; refine wpListIn_append_own _ rfl _ _ 186 rfl W0.heap.size 52 i0 (.slice none 0 0) 1 24 Tryz.underlying186 hi0 hz0 hz1 hz2 rfl (by decide) _ _ _ rfl (Hown1.out.alloc _) ⟨wr.heap.size, 0, none⟩ 1 1 [slv gb] rfl rfl (cell_one_new _ _ _) (by simp [Value.oneCell', slv]) (by unfold maxLen; omega) (by omega) (le_alloc _ (by omega)) ?_; intro v' w1 hown' hgrow _; obtain ⟨g', cap', rfl⟩ := ownsRow_succ hown'; have hb1 := (Hv1.out.alloc (.cells #[slv gb] 52)).kept hgrow (Hv1.out.not_row (by decide) Hown1.out); have hc1 := hb1.cell; have hf1 := hb1.frozen; have Hown' := Lib.hid hown'; have Hgrow := Lib.hid hgrow; have Hb1 := Lib.hid hb1; clear hown' hgrow hb1)
        obtain ⟨hx1, hx2, hx3, hx4, hx5⟩ := Hv1.out.appended (n₀ := w.heap.size) (by decide) (row_low Hown1.out (by omega)) (by omega) (Nat.le_refl _) (row_low Hown'.out (by omega)) Hgrow.out
        have hown2 := Hown'.out.kept (grownBy_setCell' w1 w.heap.size (.slice (some ⟨g', 0, none⟩) (gs.length + 1) cap')) (.inr (hx1.not_row (by decide) Hown'.out).symm)
        have hnob : ∀ b, b < W0.heap.size → some b ≠ v.ownBlock := fun b hb e => by
          obtain ⟨_, ⟨rfl, _⟩ | ⟨g2, cap2, cur2, rfl, h3, _⟩⟩ := Hown1.out
          · simp [Value.ownBlock] at e
          · simp [Value.ownBlock] at e; omega
        have hnob2 : ∀ b cs t fr, wr.heap[b]? = some (.cells cs t fr) → t ≠ 52 → some b ≠ v.ownBlock := fun b cs t fr hb ht e => by
          obtain ⟨_, ⟨rfl, _⟩ | ⟨g2, cap2, cur2, rfl, h3, h4, _⟩⟩ := Hown1.out
          · simp [Value.ownBlock] at e
          · have : b = g2 := by simpa [Value.ownBlock] using e
            rw [this, h4] at hb; cases hb; exact ht rfl
        have hkeep : ∀ b, b < wr.heap.size → some b ≠ v.ownBlock → b ≠ w.heap.size → (w1.setCell ⟨w.heap.size, 0, none⟩ (.slice (some ⟨g', 0, none⟩) (gs.length + 1) cap')).heap[b]? = wr.heap[b]? := fun b hb h1 h2 => by
          rw [Below.heap_setCell _ _ _ _ (fun e => h2 e), Hgrow.out.block b (le_alloc _ hb) h1, Below.heap_alloc _ _ b hb]
        have hsame : ∀ b, b < W0.heap.size → b ≠ w.heap.size → (w1.setCell ⟨w.heap.size, 0, none⟩ (.slice (some ⟨g', 0, none⟩) (gs.length + 1) cap')).heap[b]? = W.heap[b]? := fun b hb h2 => by
          rw [hkeep b (by omega) (hnob b hb) h2, Hkp.out.block b (by omega) (fun h => h)]
        have hko : KeepsOthers W wr := ⟨Hkp.out.size, fun j o h _ => Hkp.out.blk h (fun h => h)⟩
        have hrowk : ∀ b xs, RowE wr b xs → b ≠ w.heap.size → RowE (w1.setCell ⟨w.heap.size, 0, none⟩ (.slice (some ⟨g', 0, none⟩) (gs.length + 1) cap')) b xs := fun b xs hb hne => (hkeep b hb.lt (hnob2 b _ _ _ hb (by decide)) hne).trans hb
        refine ⟨hko.trans hx4, ⟨World.cell?_of_block (hsame (w.heap.size + 1) (by omega) (by omega)), World.cell?_of_block (hsame (w.heap.size + 2) (by omega) (by omega))⟩, ?_⟩
        refine ⟨_, gs ++ [gb], hx2, by rw [List.length_append, List.map_append]; rw [hs0] at hown2; exact hown2, by rw [List.length_append, List.length_append, Hgl.out]; rfl, fun j gj x hj hx => ?_, (Hbel.out.trans (Hkp.out.below (by omega) (fun _ h => h.elim))).trans hx5, by have := hx4.size; omega⟩
        have hgl := Hgl.out
        rcases Nat.lt_or_ge j gs.length with hlt' | hge
        · rw [List.getElem?_append_left hlt'] at hj
          rw [List.getElem?_append_left (by omega)] at hx
          obtain ⟨p1, p2⟩ := Hrows.out j gj x hj hx
          exact ⟨by omega, hrowk gj _ (p2.kp Hkp.out (fun h => h)) (by omega)⟩
        · rw [List.getElem?_append_right hge] at hj
          rw [List.getElem?_append_right (by omega)] at hx
          have hj0 : j - gs.length = 0 := by
            have := (List.getElem?_eq_some_iff.1 hj).1; simp at this; omega
          rw [hj0] at hj
          rw [show j - pre.length = 0 by omega] at hx
          simp at hj hx
          subst hj hx
          have := Hgb.out
          exact ⟨by omega, hrowk gb _ Hrow.out (by omega)⟩
  case done =>
    rintro D ys W hD rfl hI hK
    obtain ⟨v, gs, hbx, hown, hgl, hrows, hbel, hsz⟩ := hI
    have Hbx := Lib.hid hbx
    have Hown := Lib.hid hown
    have Hrows := Lib.hid hrows
    have Hbel := Lib.hid hbel
    have HK := Lib.hid hK
    have hq200 : gs.length ≤ 200 := by rw [hgl]; have := ckUpto_len l.length (ckN l.length); unfold ckN at this ⊢; omega
    have Hgl := Lib.hid hgl
    obtain ⟨us, hus⟩ : ∃ us : List Value, us = (List.range l.length).map fun i => (w.cell? ⟨g, off + i * 2 + 1, none⟩).getD undef := ⟨_, rfl⟩
    have husl : us.length = l.length := by rw [hus]; simp
    have Hus := Lib.hid (show ∀ i u, i < l.length → w.cell? ⟨g, off + i * 2 + 1, none⟩ = some u → us[i]? = some u from fun i u hi hu => by rw [hus]; simp [hi, hu])
    clear hbx hown hrows hbel hK hgl hus
    gi_wp2
    gi_loopw [36] (fun x wr => ∃ (i : Nat) (v : Value), x = .int .i64 (i : Nat) ∧ i ≤ l.length ∧ Boxed wr w.heap.size 186 v ∧ wr.ownsRow W0.heap.size 52 1 v (gs.length + i) (gs.map slv ++ us.take i) ∧ (∀ (j gj : Nat) (x : CkI l.length), gs[j]? = some gj → (ckUpto l.length (ckN l.length))[j]? = some x → W0.heap.size ≤ gj ∧ RowE wr gj (numRow l x.k)) ∧ Below w.heap.size w wr ∧ W0.heap.size ≤ wr.heap.size ∧ wr.heap[D]? = some (.deferred (some []))) (fun x _ => l.length - (intOf x).toNat)
    case atStart => exact ⟨0, v, rfl, by omega, Hbx.out, by simpa using Hown.out, Hrows.out, Hbel.out, hsz, HK.out⟩
    case round =>
      obtain ⟨i, v, rfl, hi, hbx, hown, hrows, hbel, hsz, hK⟩ := hrel
      have Hbx := Lib.hid hbx
      have Hown := Lib.hid hown
      have Hrows := Lib.hid hrows
      have Hbel := Lib.hid hbel
      have HK := Lib.hid hK
      by_cases hlt : i < l.length
      · have hy : (i : Int) < (l.length : Int) := by omega
        have hy0 : (0 : Int) ≤ (i : Int) := by omega
        obtain ⟨⟨no, ys⟩, hx⟩ : ∃ x, l[i]? = some x := ⟨_, List.getElem?_eq_getElem hlt⟩
        obtain ⟨ca, u, cb, hu⟩ := Hcell.out i no ys hx
        obtain ⟨Au, cu, rfl, _, _, _⟩ := hu
        have hui := Lib.hid (take_succ' (Hus.out i _ hlt cb))
        have ca' := (Hbel.out.cell (p := ⟨g, off + i * 2, none⟩) hglt).trans ca
        have cb' := (Hbel.out.cell (p := ⟨g, off + i * 2 + 1, none⟩) hglt).trans cb
        have hc0 := (hbx.alloc (.cells #[.int .i64 (no : Nat), .slice Au ys.length cu] 131)).cell
        obtain ⟨i0, hi0, hz0, hz1, hz2⟩ := info_parts Tryz.infoRow
        clear ca cb hx hbx hown hrows hbel hK
        gi_wp2_with ((gi_at_builtin; refine wpListIn_append_own _ rfl _ _ 186 rfl W0.heap.size 52 i0 (.slice none 0 0) 1 24 Tryz.underlying186 hi0 hz0 hz1 hz2 rfl (by decide) _ _ _ rfl ((Hown.out.alloc (.cells #[.int .i64 (no : Nat), .slice Au ys.length cu] 131)).alloc _) ⟨wr.heap.size + 1, 0, none⟩ 1 1 [.slice Au ys.length cu] rfl rfl (by have := cell_one_new (wr.alloc (.cells #[.int .i64 (no : Nat), .slice Au ys.length cu] 131)) (.slice Au ys.length cu) 52; rw [size_alloc] at this; exact this) (by simp [Value.oneCell']) (by unfold maxLen; omega) (by omega) (le_alloc _ (le_alloc _ (by omega))) ?_; intro v' w1 hown' hgrow _; rw [Nat.add_assoc] at hown'; obtain ⟨g', cap', rfl⟩ := ownsRow_succ hown'; have hb1 := ((Hbx.out.alloc (.cells #[.int .i64 (no : Nat), .slice Au ys.length cu] 131)).alloc (.cells #[.slice Au ys.length cu] 52)).kept hgrow (Hbx.out.not_row (by decide) Hown.out); have hc1 := hb1.cell; have hf1 := hb1.frozen; have Hown' := Lib.hid hown'; have Hgrow := Lib.hid hgrow; have Hb1 := Lib.hid hb1; clear hown' hgrow hb1))
        obtain ⟨hx1, hx2, hx3, hx4, hx5⟩ := (Hbx.out.alloc (.cells #[.int .i64 (no : Nat), .slice Au ys.length cu] 131)).appended (n₀ := w.heap.size) (by decide) (row_low (Hown.out.alloc (.cells #[.int .i64 (no : Nat), .slice Au ys.length cu] 131)) (by omega)) (le_alloc _ (by omega)) (Nat.le_refl _) (row_low Hown'.out (by omega)) Hgrow.out
        have hown2 := Hown'.out.kept (grownBy_setCell' w1 w.heap.size (.slice (some ⟨g', 0, none⟩) (gs.length + (i + 1)) cap')) (.inr (hx1.not_row (by decide) Hown'.out).symm)
        have hnob2 : ∀ b cs t fr, wr.heap[b]? = some (.cells cs t fr) → t ≠ 52 → some b ≠ v.ownBlock := fun b cs t fr hb ht e => by
          obtain ⟨_, ⟨rfl, _⟩ | ⟨g2, cap2, cur2, rfl, h3, h4, _⟩⟩ := Hown.out
          · simp [Value.ownBlock] at e
          · have : b = g2 := by simpa [Value.ownBlock] using e
            rw [this, h4] at hb; cases hb; exact ht rfl
        have hkeep : ∀ b, b < wr.heap.size → some b ≠ v.ownBlock → b ≠ w.heap.size → (w1.setCell ⟨w.heap.size, 0, none⟩ (.slice (some ⟨g', 0, none⟩) (gs.length + (i + 1)) cap')).heap[b]? = wr.heap[b]? := fun b hb h1 h2 => by
          rw [Below.heap_setCell _ _ _ _ (fun e => h2 e), Hgrow.out.block b (le_alloc _ (le_alloc _ hb)) h1, Below.heap_alloc _ _ b (le_alloc _ hb), Below.heap_alloc _ _ b hb]
        have HF := Lib.hid (And.intro hx2 (And.intro hown2 (And.intro hx4 (And.intro hx5 (And.intro hkeep hnob2)))))
        clear hx1 hx2 hx3 hx4 hx5 hown2 hkeep hnob2
        go_roundw
        case rel =>
          obtain ⟨hx2, hown2, hx4, hx5, hkeep, hnob2⟩ := HF.out
          refine ⟨i + 1, _, by go_num, by omega, hx2, by rw [hui.out, ← List.append_assoc]; exact hown2, fun j gj x hj hx => ?_, (Hbel.out.trans ((Below.refl _ _).alloc (by omega) _)).trans hx5, Nat.le_trans (le_alloc _ (by omega)) hx4.size, ((KeepsOthers.alloc wr _).trans hx4).same D _ HK.out rfl⟩
          obtain ⟨p1, p2⟩ := Hrows.out j gj x hj hx
          exact ⟨p1, (hkeep gj p2.lt (hnob2 gj _ _ _ p2 (by decide)) (by omega)).trans p2⟩
        case measure => simp [intOf]; omega
      · have hy : ¬ (i : Int) < (l.length : Int) := by omega
        have hil : i = l.length := by omega
        have hc0 := hbx.cell
        have HIL := Lib.hid hil
        clear hbx hown hrows hbel hK hil
        gi_wp2
        refine ⟨by simp, .inl ⟨_, _, rfl, run_takeDeferred HK.out, ?_⟩⟩
        have hke : ∀ {b : Nat} {cs : Array Value} {t : TypeId} {fr : Nat × Nat}, wr.heap[b]? = some (.cells cs t fr) → (wr.putObj D (.deferred none)).heap[b]? = some (.cells cs t fr) := by
          intro b cs t fr hb
          have hne : D ≠ b := by rintro rfl; rw [HK.out] at hb; cases hb
          show (wr.heap.setIfInBounds D _)[b]? = _
          rw [Array.getElem?_setIfInBounds_ne hne]; exact hb
        obtain ⟨p1, p2⟩ := ckUpto_full l.length (ckN l.length) (Nat.le_refl _)
        have hg1 := Hgl.out
        have hil := HIL.out
        refine ⟨_, results_tmp rfl _ _ _, _, rfl, ?_, Kp.putObj (F := fun _ => False) (Kp.of_below Hbel.out) (.inr (by omega)) _⟩
        obtain ⟨q1, ⟨_, q2⟩ | ⟨g', cap, cur, e1, e2, e3, e4, e5, e6, e7⟩⟩ := Hown.out
        · omega
        · refine ⟨g, off, c, rfl, g', cap, cur, (show v = _ by rw [e1, hg1, p1, hil]), by omega, by omega, e5, hke e3, fun k hk => ?_, fun i' u hi' hu => ?_⟩
          · obtain ⟨x, hx, rfl⟩ := p2 k hk
            obtain ⟨gk, hgk⟩ : ∃ gk, gs[x.k]? = some gk := ⟨_, List.getElem?_eq_getElem (by omega)⟩
            obtain ⟨r1, r2⟩ := Hrows.out x.k gk x hgk hx
            refine ⟨gk, ?_, by omega, hke r2⟩
            have h9 := congrArg (·[x.k]?) e7
            simp only [List.getElem?_take, Array.getElem?_toList] at h9
            rw [if_pos (by omega), List.getElem?_append_left (by rw [List.length_map]; omega), List.getElem?_map, hgk] at h9
            exact h9
          · have h9 := congrArg (·[ckN l.length + i']?) e7
            simp only [List.getElem?_take, Array.getElem?_toList] at h9
            rw [if_pos (by omega), List.getElem?_append_right (by rw [List.length_map]; omega), List.length_map, show ckN l.length + i' - gs.length = i' by omega, List.getElem?_take, if_pos (by omega), Hus.out i' u hi' hu] at h9
            exact h9
end Go.Proofs.YthjbpbahcemfgaaGreatDoor
namespace Go.Proofs.YthjbpbahcemfgaaGreatDoor
open Go.RowKit
set_option maxHeartbeats 2000000
set_option maxRecDepth 20000

theorem BS.kp0 {w w' : World} {v : Value} {l : List (Nat × List Int)} (h : BS w v l) (k : Kp (fun _ => False) w w') : BS w' v l := by
  obtain ⟨A, c, rfl, h1, h2, h3⟩ := h
  refine ⟨A, c, rfl, h1, h2, fun hn => ?_⟩
  obtain ⟨g, off, rfl, h4⟩ := h3 hn
  refine ⟨g, off, rfl, fun i no ys hi => ?_⟩
  obtain ⟨a, u, b, d⟩ := h4 i no ys hi
  exact ⟨k.cell a (fun h => h), u, k.cell b (fun h => h), d.kp k (fun _ _ h => h)⟩
theorem run_lookup_no1 {w : World} {bm clock : Nat} {es : Array MapEntry} {ks : List Nat} {T E : TypeId} {z : Value} (hT : Tryz.prog.underlying T = some (.map 3 E)) (hz : (zeroValue E).run Tryz.prog w = .ok z w) (hb : w.heap[bm]? = some (.map es clock)) (hk : Keys es ks) (no : Int) (hn : ∀ k ∈ ks, (k : Int) ≠ no) :
    (Instr.lookup T (.map (some bm)) (.int .i64 no) false).run Tryz.prog w = .ok z w := by
  have hf := run_find (w := w) (findNow_none es.toList ks 0 hk hn)
  simp [Instr.lookup, run_underlying hT, run_check, hf, hz, Result.andThen, getObj, Sem.run, hb]
theorem zero_bool (w : World) : (zeroValue 4).run Tryz.prog w = .ok (.bool false) w := by kernel_rfl

theorem journal_good {w : World} {bj bd at_ most : Nat} {D : DSt} {F : Nat → Prop} (hj : JBlk w bj bd at_ most) (h : DRep w bd D F) (v : Value) (l : List (Nat × List Int)) (hl : BS w v l)
    (hin : ∀ x ∈ l, x.1 < D.n ∧ x.1 < at_ ∧ x.2.length = 128) (hnd : (l.map (·.1)).Nodup) (hll : l.length ≤ 2048) :
    Calls Tryz.prog 103 #[.pointer (some ⟨bj, 0, none⟩), v] w fun e w' => e = .returned (.bool true) ∧ Kp (fun _ => False) w w' := by
  obtain ⟨A, c, rfl, hc1, hc2, _⟩ := id hl
  unfold maxLen at hc2
  have HJ := Lib.hid hj
  have H := Lib.hid h
  have HL := Lib.hid hl
  have Hin := Lib.hid hin
  have Hnd := Lib.hid hnd
  have hmm := @run_makeMap Tryz.prog
  have hfew := h.few
  clear hj h hl hin hnd
  go_enter Tryz.func103, Tryz.ntmps103
  go_wp2
  obtain ⟨bs, hbs⟩ : ∃ bs, w.heap.size = bs := ⟨_, rfl⟩
  have hm0 : (w.alloc (.map #[] 0)).heap[bs]? = some (.map #[] 0) := by rw [← hbs]; exact new_blk _ _
  rw [hbs]
  have Hbs := Lib.hid hbs
  clear hbs hmm
  go_loopw [12] (fun x wr => ∃ (i : Nat) (es : Array MapEntry) (cl : Nat), x = .int .i64 (i : Nat) ∧ i ≤ l.length ∧ wr.heap[bs]? = some (.map es cl) ∧ Keys es ((l.take i).map (·.1)) ∧ Kp (fun _ => False) w wr) (fun x _ => l.length - (intOf x).toNat)
  case atStart => exact ⟨0, #[], 0, rfl, by omega, hm0, Keys.nil, (Kp.refl _ _).alloc _⟩
  case round =>
    obtain ⟨i, es, cl, rfl, hi, hm, hkeys, hk⟩ := hrel
    have Hm := Lib.hid hm
    have Hk := Lib.hid hk
    have Hkeys := Lib.hid hkeys
    have cj := hk.blk HJ.out (fun h => h)
    have c0 := cell_blk cj 0
    have c1 := cell_blk cj 1
    have c2 := cell_blk cj 2
    simp at c0 c1 c2
    obtain ⟨A', c', e', _, _, hcells⟩ := HL.out.kp0 hk
    cases e'
    by_cases hlt : i < l.length
    · have hy : (i : Int) < (l.length : Int) := by omega
      have hy0 : (0 : Int) ≤ (i : Int) := by omega
      obtain ⟨⟨no, ys⟩, hx⟩ : ∃ x, l[i]? = some x := ⟨_, List.getElem?_eq_getElem hlt⟩
      obtain ⟨g, off, rfl, hcell⟩ := hcells (by rintro rfl; simp at hlt)
      obtain ⟨ca, u, cb, hu⟩ := hcell i no ys hx
      have hino := Hin.out _ (List.mem_of_getElem? hx)
      obtain ⟨Au, cu, hue, _, _, _⟩ := id hu
      rw [hino.2.2] at hue
      subst hue
      have hnew : ∀ k ∈ (l.take i).map (·.1), ((k : Nat) : Int) ≠ ((no : Nat) : Int) := by
        intro k hk' e
        have e' : k = no := by omega
        rw [e'] at hk'
        have h1 := Hnd.out
        rw [← List.take_append_drop i l, List.map_append, List.nodup_append] at h1
        refine h1.2.2 _ hk' _ ?_ rfl
        rw [List.mem_map]
        exact ⟨(no, ys), List.mem_of_getElem? (i := 0) (by rw [List.getElem?_drop]; exact hx), rfl⟩
      have Hnew := Lib.hid hnew
      have hsucc := Lib.hid (show (l.take (i + 1)).map (·.1) = (l.take i).map (·.1) ++ [no] by rw [take_succ' hx]; simp)
      have d1 : decide (at_ ≤ no) = false := decide_eq_false (by have := hino.2.1; omega)
      have d2 : decide ((no : Int) < 0) = false := decide_eq_false (by omega)
      have d3 : decide (D.n ≤ no) = false := decide_eq_false (by have := hino.1; omega)
      clear hcells hcell hu hx hm hkeys hk cj hino hnew
      go_wp2_with fail
      have ka : Kp (fun _ => False) wr (wr.alloc (.cells #[.int .i64 (no : Nat), .slice Au 128 cu] 131)) := (Kp.refl _ _).alloc _
      have nb := new_blk wr (.cells #[.int .i64 (no : Nat), .slice Au 128 cu] 131)
      generalize hwa : wr.alloc (.cells #[.int .i64 (no : Nat), .slice Au 128 cu] 131) = wa at *
      generalize wr.heap.size = b at *
      have x0 := cell_blk nb 0
      have x1 := cell_blk nb 1
      simp at x0 x1
      have a0 := ka.cell c0 (fun h => h)
      have a1 := ka.cell c1 (fun h => h)
      have a2 := ka.cell c2 (fun h => h)
      have Hka := Lib.hid (Hk.out.trans ka (Gr.refl _ _))
      have Hma := Lib.hid (ka.blk Hm.out (fun h => h))
      clear hwa nb ka ca cb c0 c1 c2 Hm
      go_quiet (fail)
      go_wp2_with fail
      obtain ⟨wc, hwc⟩ : ∃ wc, wc = wa.drewN nq := ⟨_, rfl⟩
      have kq : Kp (fun _ => False) wa wc := by rw [hwc]; exact (Kp.refl _ _).drewN _
      rw [← hwc]
      have y0 := kq.cell x0 (fun h => h)
      have y1 := kq.cell x1 (fun h => h)
      have b0 := kq.cell a0 (fun h => h)
      have Hkc := Lib.hid (Hka.out.trans kq (Gr.refl _ _))
      have Hmc := Lib.hid (kq.blk Hma.out (fun h => h))
      clear hwc kq x0 x1 a0 a1 a2 Hma Hka
      have hlk : ∀ nq : Nat, (Instr.lookup 220 (.map (some bs)) (.int .i64 (no : Nat)) false).run Tryz.prog (wc.drewN nq) = .ok (.bool false) (wc.drewN nq) := fun nq => run_lookup_no1 (w := wc.drewN nq) Tryz.underlying220 (zero_bool _) Hmc.out Hkeys.out _ Hnew.out
      go_quiet ((go_at_call 115; exact Calls.quiet_of_same ((disk_Blocks (by exact H.out.kp0 (Hkc.out.drewN _))).mono fun _ _ h => ⟨h.1, h.2.symm⟩)))
      clear hlk
      go_wp2_with (at_mapUpdate; refine wpList_update_run rfl _ _ _ _ rfl _ _ _ rfl rfl rfl (run_update_no Tryz.underlying220 ((Kp.refl (fun _ => False) wc).drewN _ |>.blk Hmc.out (fun h => h)) Hkeys.out _ Hnew.out _) ?_)
      go_roundw
      case rel => exact ⟨i + 1, _, _, by go_num, by omega, putO_same (show bs < wc.heap.size from lt_blk Hmc.out), by rw [hsucc.out]; exact Hkeys.out.push _ _ _, Kp.putObj (F := fun _ => False) (Hkc.out.drewN _) (.inr (Nat.le_of_eq Hbs.out)) _⟩
      case measure => simp [intOf]; omega
    · have hy : ¬ (i : Int) < (l.length : Int) := by omega
      clear hcells hm hkeys hk cj
      go_wp2
      go_ret
      exact ⟨rfl, Hk.out⟩
end Go.Proofs.YthjbpbahcemfgaaGreatDoor
namespace Go.Proofs.YthjbpbahcemfgaaGreatDoor
open Go.RowKit
set_option maxHeartbeats 2000000
set_option maxRecDepth 20000

/-- A slice of blocks to be written, with what its memory is. -/
def BT (w : World) (v : Value) (l : List (Nat × List Int)) : Prop :=
  ∃ A c, v = .slice A l.length c ∧ l.length ≤ c ∧ c ≤ maxLen ∧ (l ≠ [] → ∃ g off cs fr, A = some ⟨g, off, none⟩ ∧ w.heap[g]? = some (.cells cs 131 fr) ∧ ∀ i no ys, l[i]? = some (no, ys) → cs[off + i * 2]? = some (.int .i64 (no : Nat)) ∧ ∃ gr cu, cs[off + i * 2 + 1]? = some (.slice (some ⟨gr, 0, none⟩) 128 cu) ∧ 128 ≤ cu ∧ cu ≤ maxLen ∧ Row w gr ys ∧ ys.length = 128)
theorem BT.bs {w : World} {v : Value} {l : List (Nat × List Int)} (h : BT w v l) : BS w v l := by
  obtain ⟨A, c, rfl, h1, h2, h3⟩ := h
  refine ⟨A, c, rfl, h1, h2, fun hn => ?_⟩
  obtain ⟨g, off, cs, fr, rfl, hb, h4⟩ := h3 hn
  refine ⟨g, off, rfl, fun i no ys hi => ?_⟩
  obtain ⟨a, gr, cu, b, d1, d2, d3, d4⟩ := h4 i no ys hi
  refine ⟨by rw [cell_blk hb]; exact a, _, by rw [cell_blk hb]; exact b, ?_⟩
  have := d3.sl cu (by omega) d2
  rw [d4] at this; exact this
theorem Row.kpD {w W : World} {bd g : Nat} {D : DSt} {F : Nat → Prop} {xs : List Int} (h : DRep w bd D F) (k : KpD bd w W) (hr : Row w g xs) : Row W g xs := by
  obtain ⟨cs, rest, h1, h2⟩ := hr
  exact ⟨cs, rest, k.blk h h1 (by intro cs fr e; injection e with _ e2; exact absurd e2 (by decide)) (by intro cs fr e; injection e with _ e2; exact absurd e2 (by decide)), h2⟩
theorem BT.kpD {w W : World} {bd : Nat} {D : DSt} {F : Nat → Prop} {v : Value} {l : List (Nat × List Int)} (ht : BT w v l) (h : DRep w bd D F) (k : KpD bd w W) : BT W v l := by
  obtain ⟨A, c, rfl, h1, h2, h3⟩ := ht
  refine ⟨A, c, rfl, h1, h2, fun hn => ?_⟩
  obtain ⟨g, off, cs, fr, rfl, hb, h4⟩ := h3 hn
  refine ⟨g, off, cs, fr, rfl, k.blk h hb (by intro cs fr e; injection e with _ e2; exact absurd e2 (by decide)) (by intro cs fr e; injection e with _ e2; exact absurd e2 (by decide)), fun i no ys hi => ?_⟩
  obtain ⟨a, gr, cu, b, d1, d2, d3, d4⟩ := h4 i no ys hi
  exact ⟨a, gr, cu, b, d1, d2, d3.kpD h k, d4⟩
/-- The rows behind the head. -/
def bodyRows (l : List (Nat × List Int)) : List (List Int) := (List.range (ckN l.length)).map (numRow l) ++ l.map (·.2)
theorem bodyRows_len (l : List (Nat × List Int)) : (bodyRows l).length = ckN l.length + l.length := by simp [bodyRows]
theorem numRow_len (l : List (Nat × List Int)) (k : Nat) : (numRow l k).length = 128 := nr_len _ _ (by omega)
/-- .. as they stand in memory, whatever the disk's own blocks are turned to. -/
theorem body_ss {w w1 W : World} {v u : Value} {l : List (Nat × List Int)} {F : Nat → Prop} (hb : BodyOut w w1 v u l) (hw : BT w v l) (hT : BT W v l) (k : Kp F w1 W) (hF : ∀ b, F b → b < w.heap.size) (hsame : ∀ (b : Nat) (cs : Array Value) (fr : Nat × Nat), w.heap[b]? = some (.cells cs 131 fr) → W.heap[b]? = some (.cells cs 131 fr)) (hn : l ≠ []) :
    SS W u (bodyRows l) := by
  obtain ⟨g, off, c, rfl, g', cap, cs, rfl, h1, h2, h3, h4, h5, h6⟩ := hb
  refine ⟨_, cap, by rw [bodyRows_len], by rw [bodyRows_len]; exact h2, h3, fun _ => ⟨_, rfl, fun i ys hi => ?_⟩⟩
  have hg' : W.heap[g']? = some (.cells cs 52 (0, 0)) := k.blk h4 (fun h => by have := hF _ h; omega)
  have e : (⟨g', 0, none⟩ : Addr).add i = ⟨g', i, none⟩ := by unfold Addr.add; split <;> simp_all
  rw [e, cell_blk hg']
  by_cases hlt : i < ckN l.length
  · rw [bodyRows, List.getElem?_append_left (by simpa using hlt)] at hi
    simp [hlt] at hi
    subst hi
    obtain ⟨gk, a1, a2, a3⟩ := h5 i hlt
    refine ⟨_, a1, ?_⟩
    have := (a3.kp k (fun h => by have := hF _ h; omega)).sl (by rw [numRow_len]; simp [maxLen])
    rw [numRow_len] at this; exact this
  · rw [bodyRows, List.getElem?_append_right (by simp; omega)] at hi
    simp only [List.length_map, List.length_range, List.getElem?_map, Option.map_eq_some_iff] at hi
    obtain ⟨⟨no, ys'⟩, hx, rfl⟩ := hi
    have hil := (List.getElem?_eq_some_iff.1 hx).1
    obtain ⟨A1, c1, e1, _, _, h7⟩ := hw
    obtain ⟨A2, c2, e2, _, _, h8⟩ := hT
    simp only [Value.slice.injEq] at e1 e2
    obtain ⟨g1, off1, cs1, fr1, e3, hb1, h9⟩ := h7 hn
    obtain ⟨g2, off2, cs2, fr2, e4, hb2, h10⟩ := h8 hn
    rw [← e1.1] at e3
    rw [← e2.1] at e4
    simp only [Option.some.injEq, Addr.mk.injEq] at e3 e4
    obtain ⟨rfl, rfl, _⟩ := e3
    obtain ⟨rfl, rfl, _⟩ := e4
    have hcs := hsame _ _ _ hb1
    rw [hb2] at hcs
    cases hcs
    obtain ⟨_, gr, cu, b, d1, d2, d3, d4⟩ := h10 _ no ys' hx
    refine ⟨.slice (some ⟨gr, 0, none⟩) 128 cu, ?_, ?_⟩
    · have := h6 (i - ckN l.length) (.slice (some ⟨gr, 0, none⟩) 128 cu) hil (by rw [cell_blk hb1]; exact b)
      rw [show ckN l.length + (i - ckN l.length) = i by omega] at this
      exact this
    · have := d3.sl cu (by omega) d2
      rw [d4] at this; exact this
/-- What is written behind the head. -/
def wsOf (at_ : Nat) (rows : List (List Int)) : List (Nat × List Int) := (List.range rows.length).map fun i => (at_ + 1 + i, rows.getD i [])
theorem wsOf_get {at_ i : Nat} {rows : List (List Int)} {r : List Int} (h : rows[i]? = some r) : (wsOf at_ rows)[i]? = some (at_ + 1 + i, r) := by
  have := (List.getElem?_eq_some_iff.1 h).1
  simp only [wsOf, List.getElem?_map, List.getElem?_range this, Option.map_some, List.getD_eq_getElem?_getD, h, Option.getD_some]
theorem wsOf_len (at_ : Nat) (rows : List (List Int)) : (wsOf at_ rows).length = rows.length := by simp [wsOf]
/-- All that a Commit writes, one by one. -/
def cwOf (at_ : Nat) (l : List (Nat × List Int)) : List (Nat × List Int) := wsOf at_ (bodyRows l) ++ ((at_, headRow (l.length : Nat) (bodyRows l)) :: (l ++ [(at_, zs 128)]))
theorem bodyRows_row {l : List (Nat × List Int)} (hl : ∀ x ∈ l, x.2.length = 128) : ∀ r ∈ bodyRows l, r.length = 128 := by
  intro r hr
  rcases List.mem_append.1 hr with h | h
  · obtain ⟨k, _, rfl⟩ := List.mem_map.1 h
    exact numRow_len l k
  · obtain ⟨x, hx, rfl⟩ := List.mem_map.1 h
    exact hl x hx
theorem journal_Commit {w : World} {bj bd at_ most : Nat} {D : DSt} {F : Nat → Prop} (hj : JBlk w bj bd at_ most) (h : DRep w bd D F) (hz : D.Fz) (v : Value) (l : List (Nat × List Int)) (ht : BT w v l)
    (hin : ∀ x ∈ l, x.1 < D.n ∧ x.1 < at_ ∧ x.2.length = 128) (hnd : (l.map (·.1)).Nodup) (hne : l ≠ []) (hll : l.length ≤ most) (hm2 : most ≤ 200) (hat : at_ + need most ≤ D.n) :
    Calls Tryz.prog 65 #[.pointer (some ⟨bj, 0, none⟩), v] w fun e w' => ∃ u, e = .returned u ∧ ErrV w' u (wrapE (tx [106, 111, 117, 114, 110, 97, 108]) (tx []) (D.runs (cwOf at_ l)).1) ∧
      ∃ F', DRep w' bd (D.runs (cwOf at_ l)).2 F' ∧ Kp F w w' ∧ Gr F F' w.heap.size ∧ KpD bd w w' := by
  obtain ⟨A, c, rfl, hc1, hc2, _⟩ := id ht
  unfold maxLen at hc2
  have hpos : 0 < l.length := List.length_pos_iff.2 hne
  have hfew := h.few
  have hG := Lib.hid (journal_good hj h _ l ht.bs hin hnd (by omega))
  have HJ := Lib.hid hj
  have H := Lib.hid h
  have Hz := Lib.hid hz
  have HT := Lib.hid ht
  have Hin := Lib.hid hin
  have hN : ckN l.length + l.length + 1 ≤ need most := by unfold ckN need; omega
  have c2 := cell_blk hj 2
  simp at c2
  have d1 : decide (most < l.length) = false := decide_eq_false (by omega)
  have d2 : ¬ (l.length = 0) := by omega
  clear hj h hz ht hin hnd
  go_enter Tryz.func65, Tryz.ntmps65
  go_wp2_with fail
  refine hG.out.mono ?_
  rintro e wg ⟨rfl, hkg⟩
  have cg2 := hkg.cell c2 (fun h => h)
  have Hkg := Lib.hid hkg
  clear c2 hkg hG
  go_wp2_with fail
  refine (journal_body (HT.out.bs.kp0 Hkg.out) hne (by omega) (fun x hx => by have := (Hin.out x hx).1; omega)).mono ?_
  rintro e w1 ⟨u, rfl, hbo, hk1⟩
  have Hbo := Lib.hid hbo
  obtain ⟨_, _, _, _, g', cap, cs, rfl, b1, b2, b3, b4, _, _⟩ := hbo
  have Hkb := Lib.hid hk1
  have Hk1 := Lib.hid (Hkg.out.trans hk1 (Gr.refl _ _))
  have hs1 := Hkg.out.size
  have hs2 := hk1.size
  have hF0 := Lib.hid (show ∀ b, F b → b < wg.heap.size from fun b hb => by have := H.out.lt b hb; omega)
  have H1 := Lib.hid (H.out.kp0 Hk1.out)
  have HJ1 := Lib.hid (show JBlk w1 bj bd at_ most from Hk1.out.blk HJ.out (fun h => h))
  have Hd2 := Lib.hid d2
  clear hk1 cg2 d1 d2 b4 b1
  generalize hN2 : ckN l.length + l.length = N at *
  have hss := Lib.hid (show ∀ W, Kp F w1 W → KpD bd w1 W → SS W (.slice (some ⟨g', 0, none⟩) N cap) (bodyRows l) from fun W k kD =>
    body_ss Hbo.out (HT.out.kpD H.out (KpD.of0 Hkg.out)) (HT.out.kpD H.out ((KpD.of0 Hk1.out).trans kD)) k hF0.out (fun b cs fr hb => kD.blk H1.out (Kp.blk (w := wg) (w' := w1) (F := fun _ => False) Hkb.out hb (fun h => h)) (by intro cs fr e; injection e with _ e2; exact absurd e2 (by decide)) (by intro cs fr e; injection e with _ e2; exact absurd e2 (by decide))) hne)
  have hrl := Lib.hid (bodyRows_row (l := l) (fun x hx => (Hin.out x hx).2.2))
  have hRN : (bodyRows l).length = N := by rw [bodyRows_len]; exact hN2
  have HRN := Lib.hid hRN
  clear hRN hN2
  go_wp2_with fail
  go_loopw [33] (fun x wr => ∃ (i : Nat) (F' : Nat → Prop), x = .int .i64 (i : Nat) ∧ i ≤ N ∧ (D.runs ((wsOf at_ (bodyRows l)).take i)).1 = none ∧ DRep wr bd (D.runs ((wsOf at_ (bodyRows l)).take i)).2 F' ∧ Kp F w1 wr ∧ Gr F F' w1.heap.size ∧ KpD bd w1 wr) (fun x _ => N - (intOf x).toNat)
  case atStart => exact ⟨0, F, rfl, by omega, rfl, H1.out, Kp.refl _ _, Gr.refl _ _, KpD.of0 (Kp.refl _ _)⟩
  case round =>
    obtain ⟨i, F1, rfl, hi, hnone, hD, hk, hg, hkd⟩ := hrel
    have HD := Lib.hid hD
    have Hk := Lib.hid hk
    have Hg := Lib.hid hg
    have Hkd := Lib.hid hkd
    have Hnone := Lib.hid hnone
    have hl0 : ∀ W : World, KpD bd wr W → W.cell? ⟨bj, 0, none⟩ = some (.pointer (some ⟨bd, 0, none⟩)) := fun W hW => by
      have := cell_blk (HJ1.out.kpD H1.out (Hkd.out.trans hW)) 0
      simpa using this
    have hl1 : ∀ W : World, KpD bd wr W → W.cell? ⟨bj, 1, none⟩ = some (.int .i64 (at_ : Nat)) := fun W hW => by
      have := cell_blk (HJ1.out.kpD H1.out (Hkd.out.trans hW)) 1
      simpa using this
    have hsw := hss.out wr hk hkd
    have HSW := Lib.hid hsw
    by_cases hlt : i < N
    · have hy : (i : Int) < (N : Int) := by omega
      have hy0 : (0 : Int) ≤ (i : Int) := by omega
      obtain ⟨r, hr⟩ : ∃ r, (bodyRows l)[i]? = some r := ⟨_, List.getElem?_eq_getElem (by rw [HRN.out]; omega)⟩
      have hr128 := hrl.out r (List.mem_of_getElem? hr)
      obtain ⟨A2, c2, e2, _, _, h2⟩ := hsw
      simp only [Value.slice.injEq] at e2
      obtain ⟨ad, e3, h3⟩ := h2 (by intro h0; rw [h0] at hr; cases hr)
      rw [← e2.1] at e3
      cases e3
      obtain ⟨ur, hcr, hsr⟩ := h3 i r hr
      rw [show (⟨g', 0, none⟩ : Addr).add i = ⟨g', i, none⟩ by unfold Addr.add; split <;> simp_all] at hcr
      have Hsr := Lib.hid hsr
      have Hws := Lib.hid (wsOf_get (at_ := at_) hr)
      have Hr128 := Lib.hid hr128
      obtain ⟨Ar, cr, hre, _, _, _⟩ := id hsr
      rw [hr128] at hre
      subst hre
      clear h2 h3 e2 hr hsr hD hk hg hkd hnone hr128
      go_wp2_with fail
      have hw1 : IntKind.i64.wrap ((at_ : Int) + 1) = (at_ : Int) + 1 := IntWalk.i64_in _ (by omega)
      have hw2 : IntKind.i64.wrap ((at_ : Int) + 1 + (i : Int)) = (at_ : Int) + 1 + (i : Int) := IntWalk.i64_in _ (by omega)
      have HZ := Lib.hid (DSt.runs_Fz ((wsOf at_ (bodyRows l)).take i) Hz.out)
      have HN := Lib.hid (DSt.runs_n ((wsOf at_ (bodyRows l)).take i) D)
      have HR := Lib.hid (DSt.runs_none Hnone.out (at_ + 1 + i, r))
      have hkk : KpD bd wr wr := KpD.of0 (Kp.refl _ _)
      go_region_held_law (fun W => KpD bd wr W)
        (first | assumption | exact KpD.of0 ((Kp.refl _ _).drew) | exact KpD.trans (by assumption) (by assumption) | exact KpD.trans (KpD.of0 ((Kp.refl _ _).drew)) (by assumption))
        (first | (go_at_call 106; refine (disk_Write_any (HD.out.kp0 ((Kp.refl _ _).drew)) HZ.out (at_ + 1 + i) (by rw [HN.out]; omega) _ r (Hsr.out.kp (F := fun _ => False) ((Kp.refl _ _).drew) (fun _ _ h => h)) Hr128.out).mono ?_; rintro e w5 ⟨u5, rfl, hu5, F5, hr5, hk5, hg5, hkd5⟩))
      have kD5 := Lib.hid (Hkd.out.trans (show KpD bd wr w5 by assumption))
      have k5 := Lib.hid ((Hk.out.drew).trans hk5 Hg.out)
      have g5 := Lib.hid (Hg.out.trans hg5 (show w1.heap.size ≤ wr.heap.size from Hk.out.size))
      have R5 := Lib.hid hr5
      have U5 := Lib.hid hu5
      clear hkd5 hk5 hg5 hr5 hu5 hl0 hl1 hkk
      cases hd : (D.runs ((wsOf at_ (bodyRows l)).take i)).2.dead with
      | true =>
        have hu := U5.out
        simp only [DSt.tells, hd, if_true, ErrV] at hu
        obtain ⟨t5, x5, rfl⟩ := hu.iface
        have hs := Lib.hid (DSt.runs_stop (m := (at_, headRow (l.length : Nat) (bodyRows l)) :: (l ++ [(at_, zs 128)])) Hnone.out Hws.out hd)
        have hp : (D.runs ((wsOf at_ (bodyRows l)).take i)).2.put (at_ + 1 + i) r = (D.runs ((wsOf at_ (bodyRows l)).take i)).2 := by simp [DSt.put, hd]
        have R6 := Lib.hid (hp ▸ R5.out)
        clear hu hd hp
        go_wp2_with fail
        refine (journal_told _ _ _ U5.out).mono ?_
        rintro e w6 ⟨u6, rfl, hu6, hk6⟩
        have Hu6 := Lib.hid hu6
        have Hk6 := Lib.hid hk6
        clear hu6 hk6
        go_wp2_with fail
        go_ret
        rw [cwOf, hs.out]
        exact ⟨_, rfl, Hu6.out, F5, R6.out.kp0 Hk6.out, ((Hk1.out.mono (fun _ h => h.elim)).trans k5.out (Gr.refl _ _)).trans (F1 := fun _ => False) Hk6.out (fun _ h => h.elim), g5.out.mono Hk1.out.size, ((KpD.of0 Hk1.out).trans kD5.out).trans (KpD.of0 Hk6.out)⟩
      | false =>
        have hu := U5.out
        simp only [DSt.tells, hd, ErrV] at hu
        have ht : (D.runs ((wsOf at_ (bodyRows l)).take i)).2.tells (at_ + 1 + i) = none := by simp [DSt.tells, hd]
        have HTl := Lib.hid ht
        have hu' : u5 = .nilIface := by simpa using hu
        subst hu'
        clear hu ht hd
        go_wp2_with fail
        go_roundw
        case rel => exact ⟨i + 1, F5, by go_num, by omega, by rw [take_succ' Hws.out, HR.out]; exact HTl.out, by rw [take_succ' Hws.out, HR.out]; exact R5.out, k5.out, g5.out, kD5.out⟩
        case measure => simp [intOf]; omega
    · have hy : ¬ (i : Int) < (N : Int) := by omega
      have hiN : (wsOf at_ (bodyRows l)).take i = wsOf at_ (bodyRows l) := List.take_of_length_le (by rw [wsOf_len, HRN.out]; omega)
      rw [hiN] at hD hnone
      have HD := Lib.hid hD
      have Hnone := Lib.hid hnone
      have HZ := Lib.hid (DSt.runs_Fz (wsOf at_ (bodyRows l)) Hz.out)
      have HN := Lib.hid (DSt.runs_n (wsOf at_ (bodyRows l)) D)
      clear hD hnone hk hg hkd hsw hiN
      go_wp2_with fail
      have hkk : KpD bd wr wr := KpD.of0 (Kp.refl _ _)
      go_region_held_law (fun W => KpD bd wr W)
        (first | assumption | exact KpD.of0 ((Kp.refl _ _).drew) | exact KpD.trans (by assumption) (by assumption) | exact KpD.trans (KpD.of0 ((Kp.refl _ _).drew)) (KpD.of0 (by assumption)) | exact KpD.trans (KpD.of0 ((Kp.refl _ _).drew)) (by assumption))
        (first | (go_at_call 108; refine (journal_head (HSW.out.fresh (F := fun _ => False) ((Kp.refl _ _).drew) (fun _ h => h.elim)) (l.length : Nat) (by omega) (by omega)).mono ?_; rintro e w5 ⟨rfl, hr5, hk5⟩) | (go_at_call 106; refine (disk_Write_any ((HD.out.kp0 ((Kp.refl _ _).drew)).kp0 hk5) HZ.out at_ (by rw [HN.out]; omega) _ (headRow (l.length : Nat) (bodyRows l)) (by have := hr5.sl (by rw [headRow_len]; simp [maxLen]); rw [headRow_len] at this; exact this) (headRow_len _ _)).mono ?_; rintro e w6 ⟨u6, rfl, hu6, F6, hr6, hk6, hg6, hkd6⟩))
      have kD6 := Lib.hid (Hkd.out.trans (show KpD bd wr w6 by assumption))
      have k6 := Lib.hid (((Hk.out.drew).trans (F1 := fun _ => False) hk5 (fun _ h => h.elim)).trans hk6 Hg.out)
      have g6 := Lib.hid (Hg.out.trans hg6 (Nat.le_trans (show w1.heap.size ≤ wr.heap.size from Hk.out.size) (show wr.heap.size ≤ w5.heap.size from hk5.size)))
      have R6 := Lib.hid hr6
      have U6 := Lib.hid hu6
      clear hkd6 hk6 hg6 hr6 hu6 hl0 hl1 hkk hr5 hk5
      have happ := Lib.hid (show D.runs (cwOf at_ l) = (D.runs (wsOf at_ (bodyRows l))).2.runs ((at_, headRow (l.length : Nat) (bodyRows l)) :: (l ++ [(at_, zs 128)])) by rw [cwOf, DSt.runs_app, if_pos Hnone.out])
      cases hd : (D.runs (wsOf at_ (bodyRows l))).2.dead with
      | true =>
        have hu := U6.out
        simp only [DSt.tells, hd, if_true, ErrV] at hu
        obtain ⟨t5, x5, rfl⟩ := hu.iface
        have hs := Lib.hid (show D.runs (cwOf at_ l) = ((D.runs (wsOf at_ (bodyRows l))).2.tells at_, (D.runs (wsOf at_ (bodyRows l))).2) by rw [happ.out, DSt.runs, if_pos hd, DSt.tells, if_pos hd])
        have hp : (D.runs (wsOf at_ (bodyRows l))).2.put at_ (headRow (l.length : Nat) (bodyRows l)) = (D.runs (wsOf at_ (bodyRows l))).2 := by simp [DSt.put, hd]
        have R7 := Lib.hid (hp ▸ R6.out)
        clear hu hd hp
        go_wp2_with fail
        refine (journal_told _ _ _ U6.out).mono ?_
        rintro e w7 ⟨u7', rfl, hu7, hk7⟩
        have Hu7 := Lib.hid hu7
        have Hk7 := Lib.hid hk7
        clear hu7 hk7
        go_wp2_with fail
        go_ret
        rw [hs.out]
        exact ⟨_, rfl, Hu7.out, F6, R7.out.kp0 Hk7.out, ((Hk1.out.mono (fun _ h => h.elim)).trans k6.out (Gr.refl _ _)).trans (F1 := fun _ => False) Hk7.out (fun _ h => h.elim), g6.out.mono Hk1.out.size, ((KpD.of0 Hk1.out).trans kD6.out).trans (KpD.of0 Hk7.out)⟩
      | false =>
        have hu := U6.out
        simp only [DSt.tells, hd, ErrV] at hu
        have hu' : u6 = .nilIface := by simpa using hu
        subst hu'
        have hs := Lib.hid (show D.runs (cwOf at_ l) = ((D.runs (wsOf at_ (bodyRows l))).2.put at_ (headRow (l.length : Nat) (bodyRows l))).runs (l ++ [(at_, zs 128)]) by rw [happ.out, DSt.runs, hd, DSt.put, hd]; rfl)
        have HN6 := Lib.hid (show ((D.runs (wsOf at_ (bodyRows l))).2.put at_ (headRow (l.length : Nat) (bodyRows l))).n = D.n by rw [DSt.put_n, HN.out])
        have HZ6 := Lib.hid (HZ.out.put at_ (headRow (l.length : Nat) (bodyRows l)))
        have HL := Lib.hid (journal_lay (HJ1.out.kpD H1.out kD6.out) R6.out HZ6.out _ l (fun W hW => ((HT.out.kpD H.out ((KpD.of0 Hk1.out).trans kD6.out)).kpD R6.out hW).bs) (fun x hx => ⟨by rw [HN6.out]; exact (Hin.out x hx).1, (Hin.out x hx).2.2⟩) (by rw [HN6.out]; omega) (by omega))
        clear hu hd
        go_wp2_with fail
        refine HL.out.mono ?_
        rintro e w7 ⟨u7', rfl, hu7, F7, hr7, hk7, hg7, hkd7⟩
        have Hu7 := Lib.hid hu7
        have Hk7 := Lib.hid (k6.out.trans hk7 g6.out)
        have Hg7 := Lib.hid (g6.out.trans hg7 k6.out.size)
        have Hkd7 := Lib.hid (kD6.out.trans hkd7)
        have R7 := Lib.hid hr7
        clear hu7 hk7 hg7 hkd7 hr7
        go_wp2_with fail
        refine (journal_told _ _ _ Hu7.out).mono ?_
        rintro e w8 ⟨u8', rfl, hu8, hk8⟩
        have Hu8 := Lib.hid hu8
        have Hk8 := Lib.hid hk8
        clear hu8 hk8
        go_wp2_with fail
        go_ret
        rw [hs.out]
        exact ⟨_, rfl, Hu8.out, F7, R7.out.kp0 Hk8.out, ((Hk1.out.mono (fun _ h => h.elim)).trans Hk7.out (Gr.refl _ _)).trans (F1 := fun _ => False) Hk8.out (fun _ h => h.elim), Hg7.out.mono Hk1.out.size, ((KpD.of0 Hk1.out).trans Hkd7.out).trans (KpD.of0 Hk8.out)⟩
end Go.Proofs.YthjbpbahcemfgaaGreatDoor
