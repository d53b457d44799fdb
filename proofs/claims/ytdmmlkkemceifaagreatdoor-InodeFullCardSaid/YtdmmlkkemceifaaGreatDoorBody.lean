/- The journal: what stands behind the head. -/
import Derived.Test.YtdmmlkkemceifaaGreatDoorChunk
import Derived.RangeFuncFrom
import Derived.RangeFuncBox
import Derived.Maps.AppendAt
namespace Go.Proofs.YtdmmlkkemceifaaGreatDoor
open Go.RowKit Go.Shelf
set_option maxHeartbeats 20000000
set_option maxRecDepth 100000
attribute [local go_sem] Oper.semAt_some

/-- A block of numbers, of which i are written. -/
def nr (ns : List Nat) : Nat → List Int
  | 0 => zs 128
  | i + 1 => splice (nr ns i) (8 * i) (le8 ((ns.getD i 0 : Nat) : Int))
theorem nr_len (ns : List Nat) : ∀ i, i ≤ 16 → (nr ns i).length = 128
  | 0, _ => zs_length _
  | i + 1, h => by
    have := nr_len ns i (by omega)
    rw [nr, length_splice _ _ _ (by rw [this, le8_len]; omega), this]
/-- The numbers of the k-th sixteen. -/
def ckNos (l : List (Nat × List Int)) (k : Nat) : List Nat := ((l.map (·.1)).drop (k * 16)).take 16
theorem ckNos_get {l : List (Nat × List Int)} {k i no : Nat} {ys : List Int} (hi : i < 16) (h : l[k * 16 + i]? = some (no, ys)) : (ckNos l k).getD i 0 = no := by
  rw [ckNos, List.getD_eq_getElem?_getD, List.getElem?_take, if_pos hi, List.getElem?_drop, List.getElem?_map, h]
  rfl
def numRow (l : List (Nat × List Int)) (k : Nat) : List Int := nr (ckNos l k) (min 16 (l.length - k * 16))
def slv (g : Nat) : Value := .slice (some ⟨g, 0, none⟩) 128 128

/-- Between two rounds: the rows of numbers so far. -/
def BodyI (w : World) (B n₀ : Nat) (l : List (Nat × List Int)) (pre : List (CkI l.length)) (W : World) : Prop :=
  ∃ (v : Value) (gs : List Nat), Boxed W B 128 v ∧ W.ownsRow n₀ 34 1 v gs.length (gs.map slv) ∧ gs.length = pre.length ∧ (∀ (j gj : Nat) (x : CkI l.length), gs[j]? = some gj → pre[j]? = some x → n₀ ≤ gj ∧ RowE W gj (numRow l x.k)) ∧ Below w.heap.size w W ∧ n₀ ≤ W.heap.size
theorem bodyI_own {w : World} {B n₀ b : Nat} {l : List (Nat × List Int)} (hb : w.heap.size ≤ b) : OwnFrom b (BodyI w B n₀ l) := by
  intro s W W' row h hg hr
  have hc : ∀ {k : Nat} {cs : Array Value} {t : TypeId} {fr : Nat × Nat}, W.heap[k]? = some (.cells cs t fr) → W'.heap[k]? = some (.cells cs t fr) := by
    intro k cs t fr hk
    refine (hg.block k (lt_blk hk) (fun e => ?_)).trans hk
    obtain ⟨_, o, ho, hoc⟩ := hr k e.symm
    rw [hk] at ho; cases ho; cases hoc
  obtain ⟨v, gs, h1, ⟨h2, h3⟩, h4, h5, h6, h7⟩ := h
  refine ⟨v, gs, hc h1, ⟨h2, ?_⟩, h4, fun j gj x hj hx => ⟨(h5 j gj x hj hx).1, hc (h5 j gj x hj hx).2⟩, h6.grown hg h6.size (fun k e => Nat.le_trans hb (hr k e).1), Nat.le_trans h7 hg.size⟩
  rcases h3 with h3 | ⟨g, cap, cur, e1, e2, e3, e4⟩
  · exact .inl h3
  · exact .inr ⟨g, cap, cur, e1, e2, hc e3, e4⟩

theorem ckUpto_full (n : Nat) : ∀ k, k ≤ ckN n → (ckUpto n k).length = k ∧ ∀ j, j < k → ∃ x, (ckUpto n k)[j]? = some x ∧ x.k = j
  | 0, _ => ⟨rfl, fun j hj => by omega⟩
  | k + 1, h => by
    have hk : k * 16 < n := by unfold ckN at h; omega
    obtain ⟨h1, h2⟩ := ckUpto_full n k (by omega)
    rw [ckUpto_succ hk]
    refine ⟨by rw [List.length_append, h1]; rfl, fun j hj => ?_⟩
    by_cases e : j < k
    · obtain ⟨x, hx, hj'⟩ := h2 j e
      exact ⟨x, by rw [List.getElem?_append_left (by omega)]; exact hx, hj'⟩
    · have : j = k := by omega
      subst this
      exact ⟨⟨j, hk⟩, by rw [List.getElem?_append_right (by omega), h1]; simp, rfl⟩
/-- What body gives: a new slice of the rows of numbers, then of the rows that are to be written, as they stand in v. -/
def BodyOut (w w' : World) (v u : Value) (l : List (Nat × List Int)) : Prop :=
  ∃ g off c, v = .slice (some ⟨g, off, none⟩) l.length c ∧ ∃ g' cap cs, u = .slice (some ⟨g', 0, none⟩) (ckN l.length + l.length) cap ∧ w.heap.size ≤ g' ∧ ckN l.length + l.length ≤ cap ∧ cap ≤ maxLen ∧ w'.heap[g']? = some (.cells cs 34 (0, 0)) ∧
    (∀ k, k < ckN l.length → ∃ gk, cs[k]? = some (slv gk) ∧ w.heap.size ≤ gk ∧ RowE w' gk (numRow l k)) ∧
    (∀ i u, i < l.length → w.cell? ⟨g, off + i * 2 + 1, none⟩ = some u → cs[ckN l.length + i]? = some u)
theorem le_alloc {n : Nat} {w : World} (o : Obj) (h : n ≤ w.heap.size) : n ≤ (w.alloc o).heap.size := by rw [size_alloc]; omega
theorem row_kp0 {w w' : World} {base e s n : Nat} {v : Value} {xs : List Value} (h : w.ownsRow base e s v n xs) (k : Kp (fun _ => False) w w') : w'.ownsRow base e s v n xs := by
  obtain ⟨h1, h2 | ⟨g, cap, cur, h2, h3, h4, h5⟩⟩ := h
  · exact ⟨h1, .inl h2⟩
  · exact ⟨h1, .inr ⟨g, cap, cur, h2, h3, k.blk h4 (fun h => h), h5⟩⟩
theorem row_low {w : World} {base base' e s n : Nat} {v : Value} {xs : List Value} (h : w.ownsRow base e s v n xs) (hb : base' ≤ base) : w.ownsRow base' e s v n xs := by
  obtain ⟨h1, h2 | ⟨g, cap, cur, h2, h3, h4, h5⟩⟩ := h
  · exact ⟨h1, .inl h2⟩
  · exact ⟨h1, .inr ⟨g, cap, cur, h2, Nat.le_trans hb h3, h4, h5⟩⟩

theorem journal_body {w : World} {v : Value} {l : List (Nat × List Int)} (h : BS w v l) (hn : l ≠ []) (hm : l.length ≤ 2048) (hno : ∀ x ∈ l, (x.1 : Int) ≤ 9223372036854775807) :
    Calls Tryz.prog 68 #[v] w fun e w' => ∃ u, e = .returned u ∧ BodyOut w w' v u l ∧ Kp (fun _ => False) w w' := by
  obtain ⟨A, c, rfl, hc1, hc2, hA⟩ := h
  obtain ⟨g, off, rfl, hcell⟩ := hA hn
  have hpos : 0 < l.length := List.length_pos_iff.2 hn
  obtain ⟨x0, hx0⟩ : ∃ x0, l[0]? = some x0 := ⟨_, List.getElem?_eq_getElem hpos⟩
  have hglt : g < w.heap.size := World.block_lt_of_cell? w _ (hcell 0 x0.1 x0.2 hx0).1
  have Hcell := Lib.hid hcell
  clear hcell hx0
  unfold maxLen at hc2
  refine (callsIn_wide (n := 6)).1 ?_
  have hfC : Fence.wide.fn 104 := trivial
  refine callsIn_of_wp_marks Tryz.func68 rfl trivial ?_ rfl
  simp only [Tryz.ntmps68, List.size_toArray, List.length_cons, List.length_nil, Nat.reduceAdd, Nat.reduceSub, Array.replicate_succ, Array.replicate_zero, List.push_toArray, List.append_toArray, List.nil_append, List.cons_append]
  gi_wp2_with (gi_at_call 104; refine (chunk_in Fence.wide 5 trivial rfl _ _ _ _).mono ?_; rintro e w' ⟨rfl, rfl⟩)
  obtain ⟨W0, hW0⟩ : ∃ W0, ((w.alloc (.cells #[.slice none 0 0] 128)).alloc (.cells #[.slice (some ⟨g, off, none⟩) l.length c] 77)).alloc (.cells #[.int .i64 16] 3) = W0 := ⟨_, rfl⟩
  have hs0 : W0.heap.size = w.heap.size + 3 := by rw [← hW0]; simp
  have hbB : Boxed W0 w.heap.size 128 (.slice none 0 0) := by rw [← hW0]; exact ((Boxed.new w _ _).alloc _).alloc _
  have hc1 : W0.cell? ⟨w.heap.size + 1, 0, none⟩ = some (.slice (some ⟨g, off, none⟩) l.length c) := by
    have := ((Boxed.new (w.alloc (.cells #[.slice none 0 0] 128)) 77 (.slice (some ⟨g, off, none⟩) l.length c)).alloc (.cells #[.int .i64 16] 3)).cell
    rw [← hW0]; simpa using this
  have hc2' : W0.cell? ⟨w.heap.size + 2, 0, none⟩ = some (.int .i64 16) := by
    have := (Boxed.new ((w.alloc (.cells #[.slice none 0 0] 128)).alloc (.cells #[.slice (some ⟨g, off, none⟩) l.length c] 77)) 3 (.int .i64 16)).cell
    rw [← hW0]; simpa using this
  have hB0 : Below w.heap.size w W0 := by rw [← hW0]; exact (((Below.refl _ _).alloc (Nat.le_refl _) _).alloc (by simp) _).alloc (by simp; omega) _
  rw [hW0]
  have HC1 := Lib.hid hc1
  have HC2 := Lib.hid hc2'
  clear hW0 hc1 hc2'
  refine wpIn_rangeFunc_ownF rfl (by omega) (gf := 118) (lb := #[.pointer (some ⟨w.heap.size + 1, 0, none⟩), .pointer (some ⟨w.heap.size + 2, 0, none⟩)]) rfl trivial (enters_of Tryz.func118 (by kernel_rfl) rfl)
    (chunk_stops Fence.wide 5 trivial rfl (by omega) (w.heap.size + 1) (w.heap.size + 2) g off l.length c ‹_› (by unfold maxLen; omega) (by omega) W0 (by omega) (by omega) HC1.out HC2.out) (SameB.trans) (SameB.put (by omega) (by omega)) (Below.refl _ _) (fun _ => rfl)
    (BodyI w w.heap.size W0.heap.size l) (fun _ _ _ => False) (bodyI_own (by omega)) (fun _ _ _ _ _ h _ _ => h)
    ⟨_, [], hbB, World.ownsRow_nil _ _ _ _, rfl, fun j gj x hj => by simp at hj, hB0, Nat.le_refl _⟩
    (fun x => { tmps := #[.slice (some ⟨g, off, none⟩) l.length c, undef, .slice none 0 0, .pointer (some ⟨w.heap.size, 0, none⟩), ckVal g off l.length x, undef, undef, undef, undef, undef, .slice (some ⟨g, off, none⟩) l.length c, .func (.func 118) #[] #[.pointer (some ⟨w.heap.size + 1, 0, none⟩), .pointer (some ⟨w.heap.size + 2, 0, none⟩)], ckVal g off l.length x, undef, undef, undef, undef, undef, undef, undef, undef, undef, undef, undef, undef, undef, undef, undef, undef, undef, undef, undef, undef, undef, undef, undef, undef, undef, undef, undef, undef, undef, undef, undef, undef, undef, undef], defers := [] }) ?assign ?body ?done ?stop
  case assign =>
    intro l' x W K hK
    gi_wp2
    exact hK
  case stop =>
    rintro D c pre W _ _ h _
    exact h.elim
  case body =>
    rintro l' pre ⟨k, hk⟩ W hI hlen
    obtain ⟨v, gs, hbx, hown, hgl, hrows, hbel, hsz⟩ := hI
    simp only [ckVal]
    obtain ⟨q, hq⟩ : ∃ q, q = k * 16 := ⟨_, rfl⟩
    obtain ⟨e, he⟩ : ∃ e, e = min 16 (l.length - q) := ⟨_, rfl⟩
    rw [← hq, ← he]
    have hm7 := make128
    have Hbx := Lib.hid hbx
    have Hown := Lib.hid hown
    have Hrows := Lib.hid hrows
    have Hbel := Lib.hid hbel
    have Hq := Lib.hid hq
    have He := Lib.hid he
    have he16 : e ≤ 16 := by omega
    have heq : q + e ≤ l.length := by omega
    have Hgl := Lib.hid hgl
    clear hbx hown hrows hbel hq he hgl
    gi_wp2
    obtain ⟨gb, hgb⟩ : ∃ gb, W.heap.size = gb := ⟨_, rfl⟩
    have hr0 : RowE (W.alloc (zrow 128)) gb (nr (ckNos l k) 0) := by rw [← hgb]; exact rowE_new _ _
    have Hgb := Lib.hid hgb
    rw [hgb]
    clear hgb
    gi_loopw [16] (fun x wr => ∃ i : Nat, x = .int .i64 (i : Nat) ∧ i ≤ e ∧ RowE wr gb (nr (ckNos l k) i) ∧ Kp (fun _ => False) W wr) (fun x _ => e - (intOf x).toNat)
    case atStart => exact ⟨0, rfl, by omega, hr0, (Kp.refl _ _).alloc _⟩
    case round =>
      obtain ⟨i, rfl, hi, hr, hkp⟩ := hrel
      have Hr := Lib.hid hr
      have Hkp := Lib.hid hkp
      by_cases hlt : i < e
      · have hy : (i : Int) < (e : Int) := by omega
        have hy0 : (0 : Int) ≤ (i : Int) := by omega
        obtain ⟨⟨no, ys⟩, hx⟩ : ∃ x, l[q + i]? = some x := ⟨_, List.getElem?_eq_getElem (by omega)⟩
        obtain ⟨ca, u, cb, hu⟩ := Hcell.out (q + i) no ys hx
        obtain ⟨Au, cu, rfl, _, _, _⟩ := hu
        rw [show off + (q + i) * 2 = off + q * 2 + i * 2 by omega] at ca cb
        have ca' := Hkp.out.cell ((Hbel.out.cell (p := ⟨g, off + q * 2 + i * 2, none⟩) hglt).trans ca) (fun h => h)
        have cb' := Hkp.out.cell ((Hbel.out.cell (p := ⟨g, off + q * 2 + i * 2 + 1, none⟩) hglt).trans cb) (fun h => h)
        have Hx := Lib.hid hx
        have hno' := hno _ (List.mem_of_getElem? hx)
        have hget := Lib.hid (ckNos_get (l := l) (k := k) (i := i) (no := no) (ys := ys) (by omega) (by rw [← Hq.out]; exact hx))
        clear ca cb hx hr hkp hr0
        gi_wp2
        have Rb := Lib.hid (Hr.out.kp (F := fun _ => False) ((Kp.refl _ _).alloc (.cells #[.int .i64 (no : Nat), .slice Au ys.length cu] 84)) (fun h => h))
        have Kb := Lib.hid (Hkp.out.alloc (.cells #[.int .i64 (no : Nat), .slice Au ys.length cu] 84))
        have nb := cell_blk (new_blk wr (.cells #[.int .i64 (no : Nat), .slice Au ys.length cu] 84)) 0
        simp only [List.getElem?_toArray, List.getElem?_cons_zero] at nb
        generalize wr.alloc (.cells #[.int .i64 (no : Nat), .slice Au ys.length cu] 84) = wb at *
        generalize wr.heap.size = b at *
        have hs0 : (0 : Int) ≤ 8 * (i : Int) := by omega
        have hs1 : 8 * (i : Int) ≤ 128 := by omega
        have hne : ¬ 128 = 8 * i := by omega
        have hw8 : IntKind.i64.wrap (8 * (i : Int)) = 8 * (i : Int) := IntWalk.i64_in _ (by omega)
        have ht8 : (8 * (i : Int)).toNat = 8 * i := by omega
        have hmx : Tryz.prog.follows .mixedOrders = true := by kernel_rfl
        have hfP : Fence.wide.fn 105 := trivial
        have hwu : IntKind.u64.wrap (no : Int) = (no : Int) := IntWalk.u64_in _ (by omega)
        clear ca' cb'
        gi_region_with (gi_at_call 105; refine (CallsIn.inRound l' (callsIn_wide.2 (journal_put (g := gb) (off := 8 * i) (Rb.out.kp (F := fun _ => False) ((Kp.refl _ _).drew) (fun h => h)) (by omega) (by rw [nr_len _ _ (by omega)]; omega) (no : Nat) (by omega) (by omega)))).mono ?_; rintro e5 w5 ⟨rfl, hr5, hk5⟩)
        all_goals (
          have Hr5 := Lib.hid hr5
          have Hk5 := Lib.hid ((Kb.out.drew).trans hk5 (fun j (hj : j = gb) => .inr (by have := Hgb.out; omega)))
          clear hr5 hk5
          gi_wp2
          go_roundw
          case rel => exact ⟨i + 1, by go_num, by omega, by rw [nr, hget.out]; exact Hr5.out, Hk5.out⟩
          case measure => simp [intOf]; omega)
      · have hy : ¬ (i : Int) < (e : Int) := by omega
        have hie : i = e := by omega
        have hrow : RowE wr gb (numRow l k) := by rw [numRow, ← Hq.out, ← He.out, ← hie]; exact hr
        have Hrow := Lib.hid hrow
        clear hie hrow hr hkp hr0
        have hv1 : Boxed wr w.heap.size 128 v := Hkp.out.blk Hbx.out (fun h => h)
        have hown1 := row_kp0 Hown.out Hkp.out
        have hc0 := hv1.cell
        have Hv1 := Lib.hid hv1
        have Hown1 := Lib.hid hown1
        obtain ⟨i0, hi0, hz0, hz1, hz2⟩ := info_parts Tryz.infoRow
        have hgs : gs.length ≤ 200 := by have := hlen; rw [← Hgl.out] at this; unfold ckN at this; omega
        have hWs := Hkp.out.size
        clear hv1 hown1
        gi_wp2_with (gi_at_builtin; refine wpListIn_append_own _ rfl _ _ 128 rfl W0.heap.size 34 i0 (.slice none 0 0) 1 24 Tryz.underlying128 hi0 hz0 hz1 hz2 rfl (by decide) _ _ _ rfl (Hown1.out.alloc _) ⟨wr.heap.size, 0, none⟩ 1 1 [slv gb] rfl rfl (cell_one_new _ _ _) (by simp [Value.oneCell', slv]) (by unfold maxLen; omega) (by omega) (le_alloc _ (by omega)) ?_; intro v' w1 hown' hgrow _; obtain ⟨g', cap', rfl⟩ := ownsRow_succ hown'; have hb1 := (Hv1.out.alloc (.cells #[slv gb] 34)).kept hgrow (Hv1.out.not_row (by decide) Hown1.out); have hc1 := hb1.cell; have hf1 := hb1.frozen; have Hown' := Lib.hid hown'; have Hgrow := Lib.hid hgrow; have Hb1 := Lib.hid hb1; clear hown' hgrow hb1)
        obtain ⟨hx1, hx2, hx3, hx4, hx5⟩ := Hv1.out.appended (n₀ := w.heap.size) (by decide) (row_low Hown1.out (by omega)) (by omega) (Nat.le_refl _) (row_low Hown'.out (by omega)) Hgrow.out
        have hown2 := Hown'.out.kept (grownBy_setCell' w1 w.heap.size (.slice (some ⟨g', 0, none⟩) (gs.length + 1) cap')) (.inr (hx1.not_row (by decide) Hown'.out).symm)
        have hnob : ∀ b, b < W0.heap.size → some b ≠ v.ownBlock := fun b hb e => by
          obtain ⟨_, ⟨rfl, _⟩ | ⟨g2, cap2, cur2, rfl, h3, _⟩⟩ := Hown1.out
          · simp [Value.ownBlock] at e
          · simp [Value.ownBlock] at e; omega
        have hnob2 : ∀ b cs t fr, wr.heap[b]? = some (.cells cs t fr) → t ≠ 34 → some b ≠ v.ownBlock := fun b cs t fr hb ht e => by
          obtain ⟨_, ⟨rfl, _⟩ | ⟨g2, cap2, cur2, rfl, h3, h4, _⟩⟩ := Hown1.out
          · simp [Value.ownBlock] at e
          · have : b = g2 := by simpa [Value.ownBlock] using e
            rw [this, h4] at hb; cases hb; exact ht rfl
        have hkeep : ∀ b, b < wr.heap.size → some b ≠ v.ownBlock → b ≠ w.heap.size → (w1.setCell ⟨w.heap.size, 0, none⟩ (.slice (some ⟨g', 0, none⟩) (gs.length + 1) cap')).heap[b]? = wr.heap[b]? := fun b hb h1 h2 => by
          rw [Below.heap_setCell _ _ _ _ (fun e => h2 e), Hgrow.out.block b (le_alloc _ hb) h1, Below.heap_alloc _ _ b hb]
        have hsame : ∀ b, b < W0.heap.size → b ≠ w.heap.size → (w1.setCell ⟨w.heap.size, 0, none⟩ (.slice (some ⟨g', 0, none⟩) (gs.length + 1) cap')).heap[b]? = W.heap[b]? := fun b hb h2 => by
          rw [hkeep b (by omega) (hnob b hb) h2, Hkp.out.block b (by omega) (fun h => h)]
        have hko : KeepsOthers W wr := ⟨Hkp.out.size, fun j o h _ => Hkp.out.blk h (fun h => h)⟩
        have hrowk : ∀ b xs, RowE wr b xs → b ≠ w.heap.size → RowE (w1.setCell ⟨w.heap.size, 0, none⟩ (.slice (some ⟨g', 0, none⟩) (gs.length + 1) cap')) b xs := fun b xs hb hne => (hkeep b hb.lt (hnob2 b _ _ _ hb (by decide)) hne).trans hb
        refine ⟨hko.trans hx4, ⟨World.cell?_of_block (hsame (w.heap.size + 1) (by omega) (by omega)), World.cell?_of_block (hsame (w.heap.size + 2) (by omega) (by omega))⟩, ?_⟩
        refine ⟨_, gs ++ [gb], hx2, by rw [List.length_append, List.map_append]; rw [hs0] at hown2; exact hown2, by rw [List.length_append, List.length_append, Hgl.out]; rfl, fun j gj x hj hx => ?_, (Hbel.out.trans (Hkp.out.below (by omega) (fun _ h => h.elim))).trans hx5, by have := hx4.size; omega⟩
        have hgl := Hgl.out
        rcases Nat.lt_or_ge j gs.length with hlt' | hge
        · rw [List.getElem?_append_left hlt'] at hj
          rw [List.getElem?_append_left (by omega)] at hx
          obtain ⟨p1, p2⟩ := Hrows.out j gj x hj hx
          exact ⟨by omega, hrowk gj _ (p2.kp Hkp.out (fun h => h)) (by omega)⟩
        · rw [List.getElem?_append_right hge] at hj
          rw [List.getElem?_append_right (by omega)] at hx
          have hj0 : j - gs.length = 0 := by
            have := (List.getElem?_eq_some_iff.1 hj).1; simp at this; omega
          rw [hj0] at hj
          rw [show j - pre.length = 0 by omega] at hx
          simp at hj hx
          subst hj hx
          have := Hgb.out
          exact ⟨by omega, hrowk gb _ Hrow.out (by omega)⟩
  case done =>
    rintro D ys W hD rfl hI hK
    obtain ⟨v, gs, hbx, hown, hgl, hrows, hbel, hsz⟩ := hI
    have Hbx := Lib.hid hbx
    have Hown := Lib.hid hown
    have Hrows := Lib.hid hrows
    have Hbel := Lib.hid hbel
    have HK := Lib.hid hK
    have hq200 : gs.length ≤ 200 := by rw [hgl]; have := ckUpto_len l.length (ckN l.length); unfold ckN at this ⊢; omega
    have Hgl := Lib.hid hgl
    obtain ⟨us, hus⟩ : ∃ us : List Value, us = (List.range l.length).map fun i => (w.cell? ⟨g, off + i * 2 + 1, none⟩).getD undef := ⟨_, rfl⟩
    have husl : us.length = l.length := by rw [hus]; simp
    have Hus := Lib.hid (show ∀ i u, i < l.length → w.cell? ⟨g, off + i * 2 + 1, none⟩ = some u → us[i]? = some u from fun i u hi hu => by rw [hus]; simp [hi, hu])
    clear hbx hown hrows hbel hK hgl hus
    gi_wp2
    gi_loopw [36] (fun x wr => ∃ (i : Nat) (v : Value), x = .int .i64 (i : Nat) ∧ i ≤ l.length ∧ Boxed wr w.heap.size 128 v ∧ wr.ownsRow W0.heap.size 34 1 v (gs.length + i) (gs.map slv ++ us.take i) ∧ (∀ (j gj : Nat) (x : CkI l.length), gs[j]? = some gj → (ckUpto l.length (ckN l.length))[j]? = some x → W0.heap.size ≤ gj ∧ RowE wr gj (numRow l x.k)) ∧ Below w.heap.size w wr ∧ W0.heap.size ≤ wr.heap.size ∧ wr.heap[D]? = some (.deferred (some []))) (fun x _ => l.length - (intOf x).toNat)
    case atStart => exact ⟨0, v, rfl, by omega, Hbx.out, by simpa using Hown.out, Hrows.out, Hbel.out, hsz, HK.out⟩
    case round =>
      obtain ⟨i, v, rfl, hi, hbx, hown, hrows, hbel, hsz, hK⟩ := hrel
      have Hbx := Lib.hid hbx
      have Hown := Lib.hid hown
      have Hrows := Lib.hid hrows
      have Hbel := Lib.hid hbel
      have HK := Lib.hid hK
      by_cases hlt : i < l.length
      · have hy : (i : Int) < (l.length : Int) := by omega
        have hy0 : (0 : Int) ≤ (i : Int) := by omega
        obtain ⟨⟨no, ys⟩, hx⟩ : ∃ x, l[i]? = some x := ⟨_, List.getElem?_eq_getElem hlt⟩
        obtain ⟨ca, u, cb, hu⟩ := Hcell.out i no ys hx
        obtain ⟨Au, cu, rfl, _, _, _⟩ := hu
        have hui := Lib.hid (take_succ' (Hus.out i _ hlt cb))
        have ca' := (Hbel.out.cell (p := ⟨g, off + i * 2, none⟩) hglt).trans ca
        have cb' := (Hbel.out.cell (p := ⟨g, off + i * 2 + 1, none⟩) hglt).trans cb
        have hc0 := (hbx.alloc (.cells #[.int .i64 (no : Nat), .slice Au ys.length cu] 84)).cell
        obtain ⟨i0, hi0, hz0, hz1, hz2⟩ := info_parts Tryz.infoRow
        clear ca cb hx hbx hown hrows hbel hK
        gi_wp2_with ((gi_at_builtin; refine wpListIn_append_own _ rfl _ _ 128 rfl W0.heap.size 34 i0 (.slice none 0 0) 1 24 Tryz.underlying128 hi0 hz0 hz1 hz2 rfl (by decide) _ _ _ rfl ((Hown.out.alloc (.cells #[.int .i64 (no : Nat), .slice Au ys.length cu] 84)).alloc _) ⟨wr.heap.size + 1, 0, none⟩ 1 1 [.slice Au ys.length cu] rfl rfl (by have := cell_one_new (wr.alloc (.cells #[.int .i64 (no : Nat), .slice Au ys.length cu] 84)) (.slice Au ys.length cu) 34; rw [size_alloc] at this; exact this) (by simp [Value.oneCell']) (by unfold maxLen; omega) (by omega) (le_alloc _ (le_alloc _ (by omega))) ?_; intro v' w1 hown' hgrow _; rw [Nat.add_assoc] at hown'; obtain ⟨g', cap', rfl⟩ := ownsRow_succ hown'; have hb1 := ((Hbx.out.alloc (.cells #[.int .i64 (no : Nat), .slice Au ys.length cu] 84)).alloc (.cells #[.slice Au ys.length cu] 34)).kept hgrow (Hbx.out.not_row (by decide) Hown.out); have hc1 := hb1.cell; have hf1 := hb1.frozen; have Hown' := Lib.hid hown'; have Hgrow := Lib.hid hgrow; have Hb1 := Lib.hid hb1; clear hown' hgrow hb1))
        obtain ⟨hx1, hx2, hx3, hx4, hx5⟩ := (Hbx.out.alloc (.cells #[.int .i64 (no : Nat), .slice Au ys.length cu] 84)).appended (n₀ := w.heap.size) (by decide) (row_low (Hown.out.alloc (.cells #[.int .i64 (no : Nat), .slice Au ys.length cu] 84)) (by omega)) (le_alloc _ (by omega)) (Nat.le_refl _) (row_low Hown'.out (by omega)) Hgrow.out
        have hown2 := Hown'.out.kept (grownBy_setCell' w1 w.heap.size (.slice (some ⟨g', 0, none⟩) (gs.length + (i + 1)) cap')) (.inr (hx1.not_row (by decide) Hown'.out).symm)
        have hnob2 : ∀ b cs t fr, wr.heap[b]? = some (.cells cs t fr) → t ≠ 34 → some b ≠ v.ownBlock := fun b cs t fr hb ht e => by
          obtain ⟨_, ⟨rfl, _⟩ | ⟨g2, cap2, cur2, rfl, h3, h4, _⟩⟩ := Hown.out
          · simp [Value.ownBlock] at e
          · have : b = g2 := by simpa [Value.ownBlock] using e
            rw [this, h4] at hb; cases hb; exact ht rfl
        have hkeep : ∀ b, b < wr.heap.size → some b ≠ v.ownBlock → b ≠ w.heap.size → (w1.setCell ⟨w.heap.size, 0, none⟩ (.slice (some ⟨g', 0, none⟩) (gs.length + (i + 1)) cap')).heap[b]? = wr.heap[b]? := fun b hb h1 h2 => by
          rw [Below.heap_setCell _ _ _ _ (fun e => h2 e), Hgrow.out.block b (le_alloc _ (le_alloc _ hb)) h1, Below.heap_alloc _ _ b (le_alloc _ hb), Below.heap_alloc _ _ b hb]
        have HF := Lib.hid (And.intro hx2 (And.intro hown2 (And.intro hx4 (And.intro hx5 (And.intro hkeep hnob2)))))
        clear hx1 hx2 hx3 hx4 hx5 hown2 hkeep hnob2
        go_roundw
        case rel =>
          obtain ⟨hx2, hown2, hx4, hx5, hkeep, hnob2⟩ := HF.out
          refine ⟨i + 1, _, by go_num, by omega, hx2, by rw [hui.out, ← List.append_assoc]; exact hown2, fun j gj x hj hx => ?_, (Hbel.out.trans ((Below.refl _ _).alloc (by omega) _)).trans hx5, Nat.le_trans (le_alloc _ (by omega)) hx4.size, ((KeepsOthers.alloc wr _).trans hx4).same D _ HK.out rfl⟩
          obtain ⟨p1, p2⟩ := Hrows.out j gj x hj hx
          exact ⟨p1, (hkeep gj p2.lt (hnob2 gj _ _ _ p2 (by decide)) (by omega)).trans p2⟩
        case measure => simp [intOf]; omega
      · have hy : ¬ (i : Int) < (l.length : Int) := by omega
        have hil : i = l.length := by omega
        have hc0 := hbx.cell
        have HIL := Lib.hid hil
        clear hbx hown hrows hbel hK hil
        gi_wp2
        refine ⟨by simp, .inl ⟨_, _, rfl, run_takeDeferred HK.out, ?_⟩⟩
        have hke : ∀ {b : Nat} {cs : Array Value} {t : TypeId} {fr : Nat × Nat}, wr.heap[b]? = some (.cells cs t fr) → (wr.putObj D (.deferred none)).heap[b]? = some (.cells cs t fr) := by
          intro b cs t fr hb
          have hne : D ≠ b := by rintro rfl; rw [HK.out] at hb; cases hb
          show (wr.heap.setIfInBounds D _)[b]? = _
          rw [Array.getElem?_setIfInBounds_ne hne]; exact hb
        obtain ⟨p1, p2⟩ := ckUpto_full l.length (ckN l.length) (Nat.le_refl _)
        have hg1 := Hgl.out
        have hil := HIL.out
        refine ⟨_, results_tmp rfl _ _ _, _, rfl, ?_, Kp.putObj (F := fun _ => False) (Kp.of_below Hbel.out) (.inr (by omega)) _⟩
        obtain ⟨q1, ⟨_, q2⟩ | ⟨g', cap, cur, e1, e2, e3, e4, e5, e6, e7⟩⟩ := Hown.out
        · omega
        · refine ⟨g, off, c, rfl, g', cap, cur, (show v = _ by rw [e1, hg1, p1, hil]), by omega, by omega, e5, hke e3, fun k hk => ?_, fun i' u hi' hu => ?_⟩
          · obtain ⟨x, hx, rfl⟩ := p2 k hk
            obtain ⟨gk, hgk⟩ : ∃ gk, gs[x.k]? = some gk := ⟨_, List.getElem?_eq_getElem (by omega)⟩
            obtain ⟨r1, r2⟩ := Hrows.out x.k gk x hgk hx
            refine ⟨gk, ?_, by omega, hke r2⟩
            have h9 := congrArg (·[x.k]?) e7
            simp only [List.getElem?_take, Array.getElem?_toList] at h9
            rw [if_pos (by omega), List.getElem?_append_left (by rw [List.length_map]; omega), List.getElem?_map, hgk] at h9
            exact h9
          · have h9 := congrArg (·[ckN l.length + i']?) e7
            simp only [List.getElem?_take, Array.getElem?_toList] at h9
            rw [if_pos (by omega), List.getElem?_append_right (by rw [List.length_map]; omega), List.length_map, show ckN l.length + i' - gs.length = i' by omega, List.getElem?_take, if_pos (by omega), Hus.out i' u hi' hu] at h9
            exact h9
end Go.Proofs.YtdmmlkkemceifaaGreatDoor
