/- dir's rows: the records of a directory. -/
import Derived.Test.YthjbpbahcemfgaaGreatDoorDirB
import Derived.Test.YthjbpbahcemfgaaGreatDoorChunkB
import Derived.Test.YthjbpbahcemfgaaGreatDoorDirI
import Derived.Test.YthjbpbahcemfgaaGreatDoorDirA
import Derived.Test.YthjbpbahcemfgaaGreatDoorDirL
import Derived.RangeFuncFrom
import Derived.RangeFuncBox
import Derived.RangeFuncWrites
import Derived.Maps.AppendAt
import Derived.Maps.OwnIn
import Derived.Maps.OwnSet
import Derived.Sort.CutIn
namespace Go.Proofs.YthjbpbahcemfgaaGreatDoor
open Go.RowKit Go.Shelf
set_option maxHeartbeats 20000000
set_option maxRecDepth 100000
attribute [local go_sem] Oper.semAt_some

theorem leD_alloc {n : Nat} {w : World} (o : Obj) (h : n ≤ w.heap.size) : n ≤ (w.alloc o).heap.size := by rw [size_alloc]; omega
theorem rowD_kp0 {w w' : World} {base e s n : Nat} {v : Value} {xs : List Value} (h : w.ownsRow base e s v n xs) (k : Kp (fun _ => False) w w') : w'.ownsRow base e s v n xs := by
  obtain ⟨h1, h2 | ⟨g, cap, cur, h2, h3, h4, h5⟩⟩ := h
  · exact ⟨h1, .inl h2⟩
  · exact ⟨h1, .inr ⟨g, cap, cur, h2, h3, k.blk h4 (fun h => h), h5⟩⟩
/-- A directory in inode 1, whose bytes are ys. -/
structure DirB (w : World) (bD bt bx bc bj bm bd : Nat) (ys : List Int) (q : Nat) (F : Nat → Prop) (wr : World) : Prop where
  iu : ∃ R, IU w bt bx bc bj bm bd R q F wr ∧ R 1 = (2, ys) ∧ ∀ k, k ≠ 1 → (R k).2 = []
  blk : DBlk wr bD bt 1
  out : ¬ F bD
/-- A directory in inode 1, whose records are l. -/
structure DirS (w : World) (bD bt bx bc bj bm bd : Nat) (l : List Rc) (q : Nat) (F : Nat → Prop) (wr : World) : Prop where
  b : DirB w bD bt bx bc bj bm bd (dirRow l) q F wr
  ok : AllOk l
  nm : Names l
  few : l.length ≤ 120
variable {w wr : World} {bD bt bx bc bj bm bd q q' : Nat} {l : List Rc} {ys : List Int} {F : Nat → Prop}
theorem DirB.kp0 {w' : World} (h : DirB w bD bt bx bc bj bm bd ys q F wr) (k : Kp (fun _ => False) wr w') : DirB w bD bt bx bc bj bm bd ys q F w' := by
  obtain ⟨⟨R, h1, h2⟩, h6, h7⟩ := h
  exact ⟨⟨R, h1.kp0 k, h2⟩, k.blk h6 (fun h => h), h7⟩
theorem DirS.kp0 {w' : World} (h : DirS w bD bt bx bc bj bm bd l q F wr) (k : Kp (fun _ => False) wr w') : DirS w bD bt bx bc bj bm bd l q F w' := ⟨h.b.kp0 k, h.ok, h.nm, h.few⟩
theorem used_dir {R : Nat → Nat × List Int} (h1 : R 1 = (2, ys)) (h2 : ∀ k, k ≠ 1 → (R k).2 = []) : usedR R 6 = bks ys.length := by
  simp only [usedR, h1, h2 2 (by decide), h2 3 (by decide), h2 4 (by decide), h2 5 (by decide), h2 6 (by decide), Nat.zero_add, List.length_nil]
  simp [bks, dat]
theorem bks_leD {n m : Nat} (h : n ≤ m) : bks n ≤ bks m := by
  unfold bks dat
  split <;> split <;> omega
theorem bks_33 {n : Nat} (h : n ≤ 4000) : bks n ≤ 33 := by
  unfold bks dat
  split <;> omega
theorem dirb_write (h : DirB w bD bt bx bc bj bm bd ys q F wr) {p : Nat} (v : Value) (xs : List Int) (hv : Sl wr v xs) (hb : Byt xs) (h0 : xs ≠ []) (hp : p + xs.length ≤ 4000) (hq : q ≤ 36) (hq' : q + (bks (max ys.length (p + xs.length)) - bks ys.length) ≤ q') :
    Calls Tryz.prog 23 #[.pointer (some ⟨bt, 0, none⟩), .int .i64 1, .int .i64 p, v] wr fun e w' => e = .returned .nilIface ∧ ∃ F', DirB w bD bt bx bc bj bm bd (wrAt ys p xs) q' F' w' ∧ Kp F wr w' ∧ Gr F F' wr.heap.size := by
  obtain ⟨⟨R, h1, h2, h3⟩, h6, h7⟩ := h
  have hu := used_dir h2 h3
  have hw := iu_write h1 (ino := 1) (p := p) (q' := q') (by omega) (by omega) (by rw [h2]; exact (by decide : (2 : Nat) ≠ 0)) v xs hv hb h0 hp (by
    rw [hu, h2]
    have h33 : bks (max ys.length (p + xs.length)) ≤ 33 + bks ys.length := by
      by_cases hm : p + xs.length ≤ ys.length
      · rw [Nat.max_eq_left hm]; omega
      · rw [Nat.max_eq_right (by omega)]; have := bks_33 hp; omega
    show bks ys.length + bks (max ys.length (p + xs.length)) ≤ 80 + bks ys.length
    have := h1.ex
    by_cases hm : p + xs.length ≤ ys.length
    · rw [Nat.max_eq_left hm]
      obtain ⟨C, T, A, ht, hR, _⟩ := this
      have hz := (ht.ti.ok 1 (by omega) (by omega)).size
      have hd := data_len ht (ino := 1) (by omega) (by omega)
      rw [(hR 1 (by omega) (by omega)).2, h2] at hd
      have := bks_33 (n := ys.length) (by simp only at hd; omega)
      omega
    · rw [Nat.max_eq_right (by omega)]; have := bks_33 hp; omega) hq (by rw [h2]; show q + (bks (wrAt ys p xs).length - bks ys.length) ≤ q'; rw [wrAt_len]; exact hq')
  refine hw.mono ?_
  rintro e w' ⟨rfl, F', hi, hk, hg⟩
  have e1 : wrAt (R 1).2 p xs = wrAt ys p xs := by rw [h2]
  have e2 : (R 1).1 = 2 := by rw [h2]
  rw [e1, e2] at hi
  have hlt : bD < wr.heap.size := lt_blk h6
  exact ⟨rfl, F', ⟨⟨_, hi, setR_same _ _ _, fun k hk => by rw [setR_other _ _ hk]; exact h3 k hk⟩, hk.blk h6 h7, hg.not h7 hlt⟩, hk, hg⟩
theorem dirb_cut (h : DirB w bD bt bx bc bj bm bd ys q F wr) {M : Nat} (hM : M ≤ ys.length) (h4 : ys.length ≤ 4000) (hq : q ≤ 36) :
    Calls Tryz.prog 25 #[.pointer (some ⟨bt, 0, none⟩), .int .i64 1, .int .i64 M] wr fun e w' => e = .returned .nilIface ∧ ∃ F', DirB w bD bt bx bc bj bm bd (cutAt ys M) q F' w' ∧ Kp F wr w' ∧ Gr F F' wr.heap.size := by
  obtain ⟨⟨R, h1, h2, h3⟩, h6, h7⟩ := h
  have hu := used_dir h2 h3
  have hle := bks_leD hM
  have hw := iu_cut h1 (ino := 1) (M := M) (q' := q) (by omega) (by omega) (by rw [h2]; exact (by decide : (2 : Nat) ≠ 0)) (by omega) (by
    rw [hu, h2]
    show bks ys.length + bks M ≤ 80 + bks ys.length
    have := bks_33 (n := M) (by omega)
    omega) hq (by
    rw [h2]
    show q + (bks (cutAt ys M).length - bks ys.length) ≤ q
    rw [cutAt_len]; omega)
  refine hw.mono ?_
  rintro e w' ⟨rfl, F', hi, hk, hg⟩
  have e1 : cutAt (R 1).2 M = cutAt ys M := by rw [h2]
  have e2 : (R 1).1 = 2 := by rw [h2]
  rw [e1, e2] at hi
  have hlt : bD < wr.heap.size := lt_blk h6
  exact ⟨rfl, F', ⟨⟨_, hi, setR_same _ _ _, fun k hk => by rw [setR_other _ _ hk]; exact h3 k hk⟩, hk.blk h6 h7, hg.not h7 hlt⟩, hk, hg⟩
theorem dir_read (h : DirS w bD bt bx bc bj bm bd l q F wr) :
    Calls Tryz.prog 27 #[.pointer (some ⟨bt, 0, none⟩), .int .i64 1, .int .i64 0, .int .i64 4000] wr fun e w' => ∃ A c, e = .returned (.tuple #[.slice A (32 * l.length) c, .nilIface]) ∧ Sl w' (.slice A (32 * l.length) c) (dirRow l) ∧ Kp (fun _ => False) wr w' := by
  obtain ⟨⟨⟨R, h1, h2, h2'⟩, h6, h7⟩, h3, h4, h5⟩ := h
  have hl := dirRow_len h3
  have hr := iu_readNew h1 (ino := 1) (p := 0) (m := 4000) (by omega) (by omega) (by rw [h2]; exact (by decide : (2 : Nat) ≠ 0)) (by omega) (by omega)
  rw [h2] at hr
  have e : readAt (dirRow l) 0 4000 = dirRow l := readAt_all _ _ (by omega)
  refine hr.mono ?_
  rintro e' w' ⟨v, rfl, hs, hk, _⟩
  simp only at hs
  rw [e] at hs
  obtain ⟨A, c, rfl, a, b, d⟩ := id hs
  rw [hl] at hs
  exact ⟨A, c, by rw [hl], hs, hk⟩
theorem sl_addr {w : World} {A : Option Addr} {n c : Nat} {ys : List Int} (h : Sl w (.slice A n c) ys) (hn : ys ≠ []) : ∃ g off, A = some ⟨g, off, none⟩ := by
  obtain ⟨A', c', e, _, _, h3⟩ := h
  obtain ⟨ad, rfl, h4⟩ := h3 hn
  simp only [Value.slice.injEq] at e
  obtain ⟨rfl, _, _⟩ := e
  cases ys with
  | nil => exact absurd rfl hn
  | cons y ys =>
    have := h4 0 (.int .u8 y) rfl
    obtain ⟨g, off, sp⟩ := ad
    cases sp with
    | none => exact ⟨g, off, rfl⟩
    | some k =>
      exfalso
      unfold World.cell? Addr.add at this
      simp at this
      split at this <;> simp at this
theorem sl_lt {w : World} {g off n c : Nat} {ys : List Int} (h : Sl w (.slice (some ⟨g, off, none⟩) n c) ys) (hn : ys ≠ []) : g < w.heap.size := by
  cases ys with
  | nil => exact absurd rfl hn
  | cons y ys => exact World.block_lt_of_cell? w _ (sl_cell h (j := 0) rfl)
/-- The k-th record among a directory's bytes. -/
theorem sl_rec {w : World} {g off c : Nat} {l : List Rc} (h : Sl w (.slice (some ⟨g, off, none⟩) (32 * l.length) c) (dirRow l)) (ok : AllOk l) {k : Nat} {x : Rc} (hx : l[k]? = some x) : Sl w (.slice (some ⟨g, off + k * 32, none⟩) 32 32) (recRow x) := by
  have h32 := recRow_len (ok x (List.mem_of_getElem? hx)).nm.hi
  refine ⟨_, 32, by rw [h32], by rw [h32]; exact Nat.le_refl _, by unfold maxLen; omega, fun _ => ⟨_, rfl, fun j u hj => ?_⟩⟩
  obtain ⟨y, hy, rfl⟩ := bs_get _ _ _ hj
  have hj32 := (List.getElem?_eq_some_iff.1 hy).1
  rw [h32] at hj32
  have e : (dirRow l)[32 * k + j]? = some y := by
    have h5 := dirRow_at ok hx
    rw [← h5, List.getElem?_take, if_pos hj32, List.getElem?_drop] at hy
    exact hy
  have := sl_cell h e
  rw [Addr.add_lit, show off + k * 32 + j = off + (32 * k + j) by omega]
  exact this
theorem sl_below {w W : World} {B g o n c : Nat} {ys : List Int} (h : Sl w (.slice (some ⟨g, o, none⟩) n c) ys) (hb : Below B w W) (hg : g < B) : Sl W (.slice (some ⟨g, o, none⟩) n c) ys := by
  obtain ⟨A', c', e, h1, h2, h3⟩ := h
  refine ⟨A', c', e, h1, h2, fun hn => ?_⟩
  obtain ⟨ad, rfl, h4⟩ := h3 hn
  refine ⟨ad, rfl, fun j u hj => ?_⟩
  simp only [Value.slice.injEq, Option.some.injEq] at e
  have hbl : (ad.add j).block < B := by rw [add_block, ← e.1]; exact hg
  exact (hb.cell hbl).trans (h4 j u hj)
theorem Tryz.infoRec : (Tryz.prog.info? 86).map (fun i => (i.zero, i.size, i.bytes)) = some (some (.agg #[.string { data := #[] }, .int .i64 0]), 2, 24) := by kernel_rfl
/-- Bools as a map's elements. -/
def boolElem : Value → Option (DataW Unit × List MemPlace)
  | .bool x => some (.lit (.bool x), [])
  | _ => none
def keyL (x : Rc) : Lit := .string (str x.s).data.toList
def rcells (l : List Rc) : List Value := l.flatMap fun x => [.string (str x.s), .int .i64 x.id]
theorem rcells_len (l : List Rc) : (rcells l).length = l.length * 2 := by
  unfold rcells
  induction l with
  | nil => rfl
  | cons x l ih => simp only [List.flatMap_cons, List.length_append, List.length_cons, List.length_nil] at *; omega
theorem rcells_app (a b : List Rc) : rcells (a ++ b) = rcells a ++ rcells b := by unfold rcells; exact List.flatMap_append
theorem rcells_get : ∀ (l : List Rc) (i : Nat) (x : Rc), l[i]? = some x → (rcells l)[i * 2]? = some (.string (str x.s)) ∧ (rcells l)[i * 2 + 1]? = some (.int .i64 x.id)
  | [], i, x, h => by simp at h
  | y :: l, 0, x, h => by
    simp only [List.getElem?_cons_zero, Option.some.injEq] at h
    subst h
    exact ⟨rfl, rfl⟩
  | y :: l, i + 1, x, h => by
    have := rcells_get l i x (by simpa using h)
    have e : rcells (y :: l) = .string (str y.s) :: .int .i64 y.id :: rcells l := rfl
    rw [e, show (i + 1) * 2 = i * 2 + 1 + 1 by omega, show i * 2 + 1 + 1 + 1 = (i * 2 + 1) + 1 + 1 by omega]
    simpa using this
def recAt (l : List Rc) (x : CbI (32 * l.length)) : Rc := l[x.k]'(by have := x.h; omega)
theorem recAt_get (l : List Rc) (x : CbI (32 * l.length)) : l[x.k]? = some (recAt l x) := List.getElem?_eq_getElem _
theorem recAt_all (l : List Rc) : (cbUpto (32 * l.length) (cbN (32 * l.length))).map (recAt l) = l := by
  have hN : cbN (32 * l.length) = l.length := by unfold cbN; omega
  rw [hN]
  have hks := cbUpto_ks (n := 32 * l.length) (k := l.length) (by omega)
  generalize cbUpto (32 * l.length) l.length = xs at *
  have hlen : xs.length = l.length := by have := congrArg List.length hks; simpa using this
  refine List.ext_getElem? fun i => ?_
  by_cases hi : i < l.length
  · obtain ⟨x, hx⟩ : ∃ x, xs[i]? = some x := ⟨_, List.getElem?_eq_getElem (by omega)⟩
    have h1 : (xs.map (·.k))[i]? = some x.k := by rw [List.getElem?_map, hx]; rfl
    rw [hks, List.getElem?_range hi, Option.some.injEq] at h1
    rw [List.getElem?_map, hx]
    show some (recAt l x) = _
    rw [← recAt_get, ← h1]
  · rw [List.getElem?_eq_none (by rw [List.length_map]; omega), List.getElem?_eq_none (by omega)]
theorem nodup_map_inj {α β : Type} {f : α → β} {l : List α} (h : (l.map f).Nodup) {i j : Nat} {a b : α} (hi : l[i]? = some a) (hj : l[j]? = some b) (e : f a = f b) : i = j := by
  have h1 : (l.map f)[i]? = some (f a) := by rw [List.getElem?_map, hi]; rfl
  have h2 : (l.map f)[j]? = some (f a) := by rw [List.getElem?_map, hj, e]; rfl
  exact (List.getElem?_inj (List.getElem?_eq_some_iff.1 h1).1 h).1 (h1.trans h2.symm)
/-- A name that was seen is that of a record that came. -/
theorem seen_dup {l : List Rc} (hn : Names l) (ok : AllOk l) {pre : List (CbI (32 * l.length))} {x : CbI (32 * l.length)} (h : (pre.map fun y => keyL (recAt l y)).any (fun y => y.sameKey (keyL (recAt l x))) = true) : ¬ ((pre ++ [x]).map (·.k)).Nodup := by
  obtain ⟨y, hy, hs⟩ := List.any_eq_true.1 h
  obtain ⟨z, hz, rfl⟩ := List.mem_map.1 hy
  have e : keyL (recAt l z) = keyL (recAt l x) := Classical.byContradiction fun hne => by rw [Maps.sameKey_ne hne] at hs; cases hs
  have e2 : (recAt l z).s = (recAt l x).s := by
    unfold keyL at e
    simp only [Lit.string.injEq] at e
    exact str_inj (ok _ (List.mem_of_getElem? (recAt_get l z))).nm.byt (ok _ (List.mem_of_getElem? (recAt_get l x))).nm.byt (ba_ext e)
  have e3 := nodup_map_inj hn (recAt_get l z) (recAt_get l x) e2
  intro hd
  rw [List.map_append, List.nodup_append] at hd
  exact hd.2.2 z.k (List.mem_map.2 ⟨z, hz, rfl⟩) x.k (by simp) e3
theorem keyL_key (x : Rc) : WideAt.IsKeyLit (keyL x) := by unfold keyL WideAt.IsKeyLit; trivial
/-- Whether a name was seen, as the map says. -/
theorem seen_look {W : World} {b n : Nat} {acc : List Rc} (ho : W.ownsMap Tryz.prog 9 boolElem b n (Maps.setOf (.lit (.bool true)) (acc.map keyL))) (x : Rc) (hx : x.s.length ≤ 27) : ∃ r, (Instr.lookup 146 (.map (some b)) (.string (str x.s)) false).run Tryz.prog W = .ok (.bool r) W ∧ (r = true → (acc.map keyL).any (fun y => y.sameKey (keyL x)) = true) := by
  have hkey : keyOf Tryz.prog 9 (.string (str x.s)) = some (keyL x) := WideMaps.keyOf_string_mk Tryz.underlying9 (by rw [str_size]; unfold maxLen; omega)
  obtain ⟨v, ps, hrun, hv⟩ := ho.lookup (Maps.string_keyed Tryz.underlying9) Tryz.underlying146 (Tryz.zeroValue4 W) (zd := .lit (.bool false)) (zp := []) rfl hkey
  cases v with
  | bool r =>
    refine ⟨r, hrun, fun hr => ?_⟩
    subst hr
    rw [← Maps.has_setOf (H := Unit) (.lit (.bool true)) (keyL x) (acc.map keyL) (fun y hy => by obtain ⟨z, _, rfl⟩ := List.mem_map.1 hy; exact keyL_key z)]
    cases hh : Maps.has (Maps.setOf (H := Unit) (.lit (.bool true)) (acc.map keyL)) (keyL x) with
    | true => rfl
    | false =>
      rw [Maps.atKey_of_not_has hh] at hv
      simp [boolElem] at hv
  | _ => simp [boolElem] at hv
theorem wpIn_noPanic {F : Fence} {rm : Nat} {P : Program} {s : Code} {K : Act → World → Prop} {Q' : Exit → Act → World → Prop} {a : Act} {w : World} (h : s.wpIn F rm P (Exit.then K (fun _ _ _ => False)) a w) : s.wpIn F rm P (Exit.then K Q') a w := by
  refine wpIn_mono h ?_
  intro e a' w' hq
  cases e with
  | normal => exact hq
  | exit id => exact hq.elim
  | goto l => exact hq.elim
  | ret => exact hq.elim
  | panic ch => exact hq.elim
  | outgrown => exact hq.elim
def DupK {n : Nat} (pre : List (CbI n)) : Prop := ¬ (pre.map (·.k)).Nodup
/-- Between two rounds: the records that came; the names that were seen. -/
def RowsI (l : List Rc) (B : Nat) (V : Value) (W4 : World) (pre : List (CbI (32 * l.length))) (W : World) : Prop :=
  ∃ v, Boxed W B 77 v ∧ W.ownsRow B 86 2 v pre.length (rcells (pre.map (recAt l))) ∧ Boxed W (B + 1 + 1) 146 (.map (some (B + 1))) ∧ W.ownsMap Tryz.prog 9 boolElem (B + 1) pre.length (Maps.setOf (.lit (.bool true)) ((pre.map (recAt l)).map keyL)) ∧ Boxed W (B + 3) 52 V ∧ Boxed W (B + 3 + 1) 3 (.int .i64 32) ∧ Below B W4 W ∧ B + 5 ≤ W.heap.size
theorem rowsI_own {l : List Rc} {B : Nat} {V : Value} {W4 : World} {b : Nat} (hb : B + 5 ≤ b) : OwnFrom b (RowsI l B V W4) := by
  intro s W W' row h hg hr
  have hc : ∀ {k : Nat} {cs : Array Value} {t : TypeId} {fr : Nat × Nat}, W.heap[k]? = some (.cells cs t fr) → W'.heap[k]? = some (.cells cs t fr) := by
    intro k cs t fr hk
    refine (hg.block k (lt_blk hk) (fun e => ?_)).trans hk
    obtain ⟨_, o, ho, hoc⟩ := hr k e.symm
    rw [hk] at ho; cases ho; cases hoc
  obtain ⟨v, h1, ⟨h2, h3⟩, h4, h5, h6, h7, h8, h9⟩ := h
  refine ⟨v, hc h1, ⟨h2, ?_⟩, hc h4, h5.kept hg (fun e => by have := (hr _ e.symm).1; omega), hc h6, hc h7, h8.grown hg (Nat.le_trans (by omega) h9) (fun k e => by have := (hr k e).1; omega), Nat.le_trans h9 hg.size⟩
  rcases h3 with h3 | ⟨g, cap, cur, e1, e2, e3, e4⟩
  · exact .inl h3
  · exact .inr ⟨g, cap, cur, e1, e2, hc e3, e4⟩
theorem dir_rows (h : DirS w bD bt bx bc bj bm bd l q F wr) :
    Calls Tryz.prog 42 #[.pointer (some ⟨bD, 0, none⟩)] wr fun e w' => ∃ v, e = .returned (.tuple #[v, .nilIface]) ∧ RcSl w' v l ∧ Kp (fun _ => False) wr w' ∧ ∀ b, blockOf v = some b → wr.heap.size ≤ b := by
  have HRD := Lib.hid (fun (W : World) (hk : Kp (fun _ => False) wr W) => dir_read (h.kp0 hk))
  have HB := Lib.hid (show wr.heap[bD]? = some (.cells #[.pointer (some ⟨bt, 0, none⟩), .int .i64 1] 84 (0, 0)) from h.b.blk)
  have hfew := h.few
  have HOk := Lib.hid h.ok
  have HNm := Lib.hid h.nm
  clear h
  have hmm := @run_makeMap Tryz.prog
  have hfR : Fence.wide.fn 27 := trivial
  have hfC : Fence.wide.fn 74 := trivial
  have hfP : Fence.wide.fn 75 := trivial
  refine (callsIn_wide (n := 6)).1 ?_
  refine callsIn_of_wp_marks Tryz.func42 rfl trivial ?_ rfl
  simp only [Tryz.ntmps42, List.size_toArray, List.length_cons, List.length_nil, Nat.reduceAdd, Nat.reduceSub, Array.replicate_succ, Array.replicate_zero, List.push_toArray, List.append_toArray, List.nil_append, List.cons_append]
  gi_upto_region 1 with fail
  have hk0 := ((Kp.refl (fun _ => False) wr).alloc (.cells #[.slice none 0 0] 77)).alloc (.cells #[.nilIface] 28)
  have HX1 := Lib.hid (((Kp.refl (fun _ => False) (wr.alloc (.cells #[.slice none 0 0] 77))).alloc (.cells #[.nilIface] 28)).blk (new_blk wr (.cells #[.slice none 0 0] 77)) (fun h => h))
  have HX2 := Lib.hid (new_blk (wr.alloc (.cells #[.slice none 0 0] 77)) (.cells #[.nilIface] 28))
  have HK0 := Lib.hid hk0
  rw [size_alloc] at HX2
  have hb := hk0.blk HB.out (fun h => h)
  clear hk0
  have Hws : LeH wr wr.heap.size := Nat.le_refl _
  generalize (wr.alloc (.cells #[.slice none 0 0] 77)).alloc (.cells #[.nilIface] 28) = w1 at *
  generalize wr.heap.size = H at *
  have c0 := cell_blk hb 0
  have c1 := cell_blk hb 1
  simp at c0 c1
  clear hb
  gi_cut [4, 5] from 11 (fun s4 s5 wc => ∃ A c, s4 = .slice A (32 * l.length) c ∧ s5 = .nilIface ∧ Sl wc (.slice A (32 * l.length) c) (dirRow l) ∧ Kp (fun _ => False) w1 wc)
  case first =>
    refine wpIn_noPanic ?_
    gi_region_with (gi_at_call 27; refine (callsIn_wide.2 (HRD.out _ (HK0.out.drew))).mono ?_; rintro e w2 ⟨A, c, rfl, hs2, hk2⟩)
    all_goals (
      have hk3 : Kp (fun _ => False) w1 w2 := (Kp.refl (fun _ => False) w1).drew.trans hk2 (Gr.refl _ _)
      have Hs2 := Lib.hid hs2
      have Hk3 := Lib.hid hk3
      clear c0 c1 hs2 hk2 hk3
      gi_wp2_with fail
      gi_meet
      case rel => exact ⟨A, c, rfl, rfl, Hs2.out, Hk3.out⟩)
  case rest =>
    obtain ⟨A, c, rfl, rfl, hs2, hk2⟩ := hcut
    have HS := Lib.hid hs2
    have HgB := Lib.hid (show ∀ g off, A = some ⟨g, off, none⟩ → dirRow l ≠ [] → g < wc.heap.size from fun g off e hn => by rw [e] at hs2; exact sl_lt hs2 hn)
    have hl32 := dirRow_len HOk.out
    have HX1' := Lib.hid (hk2.blk HX1.out (fun h => h))
    have HX2' := Lib.hid (hk2.blk HX2.out (fun h => h))
    have HKc := Lib.hid (HK0.out.trans hk2 (Gr.refl _ _))
    have hHc : H + 1 < wc.heap.size := lt_blk HX2'.out
    clear c0 c1 hs2 hk2 HX1 HX2 HK0 HRD HB
    have hr32 : ((32 * l.length : Nat) : Int).tmod 32 = 0 := by
      rw [Int.natCast_mul]; exact Int.mul_tmod_right _ _
    gi_upto_region 8 with fail
    have hk3 := (((Kp.refl (fun _ => False) wc).alloc (.cells #[.slice none 0 0] 77)).alloc (.map #[] 0)).alloc (.cells #[.map (some (wc.heap.size + 1))] 146)
    have hbO : Boxed (((wc.alloc (.cells #[.slice none 0 0] 77)).alloc (.map #[] 0)).alloc (.cells #[.map (some (wc.heap.size + 1))] 146)) wc.heap.size 77 (.slice none 0 0) := ((Boxed.new wc _ _).alloc _).alloc _
    have hoM : (((wc.alloc (.cells #[.slice none 0 0] 77)).alloc (.map #[] 0)).alloc (.cells #[.map (some (wc.heap.size + 1))] 146)).ownsMap Tryz.prog 9 boolElem (wc.heap.size + 1) 0 (.map []) := by
      have := (World.ownsMap_made (wc.alloc (.cells #[.slice none 0 0] 77)) Tryz.prog 9 boolElem).alloc (.cells #[.map (some (wc.heap.size + 1))] 146)
      rwa [size_alloc] at this
    have hbM : Boxed (((wc.alloc (.cells #[.slice none 0 0] 77)).alloc (.map #[] 0)).alloc (.cells #[.map (some (wc.heap.size + 1))] 146)) (wc.heap.size + 2) 146 (.map (some (wc.heap.size + 1))) := by
      have := Boxed.new ((wc.alloc (.cells #[.slice none 0 0] 77)).alloc (.map #[] 0)) 146 (.map (some (wc.heap.size + 1)))
      simpa using this
    have hsz3 : (((wc.alloc (.cells #[.slice none 0 0] 77)).alloc (.map #[] 0)).alloc (.cells #[.map (some (wc.heap.size + 1))] 146)).heap.size = wc.heap.size + 3 := by simp
    have HK3 := Lib.hid hk3
    have HbO := Lib.hid hbO
    have HoM := Lib.hid hoM
    have HbM := Lib.hid hbM
    clear hk3 hbO hoM hbM hmm
    generalize ((wc.alloc (.cells #[.slice none 0 0] 77)).alloc (.map #[] 0)).alloc (.cells #[.map (some (wc.heap.size + 1))] 146) = w3 at *
    gi_wp2_with (gi_at_call 74; refine (chunkb_in Fence.wide 5 trivial rfl _ _ _ _).mono ?_; rintro e w' ⟨rfl, rfl⟩)
    have HBw : LeH wr wc.heap.size := HKc.out.size
    generalize wc.heap.size = B at *
    obtain ⟨W4, hW4⟩ : ∃ W4, (w3.alloc (.cells #[.slice A (32 * l.length) c] 52)).alloc (.cells #[.int .i64 32] 3) = W4 := ⟨_, rfl⟩
    have hs4 : W4.heap.size = B + 5 := by rw [← hW4]; simp [hsz3]
    have k4 : Kp (fun _ => False) w3 W4 := by rw [← hW4]; exact ((Kp.refl _ _).alloc _).alloc _
    have c41 : W4.cell? ⟨B + 3, 0, none⟩ = some (.slice A (32 * l.length) c) := by
      have := ((Boxed.new w3 52 (.slice A (32 * l.length) c)).alloc (.cells #[.int .i64 32] 3)).cell
      rw [hsz3] at this
      rw [← hW4]; exact this
    have c42 : W4.cell? ⟨B + 3 + 1, 0, none⟩ = some (.int .i64 32) := by
      have := (Boxed.new (w3.alloc (.cells #[.slice A (32 * l.length) c] 52)) 3 (.int .i64 32)).cell
      rw [size_alloc, hsz3] at this
      rw [← hW4]; exact this
    have HS4 := Lib.hid ((HS.out.kp HK3.out (fun _ _ h => h)).kp k4 (fun _ _ h => h))
    have HbO4 : Hid (Boxed W4 B 77 (.slice none 0 0)) := k4.blk HbO.out (fun h => h)
    have HbM4 : Hid (Boxed W4 (B + 1 + 1) 146 (.map (some (B + 1)))) := k4.blk HbM.out (fun h => h)
    have HoM4 : Hid (W4.ownsMap Tryz.prog 9 boolElem (B + 1) 0 (.map [])) := by
      rw [← hW4]; exact (HoM.out.alloc _).alloc _
    have HKw := Lib.hid ((HKc.out.trans HK3.out (Gr.refl _ _)).trans k4 (Gr.refl _ _))
    have HR1 := Lib.hid (k4.blk (HK3.out.blk HX1'.out (fun h => h)) (fun h => h))
    have HR2 := Lib.hid (k4.blk (HK3.out.blk HX2'.out (fun h => h)) (fun h => h))
    have HC1 := Lib.hid c41
    have HB3 : Hid (Boxed W4 (B + 3) 52 (.slice A (32 * l.length) c)) := by
      have := (Boxed.new w3 52 (.slice A (32 * l.length) c)).alloc (.cells #[.int .i64 32] 3)
      rw [hsz3] at this
      rw [← hW4]; exact this
    have HB4 : Hid (Boxed W4 (B + 3 + 1) 3 (.int .i64 32)) := by
      have := Boxed.new (w3.alloc (.cells #[.slice A (32 * l.length) c] 52)) 3 (.int .i64 32)
      rw [size_alloc, hsz3] at this
      rw [← hW4]; exact this
    have HC2 := Lib.hid c42
    rw [hW4]
    clear HS HK3 HbO HoM HbM HX1' HX2' HKc hW4 k4 c41 c42 hsz3
    obtain ⟨g, off, hA⟩ : ∃ g off, 0 < 32 * l.length → A = some ⟨g, off, none⟩ := by
      by_cases hz : l = []
      · exact ⟨0, 0, fun h => by rw [hz] at h; simp at h⟩
      · obtain ⟨g, off, h⟩ := sl_addr HS4.out (fun e => hz (List.length_eq_zero_iff.1 (by have := congrArg List.length e; rw [hl32] at this; simp only [List.length_nil] at this; omega)))
        exact ⟨g, off, fun _ => h⟩
    have HAg := Lib.hid hA
    have hcl : 32 * l.length ≤ c ∧ c ≤ maxLen := by
      obtain ⟨A', c', e, q1, q2, _⟩ := HS4.out
      simp only [Value.slice.injEq] at e
      obtain ⟨_, e1, rfl⟩ := e
      exact ⟨by omega, q2⟩
    refine wpIn_rangeFunc_ownG rfl (by omega) (gf := 119) (lb := #[.pointer (some ⟨B + 3, 0, none⟩), .pointer (some ⟨B + 3 + 1, 0, none⟩)]) rfl trivial (enters_of Tryz.func119 (by kernel_rfl) rfl)
      (chunkb_stops Fence.wide 5 trivial rfl (by omega) (B + 3) (B + 3 + 1) g off (32 * l.length) c A HAg.out hcl.1 hcl.2 (by omega) W4 (by omega) (by omega) HC1.out HC2.out) (SameC.trans) (SameC.put (by omega) (by omega)) (Below.refl _ _) (fun _ => rfl)
      (RowsI l B (.slice A (32 * l.length) c) W4) (fun _ pre _ => DupK pre) (rowsI_own (by omega)) (fun _ _ _ _ _ h _ _ => h)
      ⟨.slice none 0 0, HbO4.out, World.ownsRow_nil _ _ _ _, HbM4.out, HoM4.out, HB3.out, HB4.out, Below.refl _ _, by omega⟩
      (fun x => { tmps := #[Value.pointer (some ⟨bD, 0, none⟩), undef, .pointer (some ⟨H, 0, none⟩), .pointer (some ⟨H + 1, 0, none⟩), .slice A (32 * l.length) c, .nilIface, .pointer (some ⟨B, 0, none⟩), .pointer (some ⟨B + 1 + 1, 0, none⟩), cbVal g off (32 * l.length) x, undef, undef, u11, u12, u13, u14, u15, u16, u17, u18, u19, u20, u21, u22, .bool false, .nilIface, .bool false, u26, .bool false, .slice A (32 * l.length) c, .int .i64 (32 * (l.length : Int)), .int .i64 0, .bool false, u32, .map (some (B + 1)), .slice A (32 * l.length) c, .func (.func 119) #[] #[.pointer (some ⟨B + 3, 0, none⟩), .pointer (some ⟨B + 3 + 1, 0, none⟩)], cbVal g off (32 * l.length) x, u37, u38, u39, u40, u41, u42, u43, u44, u45, u46, u47, u48, u49, u50, u51, u52, u53, u54, u55, u56, u57, u58], defers := [] }) ?assign ?body ?done ?stop
    case assign =>
      intro l' x W K hK
      gi_wp2
      exact hK
    case stop =>
      rintro D cd pre W hD ⟨j, rfl⟩ hI hK
      refine absurd ?_ hI
      obtain ⟨j', h1, h2, h3⟩ := cbUpto_le (n := 32 * l.length) j
      rw [h2]
      exact List.nodup_range
    case body =>
      rintro l' pre x W hI hlen
      obtain ⟨v, hbx, hown, hbm, hom, hb3, hb4, hbel, hsz⟩ := hI
      have hxk : x.k < l.length := by have := x.h; omega
      have hgx := HAg.out (by omega)
      have hv : cbVal g off (32 * l.length) x = .slice (some ⟨g, off + x.k * 32, none⟩) 32 32 := by
        unfold cbVal
        rw [show min 32 (32 * l.length - x.k * 32) = 32 by omega]
      have hne : dirRow l ≠ [] := fun e => by have := congrArg List.length e; rw [hl32, List.length_nil] at this; omega
      have hgB : g < B := HgB.out g off hgx hne
      have hsl : Sl W (.slice (some ⟨g, off + x.k * 32, none⟩) 32 32) (recRow (recAt l x)) := by
        have h4 := HS4.out
        rw [hgx] at h4
        exact sl_below (sl_rec h4 HOk.out (recAt_get l x)) hbel hgB
      have hrok := HOk.out _ (List.mem_of_getElem? (recAt_get l x))
      have HP := Lib.hid (dir_parse hrok g (off + x.k * 32) hsl)
      have Hrok := Lib.hid hrok
      have hN : pre.length ≤ 120 := by have := hlen; unfold cbN at this; omega
      have Hbx := Lib.hid hbx
      have Hown := Lib.hid hown
      have Hbm := Lib.hid hbm
      have Hom := Lib.hid hom
      have Hb3 := Lib.hid hb3
      have Hb4 := Lib.hid hb4
      have Hbel := Lib.hid hbel
      rw [hv]
      obtain ⟨r, hr⟩ : ∃ r, recAt l x = r := ⟨_, rfl⟩
      rw [hr] at HP Hrok
      have Hr := Lib.hid hr
      clear hr
      clear hsl hrok hbx hown hbm hom hb3 hb4 hbel hv hne hlen
      gi_upto_region 11 with (gi_at_call 75; refine (CallsIn.inRound l' (callsIn_wide.2 HP.out)).mono ?_; rintro e w5 ⟨rfl, hk5⟩; have Hk5 := Lib.hid hk5; clear hk5)
      have hk6 := Hk5.out.alloc (.cells #[.string (str r.s), .int .i64 r.id] 86)
      have HX6 := Lib.hid (new_blk w5 (.cells #[.string (str r.s), .int .i64 r.id] 86))
      have HK6 := Lib.hid hk6
      have Hp6 : Hid (W.heap.size ≤ w5.heap.size) := Hk5.out.size
      clear hk6 HP Hk5
      generalize w5.alloc (.cells #[.string (str r.s), .int .i64 r.id] 86) = w6 at *
      generalize w5.heap.size = p at *
      have Hm6 : Hid (Boxed w6 (B + 1 + 1) 146 (.map (some (B + 1)))) := HK6.out.blk Hbm.out (fun h => h)
      have Ho6 : Hid (w6.ownsMap Tryz.prog 9 boolElem (B + 1) pre.length (Maps.setOf (.lit (.bool true)) ((pre.map (recAt l)).map keyL))) := by
        obtain ⟨es, clk, e1, e2⟩ := Hom.out
        exact ⟨es, clk, HK6.out.blk e1 (fun h => h), e2⟩
      have h27 := Hrok.out.nm.hi
      obtain ⟨rr, hrun, hrt⟩ := seen_look Ho6.out r h27
      have Hrt := Lib.hid hrt
      have cm := Hm6.out.cell
      have e0 := cell_blk HX6.out 0
      have e1 := cell_blk HX6.out 1
      simp at e0 e1
      clear hrt
      cases rr with
      | true =>
        have h1 := HK6.out.blk ((Hbel.out.block H (by omega)).trans HR1.out) (fun h => h)
        have h2 := HK6.out.blk ((Hbel.out.block (H + 1) (by omega)).trans HR2.out) (fun h => h)
        have g0 : w6.cell? ⟨H, 0, none⟩ = some (.slice none 0 0) := by rw [cell_blk h1]; rfl
        have g1 : w6.cell? ⟨H + 1, 0, none⟩ = some .nilIface := by rw [cell_blk h2]; rfl
        have f0 := frozen_blk h1 0
        have f1 := frozen_blk h2 0
        have HD : Hid (DupK (pre ++ [x])) := seen_dup HNm.out HOk.out (by rw [Hr.out]; have := Hrt.out rfl; rwa [List.map_map] at this)
        have HKO := Lib.hid (show KeepsOthers W w6 from ⟨HK6.out.size, fun j o h _ => HK6.out.blk h (fun h => h)⟩)
        clear h1 h2
        gi_wp2
        exact ⟨((HKO.out.trans (KeepsOthers.setCell _ _ _)).trans (KeepsOthers.setCell _ _ _)).from _, HD.out⟩
      | false =>
        have hkey : keyOf Tryz.prog 9 (.string (str r.s)) = some (keyL r) := WideMaps.keyOf_string_mk Tryz.underlying9 (by rw [str_size]; unfold maxLen; omega)
        gi_upto_region 14 with (gi_at_mapUpdate; refine wpListIn_mapUpdate_own _ rfl _ _ _ 146 rfl 9 4 (Maps.string_keyed Tryz.underlying9) Tryz.underlying146 boolElem (B + 1) pre.length _ rfl Ho6.out (by unfold maxLen; omega) _ _ _ rfl rfl hkey (.lit (.bool true)) [] rfl ?_; intro w7 hown7 hgrow7; have Hown7 := Lib.hid hown7; have Hgrow7 := Lib.hid hgrow7; clear hown7 hgrow7)
        have hnm : some (B + 1) ≠ v.ownBlock := fun e => by
          obtain ⟨es, clk, e1, _⟩ := Hom.out
          obtain ⟨_, ⟨rfl, _⟩ | ⟨g2, cap2, cur2, rfl, h3, h4, _⟩⟩ := Hown.out
          · simp [Value.ownBlock] at e
          · have : B + 1 = g2 := by simpa [Value.ownBlock] using e
            rw [← this, e1] at h4; cases h4
        have Hown7r : Hid (w7.ownsRow B 86 2 v pre.length (rcells (pre.map (recAt l)))) := (rowD_kp0 Hown.out HK6.out).kept Hgrow7.out (.inr hnm.symm)
        have Hbx7 : Hid (Boxed w7 B 77 v) := (show Boxed w6 B 77 v from HK6.out.blk Hbx.out (fun h => h)).kept Hgrow7.out (by simp)
        have hs7 := Hgrow7.out.size
        have hs6 := HK6.out.size
        have hX7 : w7.heap[p]? = some (.cells #[.string (str r.s), .int .i64 r.id] 86 (0, 0)) := (Hgrow7.out.block p (lt_blk HX6.out) (by have := Hp6.out; simp; omega)).trans HX6.out
        have d0 := cell_blk hX7 0
        have d1 := cell_blk hX7 1
        simp at d0 d1
        have cb := Hbx7.out.cell
        obtain ⟨i0, hi0, hz0, hz1, hz2⟩ := info_parts Tryz.infoRec
        clear cm e0 e1 hrun hX7 hkey
        gi_wp2_with (gi_at_builtin; refine wpListIn_append_own _ rfl _ _ 77 rfl B 86 i0 (.agg #[.string { data := #[] }, .int .i64 0]) 2 24 Tryz.underlying77 hi0 hz0 hz1 hz2 rfl (by decide) _ _ _ rfl (Hown7r.out.alloc _) ⟨w7.heap.size, 0, none⟩ 1 1 [.string (str r.s), .int .i64 (r.id : Nat)] rfl rfl (fun j u hj => by rw [add0, cell_blk (new_blk w7 _)]; simpa using hj) (by simp [Value.oneCell']) (by unfold maxLen; omega) (by omega) (leD_alloc _ (by omega)) ?_; intro v' w8 hown' hgrow _; obtain ⟨g', cap', rfl⟩ := ownsRow_succ hown'; have hb8 := (Hbx7.out.alloc (.cells #[.string (str r.s), .int .i64 (r.id : Nat)] 86)).kept hgrow (Hbx7.out.not_row (by decide) Hown7r.out); have hc8 := hb8.cell; have hf8 := hb8.frozen; have Hown' := Lib.hid hown'; have Hgrow := Lib.hid hgrow; have Hb8 := Lib.hid hb8; clear hown' hgrow hb8)
        obtain ⟨hx1, hx2, hx3, hx4, hx5⟩ := Hbx7.out.appended (n₀ := B) (by decide) Hown7r.out (by omega) (Nat.le_refl _) Hown'.out Hgrow.out
        have hnob : ∀ b cs t fr, w7.heap[b]? = some (.cells cs t fr) → t ≠ 86 → some b ≠ v.ownBlock := fun b cs t fr hb ht e => by
          obtain ⟨_, ⟨rfl, _⟩ | ⟨g2, cap2, cur2, rfl, h3, h4, _⟩⟩ := Hown7r.out
          · simp [Value.ownBlock] at e
          · have : b = g2 := by simpa [Value.ownBlock] using e
            rw [this, h4] at hb; cases hb; exact ht rfl
        have hkeep : ∀ b cs t fr, W.heap[b]? = some (.cells cs t fr) → t ≠ 86 → b ≠ B → b ≠ B + 1 → (w8.setCell ⟨B, 0, none⟩ (.slice (some ⟨g', 0, none⟩) (pre.length + 1) cap')).heap[b]? = some (.cells cs t fr) := fun b cs t fr hb ht h1 h2 => by
          have h6 := HK6.out.blk hb (fun h => h)
          have h7 := (Hgrow7.out.block b (lt_blk h6) (by simp; exact h2)).trans h6
          rw [Below.heap_setCell _ _ _ _ (fun e => h1 e), Hgrow.out.block b (leD_alloc _ (lt_blk h7)) (hnob b cs t fr h7 ht), Below.heap_alloc _ _ b (lt_blk h7)]
          exact h7
        have hkb3 := hkeep (B + 3) _ _ _ Hb3.out (by decide) (by omega) (by omega)
        have hkb4 := hkeep (B + 3 + 1) _ _ _ Hb4.out (by decide) (by omega) (by omega)
        have hko : KeepsOthers W w6 := ⟨HK6.out.size, fun j o h _ => HK6.out.blk h (fun h => h)⟩
        refine ⟨((hko.from _).trans (KeepsFrom.of_grownBy Hgrow7.out (fun j e => by cases e; omega))).trans (hx4.from _), ⟨World.cell?_of_block (hkb3.trans (Eq.symm Hb3.out)), World.cell?_of_block (hkb4.trans (Eq.symm Hb4.out))⟩, ?_⟩
        have hbl : Below B W w7 := (HK6.out.below (by omega) (fun _ h => h.elim)).grown Hgrow7.out (by omega) (fun k e => by cases e; omega)
        refine ⟨_, hx2, ?_, hkeep (B + 1 + 1) _ _ _ Hbm.out (by decide) (by omega) (by omega), ?_, hkb3, hkb4, (Hbel.out.trans hbl).trans hx5, Nat.le_trans (by omega) hx4.size⟩
        · rw [List.length_append, List.map_append, rcells_app]
          have e : rcells ([x].map (recAt l)) = [.string (str r.s), .int .i64 (r.id : Nat)] := by
            show rcells [recAt l x] = _
            rw [Hr.out]; rfl
          rw [e]
          exact hx3
        · obtain ⟨es, clk, e1, e2⟩ := Hown7.out
          have e3 : ((pre ++ [x]).map (recAt l)).map keyL = (pre.map (recAt l)).map keyL ++ [keyL r] := by
            rw [List.map_append, List.map_append]
            show _ ++ [keyL (recAt l x)] = _
            rw [Hr.out]
          rw [List.length_append, e3, Maps.setOf_snoc]
          exact ⟨es, clk, hx4.same _ _ e1 rfl, e2⟩
    case done =>
      rintro D ys W hD rfl hI hK
      obtain ⟨v, hbx, hown, hbm, hom, hb3, hb4, hbel, hsz⟩ := hI
      have hlen : (cbUpto (32 * l.length) (cbN (32 * l.length))).length = l.length := by
        have := congrArg List.length (recAt_all l)
        rwa [List.length_map] at this
      rw [recAt_all, hlen] at hown
      have h1 := (hbel.block H (by omega)).trans HR1.out
      have h2 := (hbel.block (H + 1) (by omega)).trans HR2.out
      have g0 : W.cell? ⟨H, 0, none⟩ = some (.slice none 0 0) := by rw [cell_blk h1]; rfl
      have g1 : W.cell? ⟨H + 1, 0, none⟩ = some .nilIface := by rw [cell_blk h2]; rfl
      have f0 := frozen_blk h1 0
      have f1 := frozen_blk h2 0
      obtain ⟨Av, cv, rfl, hrc⟩ : ∃ Av cv, v = .slice Av l.length cv ∧ l.length ≤ cv ∧ cv ≤ maxLen ∧ (∀ b, blockOf (.slice Av l.length cv) = some b → B ≤ b) ∧ (l ≠ [] → ∃ g2, Av = some ⟨g2, 0, none⟩ ∧ (∃ cs fr, W.heap[g2]? = some (.cells cs 86 fr)) ∧ ∀ i x, l[i]? = some x → W.cell? ⟨g2, i * 2, none⟩ = some (.string (str x.s)) ∧ W.cell? ⟨g2, i * 2 + 1, none⟩ = some (.int .i64 x.id)) := by
        obtain ⟨q1, ⟨e0, q2⟩ | ⟨g2, cap, cur, e1, e2, e3, e4, e5, e6, e7⟩⟩ := hown
        · have hz : l.length = 0 := by first | exact q2 | (have := congrArg List.length q2; simpa using this) | omega
          exact ⟨none, 0, by rw [e0, hz], by omega, by unfold maxLen; omega, fun b hb => by simp [blockOf] at hb, fun hn => absurd (List.length_eq_zero_iff.1 hz) hn⟩
        · refine ⟨_, cap, e1, e4, e5, (fun b hb => by simp only [blockOf, Option.some.injEq] at hb; omega), fun _ => ⟨g2, rfl, ⟨_, _, e3⟩, fun i x hx => ?_⟩⟩
          have hi := (List.getElem?_eq_some_iff.1 hx).1
          obtain ⟨p1, p2⟩ := rcells_get l i x hx
          rw [← e7, List.getElem?_take, if_pos (by omega), Array.getElem?_toList] at p1 p2
          rw [cell_blk e3, cell_blk e3]
          exact ⟨p1, p2⟩
      have Hrc := Lib.hid hrc
      clear hrc hown
      have cb := hbx.cell
      have HH1 := Lib.hid h1
      have HH2 := Lib.hid h2
      have Hbel := Lib.hid hbel
      have HKd := Lib.hid hK
      clear hbm hom hb3 hb4 hbx hbel hK h1 h2
      gi_wp2
      have hK9 := ((KeepsOthers.setCell W ⟨H, 0, none⟩ (.slice Av l.length cv)).trans (KeepsOthers.setCell _ ⟨H + 1, 0, none⟩ .nilIface)).same D _ HKd.out rfl
      have b1 : ((W.setCell ⟨H, 0, none⟩ (.slice Av l.length cv)).setCell ⟨H + 1, 0, none⟩ .nilIface).heap[H]? = some (.cells #[.slice Av l.length cv] 77 (0, 0)) := by
        rw [Below.heap_setCell _ _ _ _ (by simp), set_blk HH1.out 0]; rfl
      have b2 : ((W.setCell ⟨H, 0, none⟩ (.slice Av l.length cv)).setCell ⟨H + 1, 0, none⟩ .nilIface).heap[H + 1]? = some (.cells #[.nilIface] 28 (0, 0)) := by
        have := set_blk (w := W.setCell ⟨H, 0, none⟩ (.slice Av l.length cv)) (b := H + 1) (by rw [Below.heap_setCell _ _ _ _ (by simp)]; exact HH2.out) 0 .nilIface
        simpa using this
      have hb : Below wr.heap.size wr W := (HKw.out.below (Nat.le_refl _) (fun _ h => h.elim)).trans (Hbel.out.mono HBw)
      have hk9 : Kp (fun _ => False) wr ((W.setCell ⟨H, 0, none⟩ (.slice Av l.length cv)).setCell ⟨H + 1, 0, none⟩ .nilIface) := ((Kp.of_below hb).setCell (p := ⟨H, 0, none⟩) (.inr Hws) _).setCell (p := ⟨H + 1, 0, none⟩) (.inr (Nat.le_succ_of_le Hws)) _
      have hoth : ∀ (b : Nat) (cs : Array Value) (fr : Nat × Nat), W.heap[b]? = some (.cells cs 86 fr) → ((W.setCell ⟨H, 0, none⟩ (.slice Av l.length cv)).setCell ⟨H + 1, 0, none⟩ .nilIface).heap[b]? = some (.cells cs 86 fr) := fun b cs fr h => by
        have n1 : H ≠ b := fun e => by subst e; rw [HH1.out] at h; cases h
        have n2 : H + 1 ≠ b := fun e => by subst e; rw [HH2.out] at h; cases h
        rw [Below.heap_setCell _ _ _ _ (fun e => n2 e.symm), Below.heap_setCell _ _ _ _ (fun e => n1 e.symm)]
        exact h
      generalize (W.setCell ⟨H, 0, none⟩ (.slice Av l.length cv)).setCell ⟨H + 1, 0, none⟩ .nilIface = W9 at *
      refine ⟨by simp, .inl ⟨_, _, rfl, run_takeDeferred hK9, ?_⟩⟩
      have hke : ∀ {b : Nat} {cs : Array Value} {t : TypeId} {fr : Nat × Nat}, W9.heap[b]? = some (.cells cs t fr) → (W9.putObj D (.deferred none)).heap[b]? = some (.cells cs t fr) := by
        intro b cs t fr hb
        have hne : D ≠ b := by rintro rfl; rw [hK9] at hb; cases hb
        show (W9.heap.setIfInBounds D _)[b]? = _
        rw [Array.getElem?_setIfInBounds_ne hne]; exact hb
      have k0 : (W9.putObj D (.deferred none)).cell? ⟨H, 0, none⟩ = some (.slice Av l.length cv) := by rw [cell_blk (hke b1)]; rfl
      have k1 : (W9.putObj D (.deferred none)).cell? ⟨H + 1, 0, none⟩ = some .nilIface := by rw [cell_blk (hke b2)]; rfl
      refine ⟨.tuple #[.slice Av l.length cv, .nilIface], by simp [results, Tryz.results42, go_sem, k0, k1], _, rfl, ?_, Kp.putObj (F := fun _ => False) hk9 (.inr (by have : wr.heap.size ≤ B := HBw; omega)) _, fun b hb => Nat.le_trans HBw (Hrc.out.2.2.1 b hb)⟩
      refine ⟨Av, cv, rfl, Hrc.out.1, Hrc.out.2.1, fun hn => ?_⟩
      obtain ⟨g2, e1, ⟨cs, fr, e2⟩, e3⟩ := Hrc.out.2.2.2 hn
      refine ⟨g2, e1, fun i x hx => ?_⟩
      obtain ⟨p1, p2⟩ := e3 i x hx
      have e4 := hke (hoth g2 cs fr e2)
      obtain ⟨lo, hi⟩ := fr
      rw [cell_blk e2] at p1 p2
      rw [cell_blk e4, cell_blk e4]
      exact ⟨p1, p2⟩
end Go.Proofs.YthjbpbahcemfgaaGreatDoor
