/- What CachePlays holds between two steps of its script: the cache, two rows of twelve strings, the numbers that were changed. -/
import Derived.Test.YtmafihodbbagbaaGreatDoorCR
import Derived.Test.YtmafihodbbagbaaGreatDoorCPL
import Derived.Test.YtmafihodbbagbaaGreatDoorCacheO
import Derived.Test.YtmafihodbbagbaaGreatDoorFlushV
import Derived.Test.YtmafihodbbagbaaGreatDoorInts
import Derived.Test.YtmafihodbbagbaaGreatDoorApp
import Derived.Laws.Tables
import Derived.Laws.Rows
namespace Go.Proofs.YtmafihodbbagbaaGreatDoor
open Go.RowKit
set_option maxHeartbeats 1000000
set_option maxRecDepth 20000

/-- Twelve strings in memory. -/
def arrS (f : Nat → List Int) : Array Value := ((List.range 12).map fun j => Value.string (str (f j))).toArray
theorem arrS_get (f : Nat → List Int) (j : Nat) (h : j < 12) : (arrS f)[j]? = some (.string (str (f j))) := by simp [arrS, h]
theorem arrS_size (f : Nat → List Int) : (arrS f).size = 12 := by simp [arrS]
theorem arrS_ext {f g : Nat → List Int} (h : ∀ j, j < 12 → f j = g j) : arrS f = arrS g := by
  unfold arrS
  congr 1
  exact List.map_congr_left fun j hj => by rw [h j (List.mem_range.1 hj)]
theorem arrS_set (f : Nat → List Int) (q : Nat) (xs : List Int) : (arrS f).setIfInBounds q (.string (str xs)) = arrS fun k => if k = q then xs else f k := by
  apply Array.ext_getElem?
  intro i
  rw [Array.getElem?_setIfInBounds]
  by_cases h : q = i
  · subst h
    by_cases h2 : q < 12
    · rw [if_pos rfl, if_pos (by rw [arrS_size]; exact h2), arrS_get _ _ h2]; simp
    · rw [if_pos rfl, if_neg (by rw [arrS_size]; exact h2)]
      simp [arrS, h2]
  · rw [if_neg h]
    by_cases h2 : i < 12
    · rw [arrS_get _ _ h2, arrS_get _ _ h2, if_neg (fun e => h e.symm)]
    · simp [arrS, h2]
theorem arrS_nil : arrS (fun _ => []) = #[.string ⟨#[]⟩, .string ⟨#[]⟩, .string ⟨#[]⟩, .string ⟨#[]⟩, .string ⟨#[]⟩, .string ⟨#[]⟩, .string ⟨#[]⟩, .string ⟨#[]⟩, .string ⟨#[]⟩, .string ⟨#[]⟩, .string ⟨#[]⟩, .string ⟨#[]⟩] := rfl
theorem arrS_one (f : Nat → List Int) : (arrS f).all (·.oneCell') = true := by
  rw [Array.all_eq_true_iff_forall_mem]
  intro v hv
  simp only [arrS, List.mem_toArray, List.mem_map] at hv
  obtain ⟨j, _, rfl⟩ := hv
  rfl
theorem Tryz.infoS12 : (Tryz.prog.info? 28).map (·.size) = some 12 := by kernel_rfl
theorem wpList_loadS {w : World} {ops : Array Oper} {rest : List Oper} {o : Oper} {a : Act} {Q : Exit → Act → World → Prop} (hgd : o.guard = none) (x : Operand) (ho : o.op = .load 28 x) (b : Nat) (hx : a.eval x = .pointer (some ⟨b, 0, none⟩)) (X : Nat → List Int)
    (hg : w.heap[b]? = some (.cells (arrS X) 28 (0, 0))) (h : wpList Tryz.prog ops Q rest (a.put o.dst (.agg (arrS X))) w) : wpList Tryz.prog ops Q (o :: rest) a w :=
  wpList_load_row hgd 28 x ho b hx _ _ _ _ hg Tryz.underlying28 rfl (by rw [arrS_size]; exact Tryz.infoS12) h
theorem wpList_storeS {w : World} {ops : Array Oper} {rest : List Oper} {o : Oper} {a : Act} {Q : Exit → Act → World → Prop} (hgd : o.guard = none) (x y : Operand) (ho : o.op = .store 28 x y) (b : Nat) (X Y : Nat → List Int) (hx : a.eval x = .pointer (some ⟨b, 0, none⟩)) (hy : a.eval y = .agg (arrS X))
    (hg : w.heap[b]? = some (.cells (arrS Y) 28 (0, 0))) (h : ∀ w', Kp (fun k => k = b) w w' → w'.heap[b]? = some (.cells (arrS X) 28 (0, 0)) → wpList Tryz.prog ops Q rest (a.put o.dst undef) w') : wpList Tryz.prog ops Q (o :: rest) a w :=
  wpList_store_row hgd 28 x y ho b (arrS X) hx hy _ _ hg (by rw [arrS_size]; exact Tryz.infoS12) (by rw [arrS_size, arrS_size]) (arrS_one X) (h _ (setRow_kp w b _) (setRow_heap w b _ _ _ (0, 0) hg))
theorem SlN.slI {n0 : Nat} {w : World} {v : Value} {ns : List Nat} (h : SlN n0 w v ns) : SlI w v (ns.map fun k : Nat => (k : Int)) := by
  obtain ⟨A, rfl, h1, h2⟩ := h
  refine ⟨A, ns.length, by rw [List.length_map], by rw [List.length_map]; exact Nat.le_refl _, h1, fun hn => ?_⟩
  obtain ⟨g, rfl, _, cs, hb, hc⟩ := h2 (fun e => hn (by rw [e]; rfl))
  refine ⟨_, rfl, fun j u hu => ?_⟩
  rw [add0, cell_blk hb]
  unfold ints at hu
  rw [List.map_map, List.getElem?_map] at hu
  cases hj : ns[j]? with
  | none => rw [hj] at hu; cases hu
  | some k =>
    rw [hj] at hu
    rw [hc j k hj]
    exact hu

structure CP (w : World) (bd bc bj bm b7 b8 most : Nat) (C : CSt) (X Y : Nat → List Int) (v : Value) (ns : List Nat) (F : Nat → Prop) (W : World) : Prop where
  cr : CR w bc bj bm bd C F W
  num : C.jat = 20 ∧ C.blocks = 12 ∧ C.D.n = 60 ∧ C.D.fuse = -1 ∧ C.D.dead = false ∧ C.most = most
  mo : 1 ≤ most ∧ most ≤ 8
  f7 : ¬ F b7
  f8 : ¬ F b8
  r7 : W.heap[b7]? = some (.cells (arrS X) 28 (0, 0))
  r8 : W.heap[b8]? = some (.cells (arrS Y) 28 (0, 0))
  ne : b7 ≠ b8
  l7 : w.heap.size ≤ b7
  l8 : w.heap.size ≤ b8
  ng : NG ≤ w.heap.size
  sl : SlI W v (ns.map fun k : Nat => (k : Int))
  sf : ∀ b, blockOf v = some b → ¬ F b ∧ b ≠ b7 ∧ b ≠ b8 ∧ b < W.heap.size
variable {w W W' : World} {bd bc bj bm b7 b8 most : Nat} {C C' : CSt} {X Y : Nat → List Int} {v : Value} {ns : List Nat} {F F' : Nat → Prop}
theorem CP.kp0 (h : CP w bd bc bj bm b7 b8 most C X Y v ns F W) (k : Kp (fun _ => False) W W') : CP w bd bc bj bm b7 b8 most C X Y v ns F W' :=
  ⟨h.cr.kp0 k, h.num, h.mo, h.f7, h.f8, k.blk h.r7 (fun h => h), k.blk h.r8 (fun h => h), h.ne, h.l7, h.l8, h.ng, h.sl.kp k (fun _ _ h => h), fun b hb => let ⟨a, c, d, e⟩ := h.sf b hb; ⟨a, c, d, Nat.lt_of_lt_of_le e k.size⟩⟩
theorem CP.step (h : CP w bd bc bj bm b7 b8 most C X Y v ns F W) (hr : CRep W' bc bj bm bd C' F') (k : Kp F W W') (g : Gr F F' W.heap.size) (hn : C'.jat = 20 ∧ C'.blocks = 12 ∧ C'.D.n = 60 ∧ C'.D.fuse = -1 ∧ C'.D.dead = false ∧ C'.most = most) : CP w bd bc bj bm b7 b8 most C' X Y v ns F' W' :=
  ⟨h.cr.step hr k g, hn, h.mo, g.not h.f7 (lt_blk h.r7), g.not h.f8 (lt_blk h.r8), k.blk h.r7 h.f7, k.blk h.r8 h.f8, h.ne, h.l7, h.l8, h.ng, h.sl.kp k (fun b hb => (h.sf b hb).1), fun b hb => let ⟨a, c, d, e⟩ := h.sf b hb; ⟨g.not a e, c, d, Nat.lt_of_lt_of_le e k.size⟩⟩
theorem CP.set7 {X' : Nat → List Int} (h : CP w bd bc bj bm b7 b8 most C X Y v ns F W) (k : Kp (fun i => i = b7) W W') (hr : W'.heap[b7]? = some (.cells (arrS X') 28 (0, 0))) : CP w bd bc bj bm b7 b8 most C X' Y v ns F W' :=
  ⟨⟨h.cr.rep.kp k (fun i hi (e : i = b7) => h.f7 (e ▸ hi)) (fun i (e : i = b7) => by have := h.l7; have := h.ng; omega), h.cr.kp.over k (fun i (e : i = b7) => by have := h.l7; omega), h.cr.hi⟩, h.num, h.mo, h.f7, h.f8, hr, k.blk h.r8 (fun e => h.ne e.symm), h.ne, h.l7, h.l8, h.ng,
    h.sl.kp k (fun b hb => (h.sf b hb).2.1), fun b hb => let ⟨a, c, d, e⟩ := h.sf b hb; ⟨a, c, d, Nat.lt_of_lt_of_le e k.size⟩⟩
theorem CP.set8 {Y' : Nat → List Int} (h : CP w bd bc bj bm b7 b8 most C X Y v ns F W) (k : Kp (fun i => i = b8) W W') (hr : W'.heap[b8]? = some (.cells (arrS Y') 28 (0, 0))) : CP w bd bc bj bm b7 b8 most C X Y' v ns F W' :=
  ⟨⟨h.cr.rep.kp k (fun i hi (e : i = b8) => h.f8 (e ▸ hi)) (fun i (e : i = b8) => by have := h.l8; have := h.ng; omega), h.cr.kp.over k (fun i (e : i = b8) => by have := h.l8; omega), h.cr.hi⟩, h.num, h.mo, h.f7, h.f8, k.blk h.r7 h.ne, hr, h.ne, h.l7, h.l8, h.ng,
    h.sl.kp k (fun b hb => (h.sf b hb).2.2.1), fun b hb => let ⟨a, c, d, e⟩ := h.sf b hb; ⟨a, c, d, Nat.lt_of_lt_of_le e k.size⟩⟩
theorem CSt.wr_D {C : CSt} {no p : Nat} {ys : List Int} : (C.wr no p ys).D = C.D := by
  unfold CSt.wr
  split <;> rfl
/-- The numbers lie in another slice. -/
theorem CP.setv {v' : Value} {ns' : List Nat} (h : CP w bd bc bj bm b7 b8 most C X Y v ns F W) (hs : SlI W v' (ns'.map fun k : Nat => (k : Int))) (hf : ∀ b, blockOf v' = some b → ¬ F b ∧ b ≠ b7 ∧ b ≠ b8 ∧ b < W.heap.size) : CP w bd bc bj bm b7 b8 most C X Y v' ns' F W :=
  ⟨h.cr, h.num, h.mo, h.f7, h.f8, h.r7, h.r8, h.ne, h.l7, h.l8, h.ng, hs, hf⟩
theorem CP.nov (h : CP w bd bc bj bm b7 b8 most C X Y v ns F W) : CP w bd bc bj bm b7 b8 most C X Y (.slice none 0 0) [] F W :=
  h.setv ⟨none, 0, rfl, Nat.le_refl _, Nat.zero_le _, fun h => absurd rfl h⟩ (fun b hb => by simp [blockOf] at hb)
theorem CP.store7 {q : Nat} {xs : List Int} (h : CP w bd bc bj bm b7 b8 most C X Y v ns F W) : CP w bd bc bj bm b7 b8 most C (fun k => if k = q then xs else X k) Y v ns F (W.setCell ⟨b7, q, none⟩ (.string (str xs))) :=
  h.set7 (Kp.setCell (F := fun k => k = b7) (p := ⟨b7, q, none⟩) (Kp.refl _ _) (.inl rfl) _) (by rw [set_blk h.r7, arrS_set])
theorem CP.ext {X' Y' : Nat → List Int} (h : CP w bd bc bj bm b7 b8 most C X Y v ns F W) (h7 : ∀ j, j < 12 → X j = X' j) (h8 : ∀ j, j < 12 → Y j = Y' j) : CP w bd bc bj bm b7 b8 most C X' Y' v ns F W :=
  ⟨h.cr, h.num, h.mo, h.f7, h.f8, by rw [← arrS_ext h7]; exact h.r7, by rw [← arrS_ext h8]; exact h.r8, h.ne, h.l7, h.l8, h.ng, h.sl, h.sf⟩
theorem CP.setOwn {v' : Value} {ns' : List Nat} {xs : List Int} (h : CP w bd bc bj bm b7 b8 most C X Y v ns F W) (k : Kp (fun _ => False) W W') (ho : OwnI W' W.heap.size v' xs) (hx : xs = ns'.map fun k : Nat => (k : Int)) : CP w bd bc bj bm b7 b8 most C X Y v' ns' F W' := by
  subst hx
  obtain ⟨g, cap, rfl, h1, h2, _⟩ := ho.shape
  refine (h.kp0 k).setv ho.slI fun b hb => ?_
  simp only [blockOf, Option.some.injEq] at hb
  have := lt_blk h.r7
  have := lt_blk h.r8
  exact ⟨fun hF => by have := h.cr.fresh _ hF; omega, by omega, by omega, by omega⟩
theorem CP.spl {q p L : Nat} {ys : List Int} {sv sy : ByteArray} (h : CP w bd bc bj bm b7 b8 most (C.wr q p ys) C.view C.D.row v ns F W) (hv : (C.view q).length = 128) (hy : ys.length = L) (hsv : sv = str (C.view q)) (hsy : sy = str ys) :
    CP w bd bc bj bm b7 b8 most (C.wr q p ys) (C.wr q p ys).view (C.wr q p ys).D.row v ns F (W.setCell ⟨b7, q, none⟩ (.string (sv.extract 0 p ++ sy ++ sv.extract (p + L) 128))) := by
  have := h.set7 (Kp.setCell (F := fun k => k = b7) (p := ⟨b7, q, none⟩) (Kp.refl _ _) (.inl rfl) (.string (str (splice (C.view q) p ys)))) (X' := fun k => if k = q then splice (C.view q) p ys else C.view k) (by rw [set_blk h.r7, arrS_set])
  rw [str_splice, hv, hy, ← hsv, ← hsy] at this
  rw [CSt.wr_D]
  exact this.ext (fun j _ => (CSt.wr_view j).symm) (fun j _ => rfl)

theorem cp_write (h : CP w bd bc bj bm b7 b8 most C X Y v ns F W) (no p : Nat) (hno : no < 12) (u : Value) (ys : List Int) (hu : Sl W u ys) (hp : p + ys.length ≤ 128) (hroom : no ∈ C.ch ∨ C.ch.length < most) :
    Calls Tryz.prog 10 #[.pointer (some ⟨bc, 0, none⟩), .int .i64 (no : Nat), .int .i64 (p : Nat), u] W fun e w' => e = .returned .nilIface ∧ ∃ F', CP w bd bc bj bm b7 b8 most (C.wr no p ys) X Y v ns F' w' ∧ Kp F W w' := by
  obtain ⟨n1, n2, n3, n4, n5, n6⟩ := id h.num
  refine (cache_Write_ok h.cr.rep n5 (no : Nat) (p : Nat) (by omega) (by omega) (by omega) u ys hu (by omega) (by rw [Int.toNat_natCast, n6]; exact hroom)).mono ?_
  rintro e w' ⟨rfl, F', hr, hk, hg⟩
  exact ⟨rfl, F', h.step hr hk hg ⟨n1, n2, n3, n4, n5, n6⟩, hk⟩
theorem cp_write_no (h : CP w bd bc bj bm b7 b8 most C X Y v ns F W) (no p want : Int) (u : Value) (ys : List Int) (hu : Sl W u ys) (hr0 : -9223372036854775808 ≤ no) (hr : no ≤ 9223372036854775807) (hp0 : -9223372036854775808 ≤ p) (hp1 : p ≤ 9223372036854775807)
    (hw : (want = 1 ∧ ((no < 0 ∨ 12 ≤ no) ∨ p < 0 ∨ 128 < p ∨ 128 - p < ys.length)) ∨ (want = 5 ∧ 0 ≤ no ∧ no < 12 ∧ 0 ≤ p ∧ p + ys.length ≤ 128 ∧ no.toNat ∉ C.ch ∧ C.ch.length = most)) :
    Calls Tryz.prog 10 #[.pointer (some ⟨bc, 0, none⟩), .int .i64 no, .int .i64 p, u] W fun e w' => ∃ v, e = .returned v ∧ IsErr w' v [(tx [99, 97, 99, 104, 101], tx (Lib.itoa no))] want ∧ Kp (fun _ => False) W w' := by
  obtain ⟨n1, n2, n3, n4, n5, n6⟩ := id h.num
  rcases hw with ⟨rfl, hw⟩ | ⟨rfl, h0, h1, h2, h3, h4, h5⟩
  · exact cache_Write_bad h.cr.rep no p u ys hu (by rw [n2]; omega) hr0 hr hp0 hp1
  · obtain ⟨n, rfl⟩ := Int.eq_ofNat_of_zero_le h0
    obtain ⟨q, rfl⟩ := Int.eq_ofNat_of_zero_le h2
    exact cache_Write_big h.cr.rep n q (by omega) u ys hu (by omega) (by simpa using h4) (by omega) hr
theorem cp_read (h : CP w bd bc bj bm b7 b8 most C X Y v ns F W) (k : Nat) (hk : k < 12) :
    Calls Tryz.prog 11 #[.pointer (some ⟨bc, 0, none⟩), .int .i64 (k : Nat)] W fun e w' => ∃ g, e = .returned (.tuple #[.slice (some ⟨g, 0, none⟩) 128 128, .nilIface]) ∧ Sl w' (.slice (some ⟨g, 0, none⟩) 128 128) (C.view k) ∧ Kp (fun _ => False) W w' := by
  obtain ⟨n1, n2, n3, n4, n5, n6⟩ := id h.num
  refine (cache_Read_ok h.cr.rep n5 (k : Nat) (by omega) (by omega)).mono ?_
  rintro e w' ⟨g, rfl, hr, hkp, _⟩
  rw [Int.toNat_natCast] at hr
  have hl : (C.view k).length = 128 := h.cr.rep.viewlen (by omega)
  have := hr.sl 128 (by omega) (by simp [maxLen])
  rw [hl] at this
  exact ⟨g, rfl, this, hkp⟩
theorem cp_dread (h : CP w bd bc bj bm b7 b8 most C X Y v ns F W) (k : Nat) (hk : k < 12) :
    Calls Tryz.prog 16 #[.pointer (some ⟨bd, 0, none⟩), .int .i64 (k : Nat)] W fun e w' => ∃ g, e = .returned (.tuple #[.slice (some ⟨g, 0, none⟩) 128 128, .nilIface]) ∧ Sl w' (.slice (some ⟨g, 0, none⟩) 128 128) (C.D.row k) ∧ Kp (fun _ => False) W w' := by
  obtain ⟨n1, n2, n3, n4, n5, n6⟩ := id h.num
  refine (disk_Read_ok h.cr.rep.disk (k : Nat) (by omega) (by omega) n5).mono ?_
  rintro e w' ⟨rfl, hr, hkp⟩
  rw [Int.toNat_natCast] at hr
  have hl : (C.D.row k).length = 128 := by
    obtain ⟨⟨bl, rows, h1, h2, h3, h4, h5⟩, _⟩ := h.cr.rep.disk
    obtain ⟨v, _, hr⟩ := h5 k (by omega)
    exact hr.len
  have := hr.sl (by rw [hl]; simp [maxLen])
  rw [hl] at this
  exact ⟨_, rfl, this, hkp⟩
theorem cp_read_no (h : CP w bd bc bj bm b7 b8 most C X Y v ns F W) (no : Int) (h0 : no < 0 ∨ 12 ≤ no) (hr0 : -9223372036854775808 ≤ no) (hr : no ≤ 9223372036854775807) :
    Calls Tryz.prog 11 #[.pointer (some ⟨bc, 0, none⟩), .int .i64 no] W fun e w' => ∃ v, e = .returned (.tuple #[.slice none 0 0, v]) ∧ IsErr w' v [(tx [99, 97, 99, 104, 101], tx (Lib.itoa no))] 1 ∧ Kp (fun _ => False) W w' :=
  cache_Read_bad h.cr.rep no (by rw [h.num.2.1]; omega) hr0 hr
theorem cp_changed (h : CP w bd bc bj bm b7 b8 most C X Y v ns F W) :
    Calls Tryz.prog 15 #[.pointer (some ⟨bc, 0, none⟩)] W fun e w' => ∃ v, e = .returned v ∧ SlI w' v (C.chs.map fun k : Nat => (k : Int)) ∧ Kp (fun _ => False) W w' := by
  refine (cache_Changed_ok h.cr.rep).mono ?_
  rintro e w' ⟨v, rfl, hs, hk⟩
  exact ⟨v, rfl, hs.slI, hk⟩
theorem cp_drop (h : CP w bd bc bj bm b7 b8 most C X Y v ns F W) :
    Calls Tryz.prog 13 #[.pointer (some ⟨bc, 0, none⟩)] W fun e w' => e = .returned (.tuple #[]) ∧ CP w bd bc bj bm b7 b8 most C.drop X Y v ns F w' := by
  refine (cache_Drop_ok h.cr.rep).mono ?_
  rintro e w' ⟨rfl, hr, hk⟩
  exact ⟨rfl, h.step hr hk (Gr.refl _ _) h.num⟩
theorem cp_flush (h : CP w bd bc bj bm b7 b8 most C X Y v ns F W) :
    Calls Tryz.prog 12 #[.pointer (some ⟨bc, 0, none⟩)] W fun e w' => e = .returned .nilIface ∧ ∃ F', CP w bd bc bj bm b7 b8 most C.flush X Y v ns F' w' := by
  obtain ⟨n1, n2, n3, n4, n5, n6⟩ := id h.num
  have hm := h.mo
  have hz : C.D.Fz := by unfold DSt.Fz; rw [n4]; omega
  have hf : C.D.fuse ≤ 0 := by rw [n4]; omega
  have hca := C.commit_alive n5 hf
  have hfa := C.flush_alive n5 hf
  refine (cache_Flush h.cr.rep hz (by rw [n1, n2]; omega) (by rw [n1, n6, n3]; unfold need; omega)).mono ?_
  rintro e w' ⟨u, rfl, hu, F', hr, hk, hg⟩
  rw [hca.1] at hu
  have hu' : u = .nilIface := hu
  subst hu'
  exact ⟨rfl, F', h.step hr hk hg (by rw [hfa]; exact ⟨n1, n2, hca.2.2.2.trans n3, hca.2.2.1.trans n4, hca.2.1, n6⟩)⟩
/-- What is read behind a Flush, and what the disk has. -/
theorem CP.flushed (h : CP w bd bc bj bm b7 b8 most C X Y v ns F W) (k : Nat) (hk : k < 12) : C.flush.view k = C.view k ∧ C.flush.D.row k = C.view k := by
  obtain ⟨n1, n2, n3, n4, n5, n6⟩ := id h.num
  have hf : C.D.fuse ≤ 0 := by rw [n4]; omega
  have hrow := C.flush_row n5 hf h.cr.rep.nd k (by rw [n1]; omega)
  rw [C.flush_alive n5 hf]
  exact ⟨by simp [CSt.view, hrow], hrow⟩
theorem CP.flushed_chs (h : CP w bd bc bj bm b7 b8 most C X Y v ns F W) : C.flush.chs = [] := by
  obtain ⟨n1, n2, n3, n4, n5, n6⟩ := id h.num
  rw [C.flush_alive n5 (by rw [n4]; omega)]
  simp [CSt.chs]
theorem drop_chs (C : CSt) : C.drop.chs = [] := by simp [CSt.chs, CSt.drop]
theorem drop_view_row (C : CSt) (k : Nat) : C.drop.view k = C.D.row k := by simp [CSt.view, CSt.drop]
end Go.Proofs.YtmafihodbbagbaaGreatDoor
