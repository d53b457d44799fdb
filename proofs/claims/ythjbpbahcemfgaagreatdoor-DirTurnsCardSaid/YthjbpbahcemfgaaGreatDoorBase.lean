/- What all walks of this claim share: a world that is as another one but within a set of blocks; rows of bytes; errors. Nothing is claimed here of the program but the zero block that a make gives. -/
import Derived.Test.YthjbpbahcemfgaaGreatDoorProg
import Derived.WalkKit
import Derived.LaidEql
import Derived.Lib.Hide
import Derived.Deep.DeepFit
import Derived.Deep.QuietTactic
import Derived.BigQuiet
import Derived.Laws.CopyOwn
import Derived.Laws.Entries
import Derived.Outline
import Derived.WalkSpells
namespace Go.Proofs.YthjbpbahcemfgaaGreatDoor
open Go.RowKit

/-- w' is w but within F, and with new blocks behind. -/
structure Kp (F : Nat → Prop) (w w' : World) : Prop where
  os : w'.os = w.os
  tape : w'.tape = w.tape
  output : w'.output = w.output
  size : w.heap.size ≤ w'.heap.size
  block : ∀ k, k < w.heap.size → ¬ F k → w'.heap[k]? = w.heap[k]?

/-- F' is F and blocks from n on. -/
def Gr (F F' : Nat → Prop) (n : Nat) : Prop := ∀ k, F' k → F k ∨ n ≤ k

theorem Gr.refl (F : Nat → Prop) (n : Nat) : Gr F F n := fun _ h => .inl h
theorem Gr.trans {F F1 F2 : Nat → Prop} {n m : Nat} (h : Gr F F1 n) (k : Gr F1 F2 m) (hm : n ≤ m) : Gr F F2 n := fun i hi => by
  rcases k i hi with h1 | h1
  · exact h i h1
  · exact .inr (Nat.le_trans hm h1)
theorem Gr.not {F F' : Nat → Prop} {n k : Nat} (h : Gr F F' n) (hk : ¬ F k) (hn : k < n) : ¬ F' k := fun hf => by
  rcases h k hf with h1 | h1
  · exact hk h1
  · omega
theorem Gr.mono {F F' : Nat → Prop} {n m : Nat} (h : Gr F F' n) (hm : m ≤ n) : Gr F F' m := fun k hk => (h k hk).imp id (Nat.le_trans hm)

theorem Kp.refl (F : Nat → Prop) (w : World) : Kp F w w := ⟨rfl, rfl, rfl, Nat.le_refl _, fun _ _ _ => rfl⟩
theorem Kp.trans {F F1 : Nat → Prop} {a b c : World} (h : Kp F a b) (k : Kp F1 b c) (hg : Gr F F1 a.heap.size) : Kp F a c :=
  ⟨k.os.trans h.os, k.tape.trans h.tape, k.output.trans h.output, Nat.le_trans h.size k.size,
   fun i hi hf => (k.block i (Nat.lt_of_lt_of_le hi h.size) (hg.not hf hi)).trans (h.block i hi hf)⟩
theorem Kp.mono {F F' : Nat → Prop} {a b : World} (h : Kp F a b) (hf : ∀ k, F k → F' k) : Kp F' a b :=
  ⟨h.os, h.tape, h.output, h.size, fun i hi hn => h.block i hi (fun hk => hn (hf i hk))⟩
theorem Kp.of_below {F : Nat → Prop} {w w' : World} (h : Below w.heap.size w w') : Kp F w w' :=
  ⟨h.os, h.tape, h.output, h.size, fun k hk _ => h.block k hk⟩
theorem Kp.below {F : Nat → Prop} {w w' : World} (h : Kp F w w') {n : Nat} (hn : n ≤ w.heap.size) (hF : ∀ k, F k → n ≤ k) : Below n w w' :=
  ⟨h.os, h.tape, h.output, h.size, fun k hk => h.block k (by omega) (fun hf => by have := hF k hf; omega)⟩
theorem Kp.alloc {F : Nat → Prop} {a w : World} (h : Kp F a w) (o : Obj) : Kp F a (w.alloc o) :=
  h.trans (Kp.of_below (F := F) (below_alloc0 w o)) (Gr.refl _ _)
where
  below_alloc0 (w : World) (o : Obj) : Below w.heap.size w (w.alloc o) := (Below.refl _ _).alloc (Nat.le_refl _) o
theorem Kp.drewN {F : Nat → Prop} {a w : World} (h : Kp F a w) (n : Nat) : Kp F a (w.drewN n) := ⟨h.os, h.tape, h.output, h.size, h.block⟩
theorem Kp.drew {F : Nat → Prop} {a w : World} (h : Kp F a w) : Kp F a w.drew := ⟨h.os, h.tape, h.output, h.size, h.block⟩
theorem Kp.setCell {F : Nat → Prop} {a w : World} (h : Kp F a w) {p : Addr} (hp : F p.block ∨ a.heap.size ≤ p.block) (u : Value) : Kp F a (w.setCell p u) := by
  refine ⟨h.os, h.tape, h.output, by simpa [World.setCell] using h.size, fun k hk hf => ?_⟩
  rw [Below.heap_setCell _ _ _ _ (by rintro rfl; rcases hp with h1 | h1; exact hf h1; omega)]
  exact h.block k hk hf
theorem Kp.putObj {F : Nat → Prop} {a w : World} (h : Kp F a w) {r : Nat} (hr : F r ∨ a.heap.size ≤ r) (o : Obj) : Kp F a { w with heap := w.heap.setIfInBounds r o } := by
  refine ⟨h.os, h.tape, h.output, by simpa using h.size, fun k hk hf => ?_⟩
  have : r ≠ k := by rintro rfl; rcases hr with h1 | h1; exact hf h1; omega
  simp only [Array.getElem?_setIfInBounds, this, if_false]
  exact h.block k hk hf
theorem Kp.lt {F : Nat → Prop} {w w' : World} (h : Kp F w w') {k : Nat} (hk : k < w.heap.size) : k < w'.heap.size := Nat.lt_of_lt_of_le hk h.size
theorem Kp.blk {F : Nat → Prop} {w w' : World} (h : Kp F w w') {k : Nat} {o : Obj} (hb : w.heap[k]? = some o) (hf : ¬ F k) : w'.heap[k]? = some o :=
  (h.block k (Array.getElem?_eq_some_iff.1 hb).1 hf).trans hb

/-! Cells of a block that is known. -/
theorem cell_blk {w : World} {b t lo hi : Nat} {cs : Array Value} (h : w.heap[b]? = some (.cells cs t (lo, hi))) (i : Nat) : w.cell? ⟨b, i, none⟩ = cs[i]? := by simp [World.cell?, h]
theorem frozen_blk {w : World} {b t : Nat} {cs : Array Value} (h : w.heap[b]? = some (.cells cs t (0, 0))) (i : Nat) : w.frozen? ⟨b, i, none⟩ = false := by simp [World.frozen?, h]
theorem lt_blk {w : World} {b : Nat} {o : Obj} (h : w.heap[b]? = some o) : b < w.heap.size := (Array.getElem?_eq_some_iff.1 h).1
theorem set_blk {w : World} {b t lo hi : Nat} {cs : Array Value} (h : w.heap[b]? = some (.cells cs t (lo, hi))) (i : Nat) (u : Value) : (w.setCell ⟨b, i, none⟩ u).heap[b]? = some (.cells (cs.setIfInBounds i u) t (lo, hi)) := by
  simp [World.setCell, Array.getElem?_modify, h]
theorem new_blk (w : World) (o : Obj) : (w.alloc o).heap[w.heap.size]? = some o := by
  show (w.heap.push o)[w.heap.size]? = some o
  simp
theorem size_alloc (w : World) (o : Obj) : (w.alloc o).heap.size = w.heap.size + 1 := by
  show (w.heap.push o).size = _
  simp

theorem ret_int {k : IntKind} {a b : Int} (h : a = b) : Ending.returned (.int k a) = .returned (.int k b) := by rw [h]
/-! Rows of bytes. -/
def bs (xs : List Int) : List Value := xs.map (Value.int .u8)
@[simp] theorem bs_length (xs : List Int) : (bs xs).length = xs.length := by simp [bs]
theorem bs_get (xs : List Int) (i : Nat) (u : Value) : (bs xs)[i]? = some u → ∃ x, xs[i]? = some x ∧ u = .int .u8 x := by
  simp only [bs, List.getElem?_map, Option.map_eq_some_iff]
  rintro ⟨x, h, rfl⟩; exact ⟨x, h, rfl⟩
def zs (n : Nat) : List Int := List.replicate n 0
@[simp] theorem zs_length (n : Nat) : (zs n).length = n := by simp [zs]

/-- The block g begins with these bytes. -/
def Row (w : World) (g : Nat) (xs : List Int) : Prop := ∃ cs rest, w.heap[g]? = some (.cells cs 5 (0, 0)) ∧ cs.toList = bs xs ++ rest
theorem Row.lt {w : World} {g : Nat} {xs : List Int} (h : Row w g xs) : g < w.heap.size := by obtain ⟨_, _, h, _⟩ := h; exact lt_blk h
theorem Row.kp {F : Nat → Prop} {w w' : World} {g : Nat} {xs : List Int} (h : Row w g xs) (k : Kp F w w') (hf : ¬ F g) : Row w' g xs := by
  obtain ⟨cs, rest, h1, h2⟩ := h; exact ⟨cs, rest, k.blk h1 hf, h2⟩
theorem Row.cells {w : World} {g : Nat} {xs : List Int} (h : Row w g xs) : ∀ j u, (bs xs)[j]? = some u → w.cell? ((⟨g, 0, none⟩ : Addr).add j) = some u := by
  obtain ⟨cs, rest, h1, h2⟩ := h
  intro j u hj
  have e : (⟨g, 0, none⟩ : Addr).add j = ⟨g, j, none⟩ := by unfold Addr.add; split <;> simp_all
  have hlt : j < (bs xs).length := (List.getElem?_eq_some_iff.1 hj).1
  rw [e, cell_blk h1, ← Array.getElem?_toList, h2, List.getElem?_append_left hlt]; exact hj
theorem bs_one (xs : List Int) : ∀ v ∈ bs xs, v.oneCell' = true := by
  intro v hv; obtain ⟨x, _, rfl⟩ := List.mem_map.1 hv; rfl

theorem Tryz.infoU8 : (Tryz.prog.info? 5).map (fun i => (i.zero, i.size, i.bytes)) = some (some (.int .u8 0), 1, 1) := by kernel_rfl
theorem madeCells_one (z : Value) (n : Nat) : madeCells #[z] n = (List.replicate n z).toArray := by
  apply Array.ext'; rw [toList_madeCells_one]
theorem zs_bs (n : Nat) : List.replicate n (Value.int .u8 0) = bs (zs n) := by simp [bs, zs]
/-- make([]byte, n). -/
theorem make_bytes (n : Nat) (hn : n ≤ 281474976710656) (w : World) : (Instr.makeSlice 52 (.int .i64 (n : Int)) (.int .i64 (n : Int))).run Tryz.prog w
    = .ok (.slice (some ⟨w.heap.size, 0, none⟩) n n) (w.alloc (.cells (bs (zs n)).toArray 5)) := by
  obtain ⟨i, hi, hz, hs, hb⟩ := info_parts Tryz.infoU8
  have h := run_make (P := Tryz.prog) w 52 5 i (.int .u8 0) Tryz.underlying52 hi hz .i64 .i64 n n (by omega) (by omega) (by rw [hb]; omega) (by omega)
  rw [h, hs]
  simp only [Value.cells, madeCells_one, zs_bs, Int.toNat_natCast, Nat.mul_one]
/-- A new row of noughts. -/
def zrow (n : Nat) : Obj := .cells (bs (zs n)).toArray 5
theorem make128 (w : World) : (Instr.makeSlice 52 (.int .i64 128) (.int .i64 128)).run Tryz.prog w
    = .ok (.slice (some ⟨w.heap.size, 0, none⟩) 128 128) (w.alloc (zrow 128)) := make_bytes 128 (by omega) w
theorem row_new (w : World) (n : Nat) : Row (w.alloc (zrow n)) w.heap.size (zs n) := ⟨_, [], new_blk w _, by simp⟩
theorem wpList_make128 {ops : Array Oper} {rest : List Oper} {o : Oper} {a : Act} {Q : Exit → Act → World → Prop} {w : World} (hgd : o.guard = none)
    (ho : o.op = .makeSlice 52 (.const (.int .i64 128)) (.const (.int .i64 128)))
    (h : wpList Tryz.prog ops Q rest (a.put o.dst (.slice (some ⟨w.heap.size, 0, none⟩) 128 128)) (w.alloc (zrow 128))) : wpList Tryz.prog ops Q (o :: rest) a w := by
  refine wpList_plain hgd fun K hK => ?_
  unfold Oper.wp execOp
  simp only [ho, Act.eval, Sem.run_bind, Sem.run_pure, Result.andThen_ok, make128]
  exact hK _ _ h
/-- make([]T, n) where a T is one cell: n zero values. -/
theorem wpList_makeN {ops : Array Oper} {rest : List Oper} {o : Oper} {a : Act} {Q : Exit → Act → World → Prop} {w : World} (hgd : o.guard = none) (T E : TypeId) (z : Value) (b : Nat)
    (hT : Tryz.prog.underlying T = some (.slice E)) (hinfo : (Tryz.prog.info? E).map (fun i => (i.zero, i.size, i.bytes)) = some (some z, 1, b)) (hzc : z.cells = #[z]) (x y : Operand)
    (ho : o.op = .makeSlice T x y) (n : Int) (hx : a.eval x = .int .i64 n) (hy : a.eval y = .int .i64 n) (h0 : 0 ≤ n) (hb : (b : Int) * n ≤ 281474976710656) (h63 : n ≤ 9223372036854775807)
    (h : wpList Tryz.prog ops Q rest (a.put o.dst (.slice (some ⟨w.heap.size, 0, none⟩) n.toNat n.toNat)) (w.alloc (.cells (List.replicate n.toNat z).toArray E))) : wpList Tryz.prog ops Q (o :: rest) a w := by
  refine wpList_plain hgd fun K hK => ?_
  obtain ⟨i, hi, hz, hs, hby⟩ := info_parts hinfo
  have hr := run_make (P := Tryz.prog) w T E i z hT hi hz .i64 .i64 n n h0 (Int.le_refl _) (by rw [hby]; exact hb) h63
  rw [hs, hzc, Nat.mul_one, madeCells_one] at hr
  unfold Oper.wp execOp
  simp only [ho, hx, hy, Sem.run_bind, Sem.run_pure, Result.andThen_ok, hr]
  exact hK _ _ h

/-- The block g is just these bytes. -/
def RowE (w : World) (g : Nat) (xs : List Int) : Prop := w.heap[g]? = some (.cells (bs xs).toArray 5 (0, 0))
theorem RowE.row {w : World} {g : Nat} {xs : List Int} (h : RowE w g xs) : Row w g xs := ⟨_, [], h, by simp⟩
theorem RowE.kp {F : Nat → Prop} {w w' : World} {g : Nat} {xs : List Int} (h : RowE w g xs) (k : Kp F w w') (hf : ¬ F g) : RowE w' g xs := k.blk h hf
theorem rowE_new (w : World) (n : Nat) : RowE (w.alloc (zrow n)) w.heap.size (zs n) := new_blk w _
theorem RowE.lt {w : World} {g : Nat} {xs : List Int} (h : RowE w g xs) : g < w.heap.size := lt_blk h

/-- A slice value that reads as these bytes. -/
def Sl (w : World) (v : Value) (ys : List Int) : Prop :=
  ∃ A c, v = .slice A ys.length c ∧ ys.length ≤ c ∧ c ≤ maxLen ∧ (ys ≠ [] → ∃ ad, A = some ad ∧ ∀ j u, (bs ys)[j]? = some u → w.cell? (ad.add j) = some u)
def blockOf : Value → Option Nat
  | .slice (some ad) _ _ => some ad.block
  | _ => none
theorem Sl.nil (w : World) : Sl w (.slice none 0 0) [] := ⟨none, 0, rfl, Nat.le_refl _, by simp [maxLen], fun h => absurd rfl h⟩
theorem add_block (ad : Addr) (j : Nat) : (ad.add j).block = ad.block := by unfold Addr.add; split <;> rfl
theorem Kp.cell {F : Nat → Prop} {w w' : World} (h : Kp F w w') {p : Addr} {u : Value} (hc : w.cell? p = some u) (hf : ¬ F p.block) : w'.cell? p = some u := by
  have hlt := World.block_lt_of_cell? w p hc
  rw [World.cell?_of_block (w := w) (h.block p.block hlt hf)]; exact hc
theorem Kp.frz {F : Nat → Prop} {w w' : World} (h : Kp F w w') {p : Addr} {x : Bool} (hc : w.frozen? p = x) (hl : p.block < w.heap.size) (hf : ¬ F p.block) : w'.frozen? p = x := by
  rw [World.frozen?_of_block (w := w) (h.block p.block hl hf)]; exact hc
theorem Sl.kp {F : Nat → Prop} {w w' : World} {v : Value} {ys : List Int} (h : Sl w v ys) (k : Kp F w w') (hf : ∀ b, blockOf v = some b → ¬ F b) : Sl w' v ys := by
  obtain ⟨A, c, rfl, h1, h2, h3⟩ := h
  refine ⟨A, c, rfl, h1, h2, fun hn => ?_⟩
  obtain ⟨ad, rfl, h4⟩ := h3 hn
  exact ⟨ad, rfl, fun j u hj => k.cell (h4 j u hj) (by rw [add_block]; exact hf _ rfl)⟩
theorem Sl.lt {w : World} {v : Value} {ys : List Int} (h : Sl w v ys) (hn : ys ≠ []) {b : Nat} (hb : blockOf v = some b) : b < w.heap.size := by
  obtain ⟨A, c, rfl, h1, h2, h3⟩ := h
  obtain ⟨ad, rfl, h4⟩ := h3 hn
  cases ys with
  | nil => exact absurd rfl hn
  | cons y ys =>
    have := World.block_lt_of_cell? w _ (h4 0 (.int .u8 y) rfl)
    rw [add_block] at this; simp [blockOf] at hb; omega
theorem Row.sl {w : World} {g : Nat} {xs : List Int} (h : Row w g xs) (c : Nat) (hc : xs.length ≤ c) (hm : c ≤ maxLen) : Sl w (.slice (some ⟨g, 0, none⟩) xs.length c) xs :=
  ⟨_, c, rfl, hc, hm, fun _ => ⟨_, rfl, h.cells⟩⟩

theorem Sl.take {w : World} {ad : Addr} {n c m : Nat} {ys : List Int} (h : Sl w (.slice (some ad) n c) ys) (hm : m ≤ ys.length) : Sl w (.slice (some ad) m c) (ys.take m) := by
  obtain ⟨A, c', he, h1, h2, h3⟩ := h
  simp only [Value.slice.injEq] at he
  obtain ⟨rfl, rfl, rfl⟩ := he
  have hl : (ys.take m).length = m := by rw [List.length_take]; omega
  refine ⟨some ad, c, by rw [hl], by omega, h2, fun hn => ?_⟩
  obtain ⟨ad', e, h4⟩ := h3 (by rintro rfl; simp at hn)
  cases e
  refine ⟨_, rfl, fun j u hj => h4 j u ?_⟩
  obtain ⟨x, hx, rfl⟩ := bs_get _ _ _ hj
  have : ys[j]? = some x := by
    rw [List.getElem?_take] at hx; split at hx
    · exact hx
    · cases hx
  simp [bs, this]
theorem Sl.drop {w : World} {ad : Addr} {n c m : Nat} {ys : List Int} (h : Sl w (.slice (some ad) n c) ys) (hm : m ≤ ys.length) (hmc : m < c) : Sl w (.slice (some (ad.add m)) (n - m) (c - m)) (ys.drop m) := by
  obtain ⟨A, c', he, h1, h2, h3⟩ := h
  simp only [Value.slice.injEq] at he
  obtain ⟨rfl, rfl, rfl⟩ := he
  have hl : (ys.drop m).length = ys.length - m := List.length_drop
  refine ⟨some (ad.add m), c - m, by rw [hl], by omega, by omega, fun hn => ⟨_, rfl, fun j u hj => ?_⟩⟩
  obtain ⟨ad', e, h4⟩ := h3 (by rintro rfl; simp at hn)
  cases e
  obtain ⟨x, hx, rfl⟩ := bs_get _ _ _ hj
  rw [List.getElem?_drop] at hx
  have e : (ad.add m).add j = ad.add (m + j) := by
    unfold Addr.add
    by_cases h1 : m = 0
    · subst h1; simp
    · by_cases h2 : j = 0
      · subst h2; simp [h1]
      · simp [h1, h2, Nat.add_assoc]
  rw [e]
  exact h4 (m + j) _ (by simp [bs, hx])
theorem RowE.sl {w : World} {g : Nat} {xs : List Int} (h : RowE w g xs) (hm : xs.length ≤ maxLen) : Sl w (.slice (some ⟨g, 0, none⟩) xs.length xs.length) xs := h.row.sl _ (Nat.le_refl _) hm

/-- Bytes as a string. -/
def str (xs : List Int) : ByteArray := xs.foldl (fun r n => r.push (UInt8.ofNat n.toNat)) ByteArray.empty
theorem str_list (xs : List Int) : (str xs).data.toList = xs.map fun n => UInt8.ofNat n.toNat := by
  have h : ∀ (xs : List Int) (s : ByteArray), (xs.foldl (fun r n => r.push (UInt8.ofNat n.toNat)) s).data.toList = s.data.toList ++ xs.map fun n => UInt8.ofNat n.toNat := by
    intro xs
    induction xs with
    | nil => simp
    | cons x xs ih => intro s; rw [List.foldl_cons, ih]; simp [ByteArray.push]
  rw [str, h]; rfl
theorem conv_str {w : World} {v : Value} {ys : List Int} (h : Sl w v ys) : (convert 52 9 v).run Tryz.prog w = .ok (.string (str ys)) w := by
  obtain ⟨A, c, rfl, h1, h2, h3⟩ := h
  rw [run_convert_bytes_string w 52 9 5 A _ c Tryz.underlying52 Tryz.underlying5 Tryz.underlying9]
  cases ys with
  | nil =>
    cases A with
    | none => simp [Conv.bytesToString, str]
    | some a =>
      have := run_bytesToString (P := Tryz.prog) w a 0 c [] (by simp [loadCells, loadCellsFrom])
      exact this
  | cons y ys =>
    obtain ⟨ad, rfl, h4⟩ := h3 (by simp)
    exact run_bytesToString w ad _ c (y :: ys) (by
      have := run_loadCells_list (P := Tryz.prog) (w := w) ad (bs (y :: ys)) h4
      rw [bs_length] at this; exact this)

theorem bs_splice (xs ys : List Int) (off : Nat) : splice (bs xs) off (bs ys) = bs (splice xs off ys) := by
  simp [splice, bs, List.map_append, List.map_take, List.map_drop]
theorem setRow_kp (w : World) (g : Nat) (cs : Array Value) : Kp (fun k => k = g) w (w.setRow g cs) :=
  ⟨rfl, rfl, rfl, by simp, fun k _ hk => setRow_other w g k cs hk⟩
/-- Only where the next operation is a copy. -/
theorem at_copy {P : Program} {w : World} {ops : Array Oper} {rest : List Oper} {o : Oper} {a : Act} {Q : Exit → Act → World → Prop} {d s : Operand} {t : Array TypeId}
    (_ho : o.op = .call { callee := .builtin .copy, args := #[d, s], argTypes := t }) (h : wpList P ops Q (o :: rest) a w) : wpList P ops Q (o :: rest) a w := h
/-- The block g is these bytes, and some more values behind them. -/
def RowR (w : World) (g : Nat) (xs : List Int) (rest : List Value) : Prop := w.heap[g]? = some (.cells (bs xs ++ rest).toArray 5 (0, 0))
theorem RowR.row {w : World} {g : Nat} {xs : List Int} {rest : List Value} (h : RowR w g xs rest) : Row w g xs := ⟨_, rest, h, by simp⟩
theorem Row.r {w : World} {g : Nat} {xs : List Int} (h : Row w g xs) : ∃ rest, RowR w g xs rest := by
  obtain ⟨cs, rest, h1, h2⟩ := h
  refine ⟨rest, ?_⟩
  unfold RowR
  rw [← h2]; exact h1
theorem RowR.kp {F : Nat → Prop} {w w' : World} {g : Nat} {xs : List Int} {rest : List Value} (h : RowR w g xs rest) (k : Kp F w w') (hf : ¬ F g) : RowR w' g xs rest := k.blk h hf
theorem splice_app {α : Type} (X R Y : List α) (off : Nat) (h : off + Y.length ≤ X.length) : splice (X ++ R) off Y = splice X off Y ++ R := by
  unfold splice
  rw [List.take_append_of_le_length (by omega), List.drop_append_of_le_length (by omega)]
  simp
/-- copy(d, s), d within a row of bytes of the call's own. -/
theorem wpList_copyR {w : World} {ops : Array Oper} {rest : List Oper} {o : Oper} {a : Act} {Q : Exit → Act → World → Prop} (hgd : o.guard = none) (d s : Operand)
    (ho : o.op = .call { callee := .builtin .copy, args := #[d, s], argTypes := #[52, 52] })
    (dp : Option Addr) (dl dc : Nat) (hd : a.eval d = .slice dp dl dc) (v : Value) (hs : a.eval s = v) (g off : Nat) (xs ys : List Int) (R : List Value) (hg : RowR w g xs R) (hsl : Sl w v ys)
    (hdp : 0 < Nat.min ys.length dl → dp = some ⟨g, off, none⟩) (hfit : off + Nat.min ys.length dl ≤ xs.length)
    (h : ∀ w', Kp (fun k => k = g) w w' → w'.heap.size = w.heap.size → RowR w' g (splice xs off (ys.take dl)) R → wpList Tryz.prog ops Q rest (a.put o.dst (goInt (Nat.min ys.length dl : Nat))) w') :
    wpList Tryz.prog ops Q (o :: rest) a w := by
  obtain ⟨i, hi, hz, hsz, hb⟩ := info_parts Tryz.infoU8
  have hsz' : (Tryz.prog.info? 5).map (·.size) = some 1 := by rw [hi]; simp [hsz]
  obtain ⟨A, c, rfl, h1, h2, h3⟩ := hsl
  by_cases h0 : Nat.min ys.length dl = 0
  · refine wpList_copy_nothing hgd d s _ _ ho 5 Tryz.underlying52 hsz' dp A dl dc ys.length c hd hs h0 ?_
    have hsp : splice xs off (ys.take dl) = xs := by
      have : (ys.take dl) = [] := by
        apply List.eq_nil_of_length_eq_zero
        rw [List.length_take, Nat.min_comm]; exact h0
      simp [splice, this]
    have := h w (Kp.refl _ _) rfl (by rw [hsp]; exact hg)
    rw [h0] at this; exact this
  · have hpos : 0 < Nat.min ys.length dl := Nat.pos_of_ne_zero h0
    obtain rfl := hdp hpos
    have hy : ys ≠ [] := by rintro rfl; simp at h0
    obtain ⟨ad, rfl, h4⟩ := h3 hy
    have hlen : (bs (ys.take dl)).length = Nat.min ys.length dl := by rw [bs_length, List.length_take, Nat.min_comm]
    have hfit' : off + (bs (ys.take dl)).length ≤ (bs xs).length := by rw [hlen, bs_length]; exact hfit
    refine wpList_copy_own hgd d s _ _ ho 5 Tryz.underlying52 hsz' g off dl dc ad ys.length c hd hs (bs xs ++ R).toArray _ hg (bs (ys.take dl)) hlen ?_ (by rw [List.size_toArray, List.length_append]; omega) (bs_one _) ?_
    · intro j u hj
      refine h4 j u ?_
      obtain ⟨x, hx, rfl⟩ := bs_get _ _ _ hj
      have : ys[j]? = some x := by
        rw [List.getElem?_take] at hx; split at hx
        · exact hx
        · cases hx
      simp [bs, this]
    · have := h _ (setRow_kp w g _) (by simp) (show _ = _ from setRow_heap w g _ (bs (splice xs off (ys.take dl)) ++ R).toArray _ (0, 0) hg)
      rw [← bs_splice, ← splice_app _ _ _ _ hfit'] at this
      unfold splice at this
      rw [hlen] at this ⊢
      exact this
theorem wpList_copyB {w : World} {ops : Array Oper} {rest : List Oper} {o : Oper} {a : Act} {Q : Exit → Act → World → Prop} (hgd : o.guard = none) (d s : Operand)
    (ho : o.op = .call { callee := .builtin .copy, args := #[d, s], argTypes := #[52, 52] })
    (dp : Option Addr) (dl dc : Nat) (hd : a.eval d = .slice dp dl dc) (v : Value) (hs : a.eval s = v) (g off : Nat) (xs ys : List Int) (hg : RowE w g xs) (hsl : Sl w v ys)
    (hdp : 0 < Nat.min ys.length dl → dp = some ⟨g, off, none⟩) (hfit : off + Nat.min ys.length dl ≤ xs.length)
    (h : ∀ w', Kp (fun k => k = g) w w' → w'.heap.size = w.heap.size → RowE w' g (splice xs off (ys.take dl)) → wpList Tryz.prog ops Q rest (a.put o.dst (goInt (Nat.min ys.length dl : Nat))) w') :
    wpList Tryz.prog ops Q (o :: rest) a w :=
  wpList_copyR hgd d s ho dp dl dc hd v hs g off xs ys [] (by unfold RowR; rw [List.append_nil]; exact hg) hsl hdp hfit fun w' h1 h2 h3 => h w' h1 h2 (by unfold RowR at h3; rw [List.append_nil] at h3; exact h3)

/-- Only where the next operation cuts a slice. -/
theorem at_slice {P : Program} {w : World} {ops : Array Oper} {rest : List Oper} {o : Oper} {a : Act} {Q : Exit → Act → World → Prop} {T : TypeId} {x : Operand} {l m n : Option Operand}
    (_ho : o.op = .slice T x l m n) (h : wpList P ops Q (o :: rest) a w) : wpList P ops Q (o :: rest) a w := h
/-- x[k:]. -/
theorem run_slice_lo {w : World} {s : Nat} (T E : TypeId) (hT : Tryz.prog.underlying T = some (.slice E)) (hE : (sizeOf E).run Tryz.prog w = .ok s w) (ad : Addr) (n c k : Nat) (hk : k ≤ n) (_hn : n ≤ c) :
    (Instr.sliceAt T (.slice (some ad) n c) (some (.int .i64 (k : Int))) none none).run Tryz.prog w = .ok (.slice (some (if c = k then ad else ad.add (k * s))) (n - k) (c - k)) w := by
  have h1 : ((k : Int) ≤ (n : Int)) := by omega
  have h0 : (0 : Int) ≤ (k : Int) := by omega
  have hb : ∀ cd, (Instr.sliceBound (.int .i64 (k : Int)) n cd).run Tryz.prog w = .ok k w := fun cd => by
    simp [Instr.sliceBound, asIntOf, h0, h1]
  simp [Instr.sliceAt, Instr.slice, Instr.sliceBounds, run_underlying hT, hE, hb, Result.andThen]
  split <;> rfl
theorem wpList_slice_run {w : World} {ops : Array Oper} {rest : List Oper} {o : Oper} {a : Act} {Q : Exit → Act → World → Prop} (hgd : o.guard = none) (T : TypeId) (x : Operand) (lo hi mx : Option Operand) (ho : o.op = .slice T x lo hi mx) (v r : Value) (l m n : Option Value)
    (hx : a.eval x = v) (hl : lo.map a.eval = l) (hm : hi.map a.eval = m) (hn : mx.map a.eval = n) (hr : (Instr.sliceAt T v l m n).run Tryz.prog w = .ok r w)
    (h : wpList Tryz.prog ops Q rest (a.put o.dst r) w) : wpList Tryz.prog ops Q (o :: rest) a w := by
  refine wpList_plain hgd fun K hK => ?_
  unfold Oper.wp execOp
  simp only [ho, hx, hl, hm, hn, Sem.run_bind, Sem.run_pure, Result.andThen_ok, hr]
  exact hK _ _ h
end Go.Proofs.YthjbpbahcemfgaaGreatDoor
