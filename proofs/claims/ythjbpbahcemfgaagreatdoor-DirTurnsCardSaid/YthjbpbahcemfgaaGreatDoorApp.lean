/- Slices of ints appended to a slice of one's own; an int put among others. -/
import Derived.Test.YthjbpbahcemfgaaGreatDoorInts
import Derived.Test.YthjbpbahcemfgaaGreatDoorNewC
import Derived.Deep.AppendLies
import Derived.Deep.Slices
namespace Go.Proofs.YthjbpbahcemfgaaGreatDoor
open Go.RowKit
set_option maxHeartbeats 1000000
set_option maxRecDepth 20000

theorem run_append_none {w : World} {g n cap c : Nat} (hn : n ≤ cap) (_hc : cap ≤ maxLen) :
    (Builtin.append_ #[92, 92] 92 #[.slice (some ⟨g, 0, none⟩) n cap, .slice none 0 c]).run Tryz.prog w = .ok (.slice (some ⟨g, 0, none⟩) n cap) w := by
  obtain ⟨i0, hi, hx⟩ := Option.map_eq_some_iff.1 Tryz.infoInt
  simp only [Prod.mk.injEq] at hx
  obtain ⟨hz, hsz, hby⟩ := hx
  unfold maxLen at _hc
  simp [Builtin.append_, run_underlying Tryz.underlying92, sizeOf, typeInfo, zeroValue, hi, hz, Builtin.lenOf, hn, hby, run_firstCells_none, storeCells]
theorem oneI (ys : List Int) : ∀ u ∈ ints ys, u.oneCell' = true := fun u hu => by
  simp only [ints, List.mem_map] at hu
  obtain ⟨x, _, rfl⟩ := hu
  rfl
/-- Own memory: a slice of ints in a block of its own from base on. -/
def OwnI (w : World) (base : Nat) (v : Value) (xs : List Int) : Prop := v.ownBlock.isSome = true ∧ w.ownsRow base 3 1 v xs.length (ints xs)
theorem OwnI.slI {w : World} {base : Nat} {v : Value} {xs : List Int} (h : OwnI w base v xs) : SlI w v xs := (own_slI h.2).1
theorem OwnI.shape {w : World} {base : Nat} {v : Value} {xs : List Int} (h : OwnI w base v xs) : ∃ g cap, v = .slice (some ⟨g, 0, none⟩) xs.length cap ∧ base ≤ g ∧ g < w.heap.size ∧ xs.length ≤ cap ∧ cap ≤ maxLen := by
  obtain ⟨hs, _, h⟩ := h
  rcases h with ⟨rfl, _⟩ | ⟨g, cap, cur, rfl, hb, hg, h1, h2, _⟩
  · cases hs
  · exact ⟨g, cap, rfl, hb, lt_blk hg, h1, h2⟩
theorem OwnI.kp {F : Nat → Prop} {w w' : World} {base : Nat} {v : Value} {xs : List Int} (h : OwnI w base v xs) (k : Kp F w w') (hf : ∀ b, v.ownBlock = some b → ¬ F b) : OwnI w' base v xs := by
  obtain ⟨hs, hl, h⟩ := h
  rcases h with ⟨rfl, _⟩ | ⟨g, cap, cur, rfl, hb, hg, h1⟩
  · cases hs
  · exact ⟨hs, hl, .inr ⟨g, cap, cur, rfl, hb, k.blk hg (hf g rfl), h1⟩⟩
theorem OwnI.new' {w : World} {base H n : Nat} {cs : Array Value} (xs : List Int) (hcs : cs = (ints xs).toArray) (hn : xs.length = n) (hH : w.heap.size = H) (hb : base ≤ H) (hl : xs.length ≤ maxLen) : OwnI (w.alloc (.cells cs 3)) base (.slice (some ⟨H, 0, none⟩) n n) xs := by
  subst hH; subst hcs; subst hn
  exact ⟨rfl, by simp, .inr ⟨_, _, _, rfl, hb, new_blk w _, Nat.le_refl _, hl, by simp, by simp [List.take_of_length_le]⟩⟩
theorem OwnI.newD {w : World} {base H n : Nat} {cs : Array Value} (xs : List Int) (hcs : cs = (ints xs).toArray) (hn : xs.length = n) (hH : w.heap.size = H) (hb : base ≤ H) (hl : xs.length ≤ maxLen) : OwnI (w.alloc (.cells cs 3)).drew base (.slice (some ⟨H, 0, none⟩) n n) xs :=
  (OwnI.new' xs hcs hn hH hb hl).kp (Kp.refl (fun _ => False) _).drew (fun _ _ h => h)
theorem OwnI.newA {w : World} {base H n : Nat} {cs : Array Value} {X : Obj} (xs : List Int) (hcs : cs = (ints xs).toArray) (hn : xs.length = n) (hH : w.heap.size = H) (hb : base ≤ H) (hl : xs.length ≤ maxLen) : OwnI ((w.alloc (.cells cs 3)).alloc X).drew base (.slice (some ⟨H, 0, none⟩) n n) xs :=
  (OwnI.new' xs hcs hn hH hb hl).kp ((Kp.refl (fun _ => False) _).alloc _).drew (fun _ _ h => h)
theorem OwnI.new (w : World) (base : Nat) (xs : List Int) (hb : base ≤ w.heap.size) (hl : xs.length ≤ maxLen) : OwnI (w.alloc (.cells (ints xs).toArray 3)) base (.slice (some ⟨w.heap.size, 0, none⟩) xs.length xs.length) xs :=
  ⟨rfl, by simp, .inr ⟨_, _, _, rfl, hb, new_blk w _, Nat.le_refl _, hl, by simp, by simp [List.take_of_length_le]⟩⟩
/-- ys, wherever they lie, behind one's own xs. -/
theorem app_ints {w : World} {base : Nat} {v u : Value} {xs ys : List Int} (h : OwnI w base v xs) (hu : SlI w u ys) (hb : base ≤ w.heap.size) (hsm : xs.length + ys.length ≤ 100000) :
    ∃ v' w', (Builtin.append_ #[92, 92] 92 #[v, u]).run Tryz.prog w = .ok v' w' ∧ OwnI w' base v' (xs ++ ys) ∧ Kp (fun k => v.ownBlock = some k) w w' ∧ (∀ w0 : World, w0.heap.size ≤ base → Kp (fun _ => False) w0 w → Kp (fun _ => False) w0 w') := by
  obtain ⟨A, c, rfl, h1, h2, h3⟩ := hu
  obtain ⟨g, cap, rfl, hbg, hgl, hc1, hc2⟩ := h.shape
  cases A with
  | none =>
    have : ys = [] := Classical.byContradiction fun hn => by obtain ⟨ad, e, _⟩ := h3 hn; cases e
    subst this
    exact ⟨_, _, run_append_none hc1 hc2, by simpa using h, Kp.refl _ _, fun _ _ h => h⟩
  | some ad =>
    obtain ⟨i0, hi, hx⟩ := Option.map_eq_some_iff.1 Tryz.infoInt
    simp only [Prod.mk.injEq] at hx
    obtain ⟨hz, hsz, hby⟩ := hx
    obtain ⟨v', w', hr, ho, hg, hn, hv⟩ := run_append_own_at (P := Tryz.prog) w base 92 92 3 i0 (.int .i64 0) 1 8 Tryz.underlying92 hi hz hsz hby rfl (by decide) _ _ _ h.2 ad ys.length c (ints ys) (by simp) (fun j u hj => by
      have hne : ys ≠ [] := fun e => by rw [e] at hj; simp [ints] at hj
      obtain ⟨ad', e, h4⟩ := h3 hne
      cases e
      exact h4 j u hj) (oneI ys) (by unfold maxLen; omega) (by omega) hb
    refine ⟨v', w', hr, ⟨?_, by rw [List.length_append, ints_app]; exact ho⟩, grown_kp hg fun k e => .inl e, fun w0 h0 k0 => k0.over (grown_kp (F := fun k => (Value.slice (some ⟨g, 0, none⟩) xs.length cap).ownBlock = some k) hg fun k e => .inl e) (fun i hi => by simp [Value.ownBlock] at hi; omega)⟩
    rcases hv with e | e <;> rw [e] <;> rfl
theorem step_app {w : World} {ops : Array Oper} {o : Oper} {d : Nat} {a : Act} {K : Act → World → Prop} {Q : Exit → Act → World → Prop} {E : Prop} (hgd : o.guard = none) (s x : Operand)
    (ho : o.op = .call { callee := .builtin .append, args := #[s, x], argTypes := #[92, 92] }) (hty : o.type = 92) (hd : o.dst = some d) (base : Nat) (v u : Value) (xs ys : List Int) (hs : a.eval s = v) (h : OwnI w base v xs) (hx : a.eval x = u) (hu : SlI w u ys)
    (hb : base ≤ w.heap.size) (hsm : xs.length + ys.length ≤ 100000)
    (hk : ∀ v' w', OwnI w' base v' (xs ++ ys) → Kp (fun k => v.ownBlock = some k) w w' → (∀ w0 : World, w0.heap.size ≤ base → Kp (fun _ => False) w0 w → Kp (fun _ => False) w0 w') → K (a.put (some d) v') w') :
    if Region.wanted o (yielded ops a.tmps) = true then Oper.wp Tryz.prog o a w K Q else E := by
  have hw : Region.wanted o (yielded ops a.tmps) = true := by simp [Region.wanted, hgd]
  rw [if_pos hw]
  obtain ⟨v', w', hr, h2, h3, h4⟩ := app_ints h hu hb hsm
  unfold Oper.wp execOp
  simp only [ho, hty, resolve, invoke, builtin, Sem.run_bind, Sem.run_pure, Result.andThen_ok, List.map_toArray, List.map_cons, List.map_nil, hs, hx, hr]
  have hk' := hk v' w' h2 h3 h4
  rw [← hd] at hk'
  exact hk'
theorem slI_far {w w' : World} {B E a c n : Nat} {xs : List Int} (h : SlI w (.slice (some ⟨B, 0, none⟩) n n) xs) (k : Kp (fun k => (Value.slice (some ⟨E, 0, none⟩) a c).ownBlock = some k) w w') (hne : E ≠ B) : SlI w' (.slice (some ⟨B, 0, none⟩) n n) xs :=
  h.kp k (fun b hb hF => by simp only [blockOf, Option.some.injEq] at hb; simp only [Value.ownBlock, Option.some.injEq] at hF; omega)
/-- v[:k]. -/
theorem SlI.take_run {w : World} {v : Value} {xs : List Int} (h : SlI w v xs) (k : Nat) (hk : k ≤ xs.length) :
    ∃ u, (∀ W : World, (Instr.sliceAt 92 v none (some (.int .i64 (k : Int))) none).run Tryz.prog W = .ok u W) ∧ SlI w u (xs.take k) := by
  obtain ⟨A, c, rfl, h1, h2, h3⟩ := h
  have hkc : (k : Int) ≤ (c : Int) := by omega
  have hk0 : (0 : Int) ≤ (k : Int) := by omega
  have hb : ∀ cd, ∀ W : World, (Instr.sliceBound (.int .i64 (k : Int)) c cd).run Tryz.prog W = .ok k W := fun cd W => by
    simp [Instr.sliceBound, asIntOf, hk0, hkc]
  refine ⟨.slice A k c, fun W => ?_, A, c, ?_, ?_, h2, fun hn => ?_⟩
  · have hE : (sizeOf 3).run Tryz.prog W = .ok 1 W := by kernel_rfl
    have hb0 : ∀ cd, (Instr.sliceBound (.int .i64 0) k cd).run Tryz.prog W = .ok 0 W := fun cd => by simp [Instr.sliceBound, asIntOf]
    cases A <;> simp [Instr.sliceAt, Instr.slice, Instr.sliceBounds, run_underlying Tryz.underlying92, hE, hb, Result.andThen, Addr.add]
  · rw [List.length_take]; simp [Nat.min_eq_left hk]
  · rw [List.length_take]; omega
  · obtain ⟨ad, rfl, h4⟩ := h3 (fun e => hn (by rw [e]; simp))
    exact ⟨ad, rfl, fun j u hj => h4 j u (by
      simp only [ints, List.map_take] at hj ⊢
      rw [List.getElem?_take] at hj
      split at hj
      · exact hj
      · cases hj)⟩
/-- v[k:]. -/
theorem SlI.drop_run {w : World} {v : Value} {xs : List Int} (h : SlI w v xs) (k : Nat) (hk : k ≤ xs.length) :
    ∃ u, (∀ W : World, (Instr.sliceAt 92 v (some (.int .i64 (k : Int))) none none).run Tryz.prog W = .ok u W) ∧ SlI w u (xs.drop k) := by
  obtain ⟨A, c, rfl, h1, h2, h3⟩ := h
  have hE : ∀ W : World, (sizeOf 3).run Tryz.prog W = .ok 1 W := fun W => by kernel_rfl
  cases A with
  | none =>
    have hx : xs = [] := Classical.byContradiction fun hn => by obtain ⟨ad, e, _⟩ := h3 hn; cases e
    subst hx
    have hk' : k = 0 := by simpa using hk
    subst hk'
    refine ⟨.slice none 0 c, fun W => ?_, none, c, rfl, Nat.zero_le _, h2, fun hn => absurd rfl hn⟩
    have hb0 : ∀ cd, (Instr.sliceBound (.int .i64 0) 0 cd).run Tryz.prog W = .ok 0 W := fun cd => by simp [Instr.sliceBound, asIntOf]
    simp [Instr.sliceAt, Instr.slice, Instr.sliceBounds, run_underlying Tryz.underlying92, hE W, hb0, Result.andThen]
  | some ad =>
    refine ⟨_, fun W => run_slice_lo 92 3 Tryz.underlying92 (hE W) ad xs.length c k hk h1, _, c - k, by rw [List.length_drop], by rw [List.length_drop]; omega, by omega, fun hn => ?_⟩
    obtain ⟨ad', e, h4⟩ := h3 (fun e => hn (by rw [e]; simp))
    cases e
    have hlt : k < xs.length := by
      rcases Nat.lt_or_ge k xs.length with h | h
      · exact h
      · exact absurd (List.drop_eq_nil_of_le h) hn
    refine ⟨_, rfl, fun j u hj => ?_⟩
    rw [if_neg (by omega), Nat.mul_one, Deep.add_add]
    refine h4 _ u ?_
    simp only [ints, List.map_drop] at hj ⊢
    rw [List.getElem?_drop] at hj
    exact hj
end Go.Proofs.YthjbpbahcemfgaaGreatDoor
