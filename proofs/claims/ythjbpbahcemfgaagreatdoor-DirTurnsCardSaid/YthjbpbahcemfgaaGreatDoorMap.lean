/- Maps with int keys: what the operations do, entry by entry. -/
import Derived.Test.YthjbpbahcemfgaaGreatDoorOpen
import Derived.Maps.OwnOps
namespace Go.Proofs.YthjbpbahcemfgaaGreatDoor
open Go.RowKit
set_option maxHeartbeats 1000000
set_option maxRecDepth 20000

/-- The entries' keys are these numbers. -/
def Keys (es : Array MapEntry) (ks : List Nat) : Prop := es.toList.map (·.key) = ks.map fun n : Nat => Value.int .i64 (n : Int)
theorem Keys.nil : Keys #[] [] := rfl
theorem Keys.size {es : Array MapEntry} {ks : List Nat} (h : Keys es ks) : es.size = ks.length := by
  have := congrArg List.length h; simpa using this
theorem Keys.push {es : Array MapEntry} {ks : List Nat} (h : Keys es ks) (k : Nat) (v : Value) (c : Nat) : Keys (es.push { key := .int .i64 k, val := v, born := c }) (ks ++ [k]) := by
  unfold Keys at h ⊢; simp [h]
theorem Keys.at {es : Array MapEntry} {ks : List Nat} (h : Keys es ks) {i k : Nat} (hk : ks[i]? = some k) : ∃ e, es[i]? = some e ∧ e.key = .int .i64 k := by
  have h1 := congrArg (·[i]?) h
  simp only [List.getElem?_map, hk, Option.map_some, Array.getElem?_toList] at h1
  cases he : es[i]? with
  | none => rw [he] at h1; cases h1
  | some e => rw [he] at h1; exact ⟨e, rfl, by simpa using h1⟩

/-- The entries' stamps: each its own, each before the clock. -/
def St (es : Array MapEntry) (cl : Nat) : Prop := (∀ x ∈ es.toList, x.born < cl) ∧ (es.toList.map (·.born)).Nodup
theorem St.nil (cl : Nat) : St #[] cl := ⟨fun x hx => by simp at hx, List.nodup_nil⟩
theorem St.push {es : Array MapEntry} {cl : Nat} (h : St es cl) (k v : Value) : St (es.push { key := k, val := v, born := cl }) (cl + 1) := by
  refine ⟨fun x hx => ?_, ?_⟩
  · simp only [Array.toList_push, List.mem_append, List.mem_singleton] at hx
    rcases hx with hx | rfl
    · have := h.1 x hx; omega
    · exact Nat.lt_succ_self _
  · simp only [Array.toList_push, List.map_append, List.map_cons, List.map_nil]
    rw [List.nodup_append]
    refine ⟨h.2, by simp, ?_⟩
    intro a ha b hb e
    simp only [List.mem_singleton] at hb
    obtain ⟨x, hx, rfl⟩ := List.mem_map.1 ha
    have := h.1 x hx
    omega
theorem St.modify {es : Array MapEntry} {cl : Nat} (h : St es cl) (j : Nat) (k v : Value) : St (es.modify j fun e => { e with key := k, val := v }) cl := by
  have hb : (es.modify j fun e => { e with key := k, val := v }).toList.map (·.born) = es.toList.map (·.born) := by
    apply List.ext_getElem?
    intro i
    simp only [List.getElem?_map, Array.getElem?_toList, Array.getElem?_modify]
    split
    · cases es[i]? <;> rfl
    · rfl
  refine ⟨fun x hx => ?_, by rw [hb]; exact h.2⟩
  have : x.born ∈ es.toList.map (·.born) := by rw [← hb]; exact List.mem_map_of_mem hx
  obtain ⟨y, hy, e⟩ := List.mem_map.1 this
  rw [← e]; exact h.1 y hy

theorem findNow_none {no : Int} : ∀ (l : List MapEntry) (ks : List Nat) (i : Nat), l.map (·.key) = ks.map (fun n : Nat => Value.int .i64 (n : Int)) → (∀ k ∈ ks, (k : Int) ≠ no) → Instr.findNow (.int .i64) (.int .i64 no) l i = some none
  | [], _, _, _, _ => rfl
  | e :: l, [], _, h, _ => by cases h
  | e :: l, k :: ks, i, h, hn => by
    simp only [List.map_cons, List.cons.injEq] at h
    have hk : (no == (k : Int)) = false := by rw [beq_eq_false_iff_ne]; exact fun e => hn k List.mem_cons_self e.symm
    simp only [Instr.findNow]
    rw [h.1]
    simp only [Instr.sameNow, hk, if_true]
    exact findNow_none l ks (i + 1) h.2 (fun k hk => hn k (List.mem_cons_of_mem _ hk))
theorem findNow_some {k : Nat} : ∀ (l : List MapEntry) (ks : List Nat) (i j : Nat) (e : MapEntry), l.map (·.key) = ks.map (fun n : Nat => Value.int .i64 (n : Int)) → ks.Nodup → ks[j]? = some k → l[j]? = some e → Instr.findNow (.int .i64) (.int .i64 (k : Int)) l i = some (some (i + j, e.val))
  | [], _, _, _, _, _, _, _, h => by cases h
  | _ :: l, [], _, _, _, h, _, _, _ => by cases h
  | x :: l, q :: ks, i, 0, e, h, hn, hk, he => by
    simp only [List.map_cons, List.cons.injEq] at h
    simp at hk he
    subst hk he
    simp only [Instr.findNow]
    rw [h.1]
    simp [Instr.sameNow]
  | x :: l, q :: ks, i, j + 1, e, h, hn, hk, he => by
    simp only [List.map_cons, List.cons.injEq] at h
    simp only [List.getElem?_cons_succ] at hk he
    have hq : ((k : Int) == (q : Int)) = false := by
      rw [beq_eq_false_iff_ne]
      intro e
      have : k ∈ ks := List.mem_of_getElem? hk
      have e' : k = q := by omega
      subst e'
      exact (List.nodup_cons.1 hn).1 this
    simp only [Instr.findNow]
    rw [h.1]
    simp only [Instr.sameNow, hq, if_true]
    have := findNow_some l ks (i + 1) j e h.2 (List.nodup_cons.1 hn).2 hk he
    rw [this, show i + 1 + j = i + (j + 1) by omega]

section
variable {w : World} {bm clock : Nat} {es : Array MapEntry} {ks : List Nat} {T E : TypeId} {z : Value}
theorem run_find {no : Int} {r : Option (Nat × Value)} (h : Instr.findNow (.int .i64) (.int .i64 no) es.toList 0 = some r) : (Instr.findKey 3 (.int .i64 no) es.toList).run Tryz.prog w = .ok r w := by
  simp [Instr.findKey, run_underlying Tryz.underlying3, h, Result.andThen]
theorem run_check (b : Bool) (no : Int) : (Instr.checkKey b 10000 3 (.int .i64 no)).run Tryz.prog w = .ok () w := by
  unfold Instr.checkKey
  simp only [Sem.run_bind, run_underlying Tryz.underlying3, Result.andThen]
  rfl
theorem run_lookup_no (hT : Tryz.prog.underlying T = some (.map 3 E)) (hz : (zeroValue E).run Tryz.prog w = .ok z w) (hb : w.heap[bm]? = some (.map es clock)) (hk : Keys es ks) (no : Int) (hn : ∀ k ∈ ks, (k : Int) ≠ no) :
    (Instr.lookup T (.map (some bm)) (.int .i64 no) true).run Tryz.prog w = .ok (.tuple #[z, .bool false]) w := by
  have hf := run_find (w := w) (findNow_none es.toList ks 0 hk hn)
  simp [Instr.lookup, run_underlying hT, run_check, hf, hz, Result.andThen, getObj, Sem.run, hb]
theorem run_lookup_yes (hT : Tryz.prog.underlying T = some (.map 3 E)) (hb : w.heap[bm]? = some (.map es clock)) (hk : Keys es ks) (hnd : ks.Nodup) {j k : Nat} {e : MapEntry} (hj : ks[j]? = some k) (he : es[j]? = some e) :
    (Instr.lookup T (.map (some bm)) (.int .i64 (k : Int)) true).run Tryz.prog w = .ok (.tuple #[e.val, .bool true]) w := by
  have hf := run_find (w := w) (findNow_some es.toList ks 0 j e hk hnd hj (by rw [Array.getElem?_toList]; exact he))
  simp [Instr.lookup, run_underlying hT, run_check, hf, Result.andThen, getObj, Sem.run, hb]
end
/-- An object turned. -/
def putO (w : World) (r : Nat) (o : Obj) : World := { w with heap := w.heap.setIfInBounds r o }
theorem putO_same {w : World} {r : Nat} {o : Obj} (h : r < w.heap.size) : (putO w r o).heap[r]? = some o := by simp [putO, h]
theorem putO_kp (w : World) (r : Nat) (o : Obj) : Kp (fun k => k = r) w (putO w r o) := Kp.putObj (F := fun k => k = r) (Kp.refl _ w) (.inl rfl) o
section
variable {w : World} {bm clock : Nat} {es : Array MapEntry} {ks : List Nat} {T E : TypeId}
theorem run_update_no (hT : Tryz.prog.underlying T = some (.map 3 E)) (hb : w.heap[bm]? = some (.map es clock)) (hk : Keys es ks) (no : Int) (hn : ∀ k ∈ ks, (k : Int) ≠ no) (v : Value) :
    (Instr.mapUpdate T (.map (some bm)) (.int .i64 no) v).run Tryz.prog w = .ok () (putO w bm (.map (es.push { key := .int .i64 no, val := v, born := clock }) (clock + 1))) := by
  have hf := run_find (w := w) (findNow_none es.toList ks 0 hk hn)
  simp [Instr.mapUpdate, run_underlying hT, run_check, hf, Result.andThen, getObj, Sem.run, hb, setObj, putO]
theorem run_update_yes (hT : Tryz.prog.underlying T = some (.map 3 E)) (hb : w.heap[bm]? = some (.map es clock)) (hk : Keys es ks) (hnd : ks.Nodup) {j k : Nat} {e : MapEntry} (hj : ks[j]? = some k) (he : es[j]? = some e) (v : Value) :
    (Instr.mapUpdate T (.map (some bm)) (.int .i64 (k : Int)) v).run Tryz.prog w = .ok () (putO w bm (.map (es.modify j fun e => { e with key := .int .i64 k, val := v }) clock)) := by
  have hf := run_find (w := w) (findNow_some es.toList ks 0 j e hk hnd hj (by rw [Array.getElem?_toList]; exact he))
  obtain ⟨e', he', hke⟩ := hk.at hj
  rw [he] at he'; cases he'
  have hs : Instr.keyThatStays (.int .i64 k) (.int .i64 k) = pure (.int .i64 k) := by simp [Instr.keyThatStays, Instr.sameBits]
  simp [Instr.mapUpdate, run_underlying hT, run_check, hf, Result.andThen, getObj, Sem.run, hb, setObj, putO, he, hke, hs]
end
section
variable {w w' : World} {ops : Array Oper} {rest : List Oper} {o : Oper} {a : Act} {Q : Exit → Act → World → Prop}
theorem wpList_lookup_run (hgd : o.guard = none) (T : TypeId) (x y : Operand) (b : Bool) (ho : o.op = .lookup T x y b) (m k v : Value) (hx : a.eval x = m) (hy : a.eval y = k) (hr : (Instr.lookup T m k b).run Tryz.prog w = .ok v w')
    (h : wpList Tryz.prog ops Q rest (a.put o.dst v) w') : wpList Tryz.prog ops Q (o :: rest) a w := by
  refine wpList_plain hgd fun K hK => ?_
  unfold Oper.wp execOp
  simp only [ho, hx, hy, Sem.run_bind, Sem.run_pure, Result.andThen_ok, hr]
  exact hK _ _ h
theorem wpList_update_run (hgd : o.guard = none) (T : TypeId) (x y u : Operand) (ho : o.op = .mapUpdate T x y u) (m k v : Value) (hx : a.eval x = m) (hy : a.eval y = k) (hu : a.eval u = v) (hr : (Instr.mapUpdate T m k v).run Tryz.prog w = .ok () w')
    (h : wpList Tryz.prog ops Q rest (a.put o.dst undef) w') : wpList Tryz.prog ops Q (o :: rest) a w := by
  refine wpList_plain hgd fun K hK => ?_
  unfold Oper.wp execOp
  simp only [ho, hx, hy, hu, Sem.run_bind, Sem.run_pure, Result.andThen_ok, hr]
  exact hK _ _ h
end
end Go.Proofs.YthjbpbahcemfgaaGreatDoor
