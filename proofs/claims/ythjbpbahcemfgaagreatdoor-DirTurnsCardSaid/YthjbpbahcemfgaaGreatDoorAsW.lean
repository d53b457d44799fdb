/- errors.As at a target of type *api.Errno (the chain of Faults is gone through to the number at its bottom) and at one of type **api.Fault (the outmost Fault is the hit). -/
import Derived.Test.YthjbpbahcemfgaaGreatDoorAs
import Derived.Lib.Hide
namespace Go.Proofs.YthjbpbahcemfgaaGreatDoor
open Go.RowKit Go.Extern.Stop Go.Stop Go.Extern
set_option maxHeartbeats 4000000
set_option maxRecDepth 20000

theorem isErr_uniq {w : World} {n : Int} : ∀ {l : List (ByteArray × ByteArray)} {v : Value}, IsErr w v l n → ∀ {m : Int} {k : List (ByteArray × ByteArray)}, IsErr w v k m → k = l ∧ m = n
  | [], v, h, m, [], h' => by
    cases (show v = _ from h); cases (show _ = _ from h'); exact ⟨rfl, rfl⟩
  | [], v, h, m, p :: k, h' => by
    cases (show v = _ from h); obtain ⟨b, x, h1, _⟩ := h'; cases h1
  | p :: l, v, h, m, [], h' => by
    cases (show v = _ from h'); obtain ⟨b, x, h1, _⟩ := h; cases h1
  | p :: l, v, h, m, q :: k, h' => by
    obtain ⟨o, mm⟩ := p
    obtain ⟨o', mm'⟩ := q
    obtain ⟨b, x, h1, h2, h3⟩ := h
    obtain ⟨b', x', h1', h2', h3'⟩ := h'
    subst h1
    injection h1' with _ h1'
    injection h1' with h1'
    injection h1' with h1'
    injection h1' with h1'
    subst h1'
    rw [h2] at h2'
    injection h2' with h2'
    injection h2' with h2'
    injection h2' with h2'
    injection h2' with ha hb
    injection hb with hb hc
    injection hc with hc
    injection ha with ha
    injection hb with hb
    subst ha hb hc
    obtain ⟨e1, e2⟩ := isErr_uniq h3 h3'
    exact ⟨by rw [e1], e2⟩
open Classical in
/-- How many Faults an error has. -/
noncomputable def depth (w : World) (v : Value) : Nat := if h : ∃ l n, IsErr w v l n then h.choose.length else 0
theorem depth_of {w : World} {v : Value} {l : List (ByteArray × ByteArray)} {n : Int} (h : IsErr w v l n) : depth w v = l.length := by
  have hx : ∃ l n, IsErr w v l n := ⟨l, n, h⟩
  unfold depth
  rw [dif_pos hx]
  obtain ⟨m, hm⟩ := hx.choose_spec
  rw [(isErr_uniq h hm).1]

theorem ta_AsF (v : Value) (xT : TypeId) (w : World) : (Instr.typeAssert (.iface 106 v) xT 207 true).run Tryz.prog w = .ok (.tuple #[.nilIface, .bool false]) w := run_typeAssert_lacksB Tryz.underlying207 (by kernel_rfl) (by kernel_rfl) v xT w
theorem ta_UnF (v : Value) (xT : TypeId) (w : World) : (Instr.typeAssert (.iface 106 v) xT 210 true).run Tryz.prog w = .ok (.tuple #[.iface 106 v, .bool true]) w := run_typeAssert_hasB Tryz.underlying210 (by kernel_rfl) v xT w
theorem ta_UsF (v : Value) (xT : TypeId) (w : World) : (Instr.typeAssert (.iface 106 v) xT 211 true).run Tryz.prog w = .ok (.tuple #[.nilIface, .bool false]) w := run_typeAssert_lacksB Tryz.underlying211 (by kernel_rfl) (by kernel_rfl) v xT w
theorem ta_IsF (v : Value) (xT : TypeId) (w : World) : (Instr.typeAssert (.iface 106 v) xT 214 true).run Tryz.prog w = .ok (.tuple #[.nilIface, .bool false]) w := run_typeAssert_lacksB Tryz.underlying214 (by kernel_rfl) (by kernel_rfl) v xT w
theorem ta_AsE (v : Value) (xT : TypeId) (w : World) : (Instr.typeAssert (.iface 81 v) xT 207 true).run Tryz.prog w = .ok (.tuple #[.nilIface, .bool false]) w := run_typeAssert_lacksB Tryz.underlying207 (by kernel_rfl) (by kernel_rfl) v xT w
theorem ta_UnE (v : Value) (xT : TypeId) (w : World) : (Instr.typeAssert (.iface 81 v) xT 210 true).run Tryz.prog w = .ok (.tuple #[.nilIface, .bool false]) w := run_typeAssert_lacksB Tryz.underlying210 (by kernel_rfl) (by kernel_rfl) v xT w
theorem ta_UsE (v : Value) (xT : TypeId) (w : World) : (Instr.typeAssert (.iface 81 v) xT 211 true).run Tryz.prog w = .ok (.tuple #[.nilIface, .bool false]) w := run_typeAssert_lacksB Tryz.underlying211 (by kernel_rfl) (by kernel_rfl) v xT w
theorem ta_IsE (v : Value) (xT : TypeId) (w : World) : (Instr.typeAssert (.iface 81 v) xT 214 true).run Tryz.prog w = .ok (.tuple #[.nilIface, .bool false]) w := run_typeAssert_lacksB Tryz.underlying214 (by kernel_rfl) (by kernel_rfl) v xT w
theorem as_mUnwrap (v : Value) (w : World) : (Go.method 397 106 v "Unwrap").run Tryz.prog w = .ok (214, v) w := by kernel_rfl
theorem lt_cell {w : World} {a : Addr} {v : Value} (h : w.cell? a = some v) : a.block < w.heap.size := by
  rcases Nat.lt_or_ge a.block w.heap.size with h1 | h1
  · exact h1
  · simp [World.cell?, Array.getElem?_eq_none h1] at h
theorem blk_alloc {w : World} {b : Nat} {o : Obj} (h : w.heap[b]? = some o) (p : Obj) : (w.alloc p).heap[b]? = some o :=
  ((Kp.refl (fun _ => False) w).alloc p).blk h (fun h => h)
theorem fault_Unwrap {w : World} {b : Nat} {o m x : Value} (h : w.heap[b]? = some (.cells #[o, m, x] 110 (0, 0))) :
    Calls Tryz.prog 214 #[.pointer (some ⟨b, 0, none⟩)] w fun e w' => e = .returned x ∧ w = w' := by
  have c2 := cell_blk h 2
  simp at c2
  clear h
  go_enter Tryz.func214, Tryz.ntmps214
  go_wp2
  go_ret
  exact ⟨rfl, rfl⟩

theorem as_E {w : World} {v : Value} {l : List (ByteArray × ByteArray)} {n : Int} (hv : IsErr w v l n) {t a : Addr} {old : Value} (ht : w.cell? t = some old) (hf : w.frozen? t = false) (ha : w.cell? a = some (.pointer (some t))) :
    Calls Tryz.prog 88 #[v, .iface 134 (.pointer (some t)), .agg #[.pointer (some ⟨5, 134, none⟩), .pointer (some a), .int .u64 150], .iface 203 (.agg #[.pointer (some ⟨5, 81, none⟩)])] w fun e w' => e = .returned (.bool true) ∧ w'.cell? t = some (.int .i64 n) ∧ Kp (fun k => k = t.block) w w' := by
  have h45 := @run_callFunc_extern Tryz.prog 89 _ ReflectliteType.typeOf Tryz.func89 (by kernel_rfl) (by kernel_rfl) (by kernel_rfl) (by kernel_rfl)
  have h105 := @run_callFunc_extern Tryz.prog 219 _ (ReflectliteType.relation "AssignableTo" ReflectliteType.assignableTo) Tryz.func219 (by kernel_rfl) (by kernel_rfl) (by kernel_rfl) (by kernel_rfl)
  have h41 := @run_callFunc_extern Tryz.prog 85 _ (fun args => ReflectliteValue.unpack (args.getD 0 (.tuple #[]))) Tryz.func85 (by kernel_rfl) (by kernel_rfl) (by kernel_rfl) (by kernel_rfl)
  have h56 := @run_callFunc_extern Tryz.prog 125 _ (ReflectliteValue.method (ReflectliteValue.valueError "reflectlite.Value.Elem" 0) ReflectliteValue.elem) Tryz.func125 (by kernel_rfl) (by kernel_rfl) (by kernel_rfl) (by kernel_rfl)
  have h57 := @run_callFunc_extern Tryz.prog 126 _ ReflectliteValue.set Tryz.func126 (by kernel_rfl) (by kernel_rfl) (by kernel_rfl) (by kernel_rfl)
  have tE := as_typeOfE
  have tF := as_typeOfF
  have mA := as_mAssignable
  have aE := as_assignableE
  have aF := as_assignableFE
  have tas := ta_AsF
  have tun := ta_UnF
  have mU := as_mUnwrap
  have Hv := Lib.hid hv
  have Ht := Lib.hid ht
  have Hf := Lib.hid hf
  have Ha := Lib.hid ha
  clear hv ht hf ha
  go_enter Tryz.func88, Tryz.ntmps88
  go_wp2
  go_loop [0] (fun e => ∃ k, IsErr w e k n) (fun e => depth w e)
  case atStart => exact ⟨l, Hv.out⟩
  case round =>
    obtain ⟨k, hk⟩ := hrel
    cases k with
    | nil =>
      obtain rfl : u0 = _ := hk
      have hal := lt_cell Ha.out
      have htl := lt_cell Ht.out
      have vE := as_valueOfE
      have el := as_elemVPE a t (w.alloc (.cells #[.pointer (some ⟨5, 134, none⟩), .pointer (some a), .int .u64 150] 162)) (by rw [World.cell?_alloc_lt _ _ a hal]; exact Ha.out)
      have st := as_setE t ⟨w.heap.size + 1, 0, none⟩ n old ((w.alloc (.cells #[.pointer (some ⟨5, 134, none⟩), .pointer (some a), .int .u64 150] 162)).alloc (.cells #[.int .i64 n] 81))
        (by rw [World.cell?_alloc_at _ _ _ _ (by simp)]; rfl)
        (by rw [World.cell?_alloc_lt _ _ t (by simp; omega), World.cell?_alloc_lt _ _ t htl]; exact Ht.out)
        (by rw [World.frozen?_alloc_old _ _ t (by simp; omega), World.frozen?_alloc_old _ _ t (Nat.ne_of_lt htl)]; exact Hf.out)
      go_wp2
      go_ret
      refine ⟨rfl, World.cell?_setCell_same _ _ _ (by rw [World.cell?_alloc_lt _ _ t (by simp; omega), World.cell?_alloc_lt _ _ t htl]; exact Ht.out), ?_⟩
      have k2 : Kp (fun k => k = t.block) w ((w.alloc (.cells #[.pointer (some ⟨5, 134, none⟩), .pointer (some a), .int .u64 150] 162)).alloc (.cells #[.int .i64 n] 81)) := ((Kp.refl _ _).alloc _).alloc _
      exact k2.setCell (.inl rfl) _
    | cons p k =>
      obtain ⟨o, m⟩ := p
      have hd : depth w u0 = k.length + 1 := depth_of hk
      obtain ⟨b, x, rfl, hb, hx⟩ := hk
      have hd2 := depth_of hx
      have Hx := Lib.hid hx
      have Hb := Lib.hid hb
      clear hx hb
      go_wp2_with fail
      refine (fault_Unwrap (blk_alloc Hb.out _)).mono ?_
      rintro e w1 ⟨rfl, rfl⟩
      obtain ⟨tt, y, rfl⟩ := Hx.out.iface
      go_wp2_with fail
      go_round
      case rel => exact ⟨k, Hx.out⟩
      case measure => omega

theorem as_F {w : World} {b t a : Addr} {old : Value} (ht : w.cell? t = some old) (hf : w.frozen? t = false) (ha : w.cell? a = some (.pointer (some t))) :
    Calls Tryz.prog 88 #[.iface 106 (.pointer (some b)), .iface 108 (.pointer (some t)), .agg #[.pointer (some ⟨5, 108, none⟩), .pointer (some a), .int .u64 150], .iface 203 (.agg #[.pointer (some ⟨5, 106, none⟩)])] w fun e w' => e = .returned (.bool true) ∧ w'.cell? t = some (.pointer (some b)) ∧ Kp (fun k => k = t.block) w w' := by
  have h45 := @run_callFunc_extern Tryz.prog 89 _ ReflectliteType.typeOf Tryz.func89 (by kernel_rfl) (by kernel_rfl) (by kernel_rfl) (by kernel_rfl)
  have h105 := @run_callFunc_extern Tryz.prog 219 _ (ReflectliteType.relation "AssignableTo" ReflectliteType.assignableTo) Tryz.func219 (by kernel_rfl) (by kernel_rfl) (by kernel_rfl) (by kernel_rfl)
  have h41 := @run_callFunc_extern Tryz.prog 85 _ (fun args => ReflectliteValue.unpack (args.getD 0 (.tuple #[]))) Tryz.func85 (by kernel_rfl) (by kernel_rfl) (by kernel_rfl) (by kernel_rfl)
  have h56 := @run_callFunc_extern Tryz.prog 125 _ (ReflectliteValue.method (ReflectliteValue.valueError "reflectlite.Value.Elem" 0) ReflectliteValue.elem) Tryz.func125 (by kernel_rfl) (by kernel_rfl) (by kernel_rfl) (by kernel_rfl)
  have h57 := @run_callFunc_extern Tryz.prog 126 _ ReflectliteValue.set Tryz.func126 (by kernel_rfl) (by kernel_rfl) (by kernel_rfl) (by kernel_rfl)
  have tF := as_typeOfF
  have mA := as_mAssignable
  have aF := as_assignableF
  have hal := lt_cell ha
  have htl := lt_cell ht
  have vF := as_valueOfF
  have el := as_elemVPF a t (w.alloc (.cells #[.pointer (some ⟨5, 108, none⟩), .pointer (some a), .int .u64 150] 162)) (by rw [World.cell?_alloc_lt _ _ a hal]; exact ha)
  have st := as_setF t ⟨w.heap.size + 1, 0, none⟩ b old ((w.alloc (.cells #[.pointer (some ⟨5, 108, none⟩), .pointer (some a), .int .u64 150] 162)).alloc (.cells #[.pointer (some b)] 106))
    (by rw [World.cell?_alloc_at _ _ _ _ (by simp)]; rfl)
    (by rw [World.cell?_alloc_lt _ _ t (by simp; omega), World.cell?_alloc_lt _ _ t htl]; exact ht)
    (by rw [World.frozen?_alloc_old _ _ t (by simp; omega), World.frozen?_alloc_old _ _ t (Nat.ne_of_lt htl)]; exact hf)
  have Ht := Lib.hid ht
  clear ht hf ha
  go_enter Tryz.func88, Tryz.ntmps88
  go_wp2
  refine wp_loop_rounds 1 ?_
  rw [rounds_succ]
  go_wp2
  go_ret
  refine ⟨rfl, World.cell?_setCell_same _ _ _ (by rw [World.cell?_alloc_lt _ _ t (by simp; omega), World.cell?_alloc_lt _ _ t htl]; exact Ht.out), ?_⟩
  have k2 : Kp (fun k => k = t.block) w ((w.alloc (.cells #[.pointer (some ⟨5, 108, none⟩), .pointer (some a), .int .u64 150] 162)).alloc (.cells #[.pointer (some b)] 106)) := ((Kp.refl _ _).alloc _).alloc _
  exact k2.setCell (.inl rfl) _

/-- errors.As at a target of type *api.Errno. -/
theorem As_E {w : World} {v : Value} {l : List (ByteArray × ByteArray)} {n : Int} (hv : IsErr w v l n) (hg : Ge w) {t : Addr} {old : Value} (ht : w.cell? t = some old) (hf : w.frozen? t = false) :
    Calls Tryz.prog 49 #[v, .iface 134 (.pointer (some t))] w fun e w' => e = .returned (.bool true) ∧ w'.cell? t = some (.int .i64 n) ∧ Kp (fun k => k = t.block) w w' := by
  obtain ⟨tt, y, rfl⟩ := hv.iface
  have HAS := fun (W : World) (hk : Kp (fun _ => False) w W) (a : Addr) => @as_E W _ l n (hv.kp hk (FCl.none w)) t a old (hk.cell ht (fun h => h)) (hk.frz hf (lt_cell ht) (fun h => h))
  have HAS := Lib.hid HAS
  have h41 := @run_callFunc_extern Tryz.prog 85 _ (fun args => ReflectliteValue.unpack (args.getD 0 (.tuple #[]))) Tryz.func85 (by kernel_rfl) (by kernel_rfl) (by kernel_rfl) (by kernel_rfl)
  have h42 := @run_callFunc_extern Tryz.prog 86 _ (ReflectliteValue.methodAny (ReflectliteValue.valueError "reflectlite.Value.Type" 0) (fun t _ _ _ => ReflectliteType.toType t)) Tryz.func86 (by kernel_rfl) (by kernel_rfl) (by kernel_rfl) (by kernel_rfl)
  have h43 := @run_callFunc_extern Tryz.prog 87 _ (ReflectliteValue.method (ReflectliteValue.valueError "reflectlite.Value.IsNil" 0) ReflectliteValue.isNil) Tryz.func87 (by kernel_rfl) (by kernel_rfl) (by kernel_rfl) (by kernel_rfl)
  have hkd := @run_callFunc_extern Tryz.prog 207 _ (ReflectliteType.abiMethod fun t => do pure (.int .u8 (← Rtype.kind t))) Tryz.func207 (by kernel_rfl) (by kernel_rfl) (by kernel_rfl) (by kernel_rfl)
  have hel := @run_callFunc_extern Tryz.prog 221 _ (ReflectliteType.method ReflectliteType.elem) Tryz.func221 (by kernel_rfl) (by kernel_rfl) (by kernel_rfl) (by kernel_rfl)
  have him := @run_callFunc_extern Tryz.prog 222 _ (ReflectliteType.relation "Implements" ReflectliteType.implements_) Tryz.func222 (by kernel_rfl) (by kernel_rfl) (by kernel_rfl) (by kernel_rfl)
  have f41 := as_valueOfPE
  have f42 := as_typePE
  have mK := as_mKind
  have mE := as_mElem
  have mI := as_mImplements
  have kP := as_kindPE
  have kT := as_kindE
  have eP := as_elemPE
  have iT := as_implementsE
  have n8 := as_isNilPE ⟨w.heap.size, 0, none⟩ t ((w.alloc (.cells #[.pointer (some t)] 134)).alloc (.cells #[.pointer (some ⟨5, 134, none⟩), .pointer (some ⟨w.heap.size, 0, none⟩), .int .u64 150] 162)) (by rw [World.cell?_alloc_lt _ _ _ (by simp), World.cell?_alloc_at _ _ _ _ (by simp)]; rfl)
  have hlt := lt_cell hg
  have hg2 : ((w.alloc (.cells #[.pointer (some t)] 134)).alloc (.cells #[.pointer (some ⟨5, 134, none⟩), .pointer (some ⟨w.heap.size, 0, none⟩), .int .u64 150] 162)).cell? ⟨0, 0, none⟩ = some (.iface 203 (.agg #[.pointer (some ⟨5, 28, none⟩)])) := by
    rw [World.cell?_alloc_lt _ _ _ (by first | (simp; done) | (simp; exact Nat.lt_succ_of_lt hlt)), World.cell?_alloc_lt _ _ _ hlt]; exact hg
  have k2 : Kp (fun _ => False) w ((w.alloc (.cells #[.pointer (some t)] 134)).alloc (.cells #[.pointer (some ⟨5, 134, none⟩), .pointer (some ⟨w.heap.size, 0, none⟩), .int .u64 150] 162)) := ((Kp.refl _ _).alloc _).alloc _
  have Ht := Lib.hid ht
  clear hv ht hf hg
  go_enter Tryz.func49, Tryz.ntmps49
  go_wp2_with (go_at_call 88; refine (HAS.out _ k2 ⟨w.heap.size, 0, none⟩ (by rw [World.cell?_alloc_lt _ _ _ (by simp), World.cell?_alloc_at _ _ _ _ (by simp)]; rfl)).mono ?_; rintro e w1 ⟨rfl, hc, hk⟩)
  go_ret
  exact ⟨rfl, hc, (k2.mono (fun _ h => h.elim)).trans hk (Gr.refl _ _)⟩

/-- errors.As at a target of type **api.Fault. -/
theorem As_F {w : World} {v : Value} {p : ByteArray × ByteArray} {l : List (ByteArray × ByteArray)} {n : Int} (hv : IsErr w v (p :: l) n) (hg : Ge w) {t : Addr} {old : Value} (ht : w.cell? t = some old) (hf : w.frozen? t = false) :
    Calls Tryz.prog 49 #[v, .iface 108 (.pointer (some t))] w fun e w' => e = .returned (.bool true) ∧ (∃ b x, v = .iface 106 (.pointer (some ⟨b, 0, none⟩)) ∧ w.heap[b]? = some (.cells #[.string p.1, .string p.2, x] 110 (0, 0)) ∧ w'.cell? t = some (.pointer (some ⟨b, 0, none⟩))) ∧ Kp (fun k => k = t.block) w w' := by
  obtain ⟨b, x, rfl, hb, hx⟩ := hv
  have HAS := fun (W : World) (hk : Kp (fun _ => False) w W) (a : Addr) => @as_F W ⟨b, 0, none⟩ t a old (hk.cell ht (fun h => h)) (hk.frz hf (lt_cell ht) (fun h => h))
  have Hb := Lib.hid hb
  clear hb hx
  have HAS := Lib.hid HAS
  have h41 := @run_callFunc_extern Tryz.prog 85 _ (fun args => ReflectliteValue.unpack (args.getD 0 (.tuple #[]))) Tryz.func85 (by kernel_rfl) (by kernel_rfl) (by kernel_rfl) (by kernel_rfl)
  have h42 := @run_callFunc_extern Tryz.prog 86 _ (ReflectliteValue.methodAny (ReflectliteValue.valueError "reflectlite.Value.Type" 0) (fun t _ _ _ => ReflectliteType.toType t)) Tryz.func86 (by kernel_rfl) (by kernel_rfl) (by kernel_rfl) (by kernel_rfl)
  have h43 := @run_callFunc_extern Tryz.prog 87 _ (ReflectliteValue.method (ReflectliteValue.valueError "reflectlite.Value.IsNil" 0) ReflectliteValue.isNil) Tryz.func87 (by kernel_rfl) (by kernel_rfl) (by kernel_rfl) (by kernel_rfl)
  have hkd := @run_callFunc_extern Tryz.prog 207 _ (ReflectliteType.abiMethod fun t => do pure (.int .u8 (← Rtype.kind t))) Tryz.func207 (by kernel_rfl) (by kernel_rfl) (by kernel_rfl) (by kernel_rfl)
  have hel := @run_callFunc_extern Tryz.prog 221 _ (ReflectliteType.method ReflectliteType.elem) Tryz.func221 (by kernel_rfl) (by kernel_rfl) (by kernel_rfl) (by kernel_rfl)
  have him := @run_callFunc_extern Tryz.prog 222 _ (ReflectliteType.relation "Implements" ReflectliteType.implements_) Tryz.func222 (by kernel_rfl) (by kernel_rfl) (by kernel_rfl) (by kernel_rfl)
  have f41 := as_valueOfPF
  have f42 := as_typePF
  have mK := as_mKind
  have mE := as_mElem
  have mI := as_mImplements
  have kP := as_kindPF
  have kT := as_kindF
  have eP := as_elemPF
  have iT := as_implementsF
  have n8 := as_isNilPF ⟨w.heap.size, 0, none⟩ t ((w.alloc (.cells #[.pointer (some t)] 108)).alloc (.cells #[.pointer (some ⟨5, 108, none⟩), .pointer (some ⟨w.heap.size, 0, none⟩), .int .u64 150] 162)) (by rw [World.cell?_alloc_lt _ _ _ (by simp), World.cell?_alloc_at _ _ _ _ (by simp)]; rfl)
  have hlt := lt_cell hg
  have hg2 : ((w.alloc (.cells #[.pointer (some t)] 108)).alloc (.cells #[.pointer (some ⟨5, 108, none⟩), .pointer (some ⟨w.heap.size, 0, none⟩), .int .u64 150] 162)).cell? ⟨0, 0, none⟩ = some (.iface 203 (.agg #[.pointer (some ⟨5, 28, none⟩)])) := by
    rw [World.cell?_alloc_lt _ _ _ (by first | (simp; done) | (simp; exact Nat.lt_succ_of_lt hlt)), World.cell?_alloc_lt _ _ _ hlt]; exact hg
  have k2 : Kp (fun _ => False) w ((w.alloc (.cells #[.pointer (some t)] 108)).alloc (.cells #[.pointer (some ⟨5, 108, none⟩), .pointer (some ⟨w.heap.size, 0, none⟩), .int .u64 150] 162)) := ((Kp.refl _ _).alloc _).alloc _
  have Ht := Lib.hid ht
  clear ht hf hg
  go_enter Tryz.func49, Tryz.ntmps49
  go_wp2_with (go_at_call 88; refine (HAS.out _ k2 ⟨w.heap.size, 0, none⟩ (by rw [World.cell?_alloc_lt _ _ _ (by simp), World.cell?_alloc_at _ _ _ _ (by simp)]; rfl)).mono ?_; rintro e w1 ⟨rfl, hc, hk⟩)
  go_ret
  exact ⟨rfl, ⟨b, x, rfl, Hb.out, hc⟩, (k2.mono (fun _ h => h.elim)).trans hk (Gr.refl _ _)⟩
end Go.Proofs.YthjbpbahcemfgaaGreatDoor
