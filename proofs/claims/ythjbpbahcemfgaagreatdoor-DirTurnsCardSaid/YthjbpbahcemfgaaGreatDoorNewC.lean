/- The cache: what is refused by Write; Drop. -/
/- The cache: Read refused; the statements' Fill. -/
/- A new cache. -/
import Derived.Test.YthjbpbahcemfgaaGreatDoorCacheW
namespace Go.Proofs.YthjbpbahcemfgaaGreatDoor
open Go.RowKit
set_option maxHeartbeats 1000000
set_option maxRecDepth 20000

/-- The cache behind a Drop. -/
def CSt.drop (C : CSt) : CSt := { C with ch := [] }
theorem run_clear_map {T K E : TypeId} {w : World} {bm clock : Nat} {es : Array MapEntry} {ty : TypeId} (hT : Tryz.prog.underlying T = some (.map K E)) (hb : w.heap[bm]? = some (.map es clock)) :
    (Builtin.clear_ #[T] ty #[.map (some bm)]).run Tryz.prog w = .ok (.tuple #[]) { w with heap := w.heap.setIfInBounds bm (.map #[] clock) } := by
  simp [Builtin.clear_, run_underlying hT, Result.andThen, getObj, setObj, Sem.run, hb]

theorem DRep.atMap {w : World} {bd bm cl cl' : Nat} {es es' : Array MapEntry} {D : DSt} {F : Nat → Prop} (h : DRep w bd D F) (hm : w.heap[bm]? = some (.map es cl)) (hF : F bm) : DRep (putO w bm (.map es' cl')) bd D F := by
  obtain ⟨⟨bl, rows, h1, h2, h3, h4, h5⟩, ho, hl, hf, hg, hh, hc⟩ := h
  have hk := putO_kp w bm (.map es' cl')
  have hb : ∀ {b : Nat} {o : Obj}, w.heap[b]? = some o → (∀ a c, o ≠ .map a c) → (putO w bm (.map es' cl')).heap[b]? = some o := fun {b o} hb hne => hk.blk hb (by rintro rfl; rw [hm] at hb; cases hb; exact hne _ _ rfl)
  refine ⟨⟨bl, rows, hb h1 (by simp), hb h2 (by simp), h3, h4, fun i hi => ?_⟩, ho, fun i hi => hk.lt (hl i hi), hf, hg.kp hk (fun i e => hh i ((show i = bm from e) ▸ hF)), hh, fun i hi cs fr hx => ?_⟩
  · obtain ⟨v, a, b⟩ := h5 i hi
    refine ⟨v, a, ?_⟩
    rcases b with b | ⟨g, c, e1, e2, e3, e4, e5, e6⟩
    · exact .inl b
    · refine .inr ⟨g, c, e1, e2, e3.kp hk ?_, e4, e5, e6⟩
      rintro rfl
      obtain ⟨cs, _, hb, _⟩ := e3
      rw [hm] at hb; cases hb
  · by_cases e : i = bm
    · subst e
      rw [putO_same (hl _ hi)] at hx; cases hx
    · rw [hk.block i (hl i hi) e] at hx
      exact hc i hi cs fr hx
theorem CRep.cleared {w : World} {bc bj bm bd cl : Nat} {es : Array MapEntry} {C : CSt} {F : Nat → Prop} (h : CRep w bc bj bm bd C F) (hm : w.heap[bm]? = some (.map es cl)) : CRep (putO w bm (.map #[] cl)) bc bj bm bd C.drop F := by
  have hk := putO_kp w bm (.map #[] cl)
  have hb : ∀ {b : Nat} {o : Obj}, w.heap[b]? = some o → (∀ a c, o ≠ .map a c) → (putO w bm (.map #[] cl)).heap[b]? = some o := fun {b o} hb hne => hk.blk hb (by rintro rfl; rw [hm] at hb; cases hb; exact hne _ _ rfl)
  exact ⟨hb h.cblk (by simp), hb h.jblk (by simp), ⟨#[], cl, putO_same (lt_blk hm), Keys.nil, fun i no hi => by simp [CSt.drop] at hi⟩, h.own, h.disk.atMap hm h.own.2.2, List.nodup_nil, fun no hn => by simp [CSt.drop] at hn, ⟨Nat.zero_le _, h.few.2⟩, ⟨#[], cl, putO_same (lt_blk hm), St.nil _⟩⟩

theorem cache_Write_big {w : World} {bc bj bm bd : Nat} {C : CSt} {F : Nat → Prop} (h : CRep w bc bj bm bd C F) (n p : Nat) (h1 : n < C.blocks)
    (v : Value) (ys : List Int) (hv : Sl w v ys) (h3 : p + ys.length ≤ 128) (hin : n ∉ C.ch) (hbig : C.most ≤ C.ch.length) (hr : (n : Int) ≤ 9223372036854775807) :
    Calls Tryz.prog 94 #[.pointer (some ⟨bc, 0, none⟩), .int .i64 n, .int .i64 p, v] w fun e w' => ∃ v, e = .returned v ∧ IsErr w' v [(tx [99, 97, 99, 104, 101], tx (Lib.itoa n))] 5 ∧ Kp (fun _ => False) w w' := by
  obtain ⟨A, cv, rfl, hv1, hv2, hv3⟩ := id hv
  have hC := cell_blk h.cblk 0
  have hM := cell_blk h.cblk 2
  simp at hC hM
  obtain ⟨es, cl, hm1, hm2, hm3⟩ := h.mblk
  have hfew := h.few
  have hfw := h.disk.few
  have H := Lib.hid h
  have hlk := run_lookup_no (w := w) (E := 52) Tryz.underlying127 (zero_bytes w) hm1 hm2 (n : Int) (not_in hin)
  have hsz : es.size = C.ch.length := hm2.size
  have HL := Lib.hid hlk
  have hlt2 : decide ((C.most : Int) ≤ (C.ch.length : Int)) = true := by simp; omega
  clear hlk h hm2 hm3 hv hv3 hin
  go_enter Tryz.func94, Tryz.ntmps94
  go_wp2_with (first | (at_lookup; refine wpList_lookup_run rfl _ _ _ _ rfl _ _ _ rfl rfl HL.out ?_) | (go_at_call 128; refine (cache_there H.out _ (by omega) (by omega)).mono ?_; rintro e w1 ⟨rfl, rfl⟩))
  have hsz' : (es.size : Int) = (C.ch.length : Int) := by omega
  have hlenN : ∀ nq, (Builtin.len_ #[127] 3 #[.map (some bm)]).run Tryz.prog (w.drewN nq) = .ok (.int .i64 (C.ch.length : Int)) (w.drewN nq) := fun nq => by
    have := run_len_map (w := w.drewN nq) (ty := 3) Tryz.underlying127 hm1
    rw [this, hsz]
  go_quiet ((go_at_call 129; exact Calls.quiet_of_same ((journal_Most (by exact H.out.jblk)).mono fun _ _ h => ⟨h.1, h.2.symm⟩)))
  clear hlenN
  go_wp2_with fail
  refine (cache_wrong _ _ _ (H.out.kp0 ((Kp.refl _ _).drewN _)).disk.gl (by omega) (by omega) (by decide)).mono ?_
  rintro e w1 ⟨v5, rfl, hv5, hk5⟩
  replace hv5 := Lib.hid hv5
  replace hk5 := Lib.hid hk5
  go_wp2_with fail
  go_ret
  exact ⟨v5, rfl, hv5.out, ((Kp.refl _ _).drewN _).trans hk5.out (Gr.refl _ _)⟩
end Go.Proofs.YthjbpbahcemfgaaGreatDoor
namespace Go.Proofs.YthjbpbahcemfgaaGreatDoor
open Go.RowKit
set_option maxHeartbeats 1000000
set_option maxRecDepth 20000

theorem cache_Read_bad {w : World} {bc bj bm bd : Nat} {C : CSt} {F : Nat → Prop} (h : CRep w bc bj bm bd C F) (no : Int) (h0 : no < 0 ∨ (C.blocks : Int) ≤ no) (hr0 : -9223372036854775808 ≤ no) (hr : no ≤ 9223372036854775807) :
    Calls Tryz.prog 96 #[.pointer (some ⟨bc, 0, none⟩), .int .i64 no] w fun e w' => ∃ v, e = .returned (.tuple #[.slice none 0 0, v]) ∧ IsErr w' v [(tx [99, 97, 99, 104, 101], tx (Lib.itoa no))] 1 ∧ Kp (fun _ => False) w w' := by
  have H := Lib.hid h
  clear h
  go_enter Tryz.func96, Tryz.ntmps96
  go_wp2_with fail
  refine (cache_there_no H.out no h0).mono ?_
  rintro e w1 ⟨rfl, rfl⟩
  go_wp2_with fail
  refine (cache_wrong _ _ _ H.out.disk.gl hr0 hr (by decide)).mono ?_
  rintro e w1 ⟨v5, rfl, hv5, hk5⟩
  replace hv5 := Lib.hid hv5
  replace hk5 := Lib.hid hk5
  go_wp2_with fail
  go_ret2
  exact ⟨v5, rfl, hv5.out, hk5.out⟩
end Go.Proofs.YthjbpbahcemfgaaGreatDoor
namespace Go.Proofs.YthjbpbahcemfgaaGreatDoor
open Go.RowKit
set_option maxHeartbeats 1000000
set_option maxRecDepth 20000

/-- A cache in which nothing was changed. -/
def CSt.new (D : DSt) (at_ most blocks : Nat) : CSt := { D := D, jat := at_, most := most, blocks := blocks, ch := [], cont := fun _ => [] }

theorem cache_New_ok {w : World} {bd bj at_ most : Nat} {D : DSt} {F : Nat → Prop} (h : DRep w bd D F) (hj : JBlk w bj bd at_ most) (hbj : NG ≤ bj) (n : Int) (h0 : 1 ≤ n) (h1 : n ≤ D.n) (hm : most ≤ 200) :
    Calls Tryz.prog 72 #[.pointer (some ⟨bj, 0, none⟩), .int .i64 n] w fun e w' => ∃ bc bm F', e = .returned (.tuple #[.pointer (some ⟨bc, 0, none⟩), .nilIface]) ∧ CRep w' bc bj bm bd (CSt.new D at_ most n.toNat) F' ∧ Kp (fun _ => False) w w' ∧ (∀ k, F' k → F k ∨ k = bj ∨ w.heap.size ≤ k) := by
  obtain ⟨m, rfl⟩ := Int.eq_ofNat_of_zero_le (show 0 ≤ n by omega)
  have H := Lib.hid h
  have Hj := Lib.hid hj
  have Hb := Lib.hid hbj
  have hmm := @run_makeMap Tryz.prog
  clear h hj hbj
  go_enter Tryz.func72, Tryz.ntmps72
  go_wp2
  go_ret2
  obtain ⟨X, hX⟩ : ∃ X, X = Obj.cells #[.pointer (some ⟨bj, 0, none⟩), .int .i64 (m : Int), .map (some w.heap.size)] 129 := ⟨_, rfl⟩
  obtain ⟨M, hM⟩ : ∃ M, M = Obj.map #[] 0 := ⟨_, rfl⟩
  refine ⟨w.heap.size + 1, w.heap.size, fun k => F k ∨ k = bj ∨ k = w.heap.size ∨ k = w.heap.size + 1, rfl, ?_⟩
  show CRep ((w.alloc (Obj.map #[] 0)).alloc (Obj.cells #[.pointer (some ⟨bj, 0, none⟩), .int .i64 (m : Int), .map (some w.heap.size)] 129)) _ _ _ _ _ _ ∧ Kp _ _ ((w.alloc (Obj.map #[] 0)).alloc (Obj.cells #[.pointer (some ⟨bj, 0, none⟩), .int .i64 (m : Int), .map (some w.heap.size)] 129)) ∧ _
  rw [← hX, ← hM]
  have kp : Kp (fun _ => False) w ((w.alloc M).alloc X) := ((Kp.refl _ _).alloc _).alloc _
  have e1 := new_blk w M
  have e2 := new_blk (w.alloc M) X
  have s1 := size_alloc w M
  have s2 := size_alloc (w.alloc M) X
  rw [s1] at e2 s2
  have e3 := (Kp.alloc (F := fun _ => False) (Kp.refl _ (w.alloc M)) X).blk e1 (fun h => h)
  have hjl := lt_blk Hj.out
  have hd := H.out.kp0 kp
  obtain ⟨⟨bl, rows, a1, a2, a3, a4, a5⟩, ho, hl, hf, hg, hh, hc⟩ := hd
  have hw := H.out.lt
  refine ⟨⟨by rw [e2, hX]; rfl, kp.blk Hj.out (fun h => h), ⟨#[], 0, by rw [e3, hM], Keys.nil, fun i no hi => by simp [CSt.new] at hi⟩, ⟨.inr (.inr (.inr rfl)), .inr (.inl rfl), .inr (.inr (.inl rfl))⟩, ⟨⟨bl, rows, a1, a2, a3, .inl a4, fun i hi => ?_⟩, .inl ho, ?_, hf, hg, ?_, ?_⟩, by simp [CSt.new], by simp [CSt.new], by simp [CSt.new]; omega, ⟨#[], 0, by rw [e3, hM], St.nil _⟩⟩, kp, ?_⟩
  · obtain ⟨v, hv, hr⟩ := a5 i hi
    refine ⟨v, hv, ?_⟩
    rcases hr with hz | ⟨g', c', e1, e2, e3, e4, e5, e6⟩
    · exact .inl hz
    · exact .inr ⟨g', c', e1, e2, e3, .inl e4, e5, e6⟩
  · rintro k (hk | rfl | rfl | rfl)
    · exact hl k hk
    all_goals omega
  · have := Hb.out
    have := hh _ ho
    rintro k (hk | rfl | rfl | rfl)
    · exact hh k hk
    all_goals omega
  · rintro k (hk | rfl | rfl | rfl) cs fr hcs
    · exact hc k hk cs fr hcs
    · rw [kp.blk Hj.out (fun h => h)] at hcs; simp at hcs
    · rw [e3, hM] at hcs; cases hcs
    · rw [e2, hX] at hcs; simp at hcs
  · rintro k (hk | rfl | rfl | rfl)
    · exact .inl hk
    · exact .inr (.inl rfl)
    · exact .inr (.inr (by omega))
    · exact .inr (.inr (by omega))

theorem Kp.over {F : Nat → Prop} {w w1 w2 : World} (h : Kp (fun _ => False) w w1) (k : Kp F w1 w2) (hf : ∀ i, F i → w.heap.size ≤ i) : Kp (fun _ => False) w w2 :=
  ⟨k.os.trans h.os, k.tape.trans h.tape, k.output.trans h.output, Nat.le_trans h.size k.size, fun i hi _ => (k.block i (Nat.lt_of_lt_of_le hi h.size) (fun hF => by have := hf i hF; omega)).trans (h.block i hi (fun h => h))⟩
theorem Gr.over {F F' : Nat → Prop} {n m : Nat} (h : Gr F F' n) (hf : ∀ i, F i → m ≤ i) (hm : m ≤ n) : ∀ i, F' i → m ≤ i := fun i hi => by
  rcases h i hi with h1 | h1
  · exact hf i h1
  · omega
theorem new_view {n at_ most blocks : Nat} (k : Nat) : (CSt.new (DSt.new n) at_ most blocks).view k = zs 128 := rfl
theorem nodup_le (m : Nat) : ∀ (l : List Nat), l.Nodup → (∀ x ∈ l, x < m) → l.length ≤ m := by
  induction m with
  | zero =>
    intro l _ h
    cases l with
    | nil => simp
    | cons a l => exact absurd (h a List.mem_cons_self) (by omega)
  | succ m ih =>
    intro l hn h
    have h1 := ih (l.erase m) (hn.erase m) (fun x hx => by
      have h2 := (hn.mem_erase_iff).1 hx
      have := h x h2.2
      have := h2.1
      omega)
    rw [List.length_erase] at h1
    split at h1 <;> omega
theorem room_of {C : CSt} {w : World} {bc bj bm bd : Nat} {F : Nat → Prop} (h : CRep w bc bj bm bd C F) {m : Nat} (hm : ∀ x ∈ C.ch, x < m) (hlt : m < C.most) : C.ch.length < C.most := by
  have := nodup_le m _ h.nd hm
  omega
end Go.Proofs.YthjbpbahcemfgaaGreatDoor
