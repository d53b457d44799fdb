/- The cache: what is refused by Write; Drop. -/
import Derived.Test.YtmafihodbbagbaaGreatDoorCacheW
namespace Go.Proofs.YtmafihodbbagbaaGreatDoor
open Go.RowKit
set_option maxHeartbeats 1000000
set_option maxRecDepth 20000

/-- The cache behind a Drop. -/
def CSt.drop (C : CSt) : CSt := { C with ch := [] }
theorem run_clear_map {T K E : TypeId} {w : World} {bm clock : Nat} {es : Array MapEntry} {ty : TypeId} (hT : Tryz.prog.underlying T = some (.map K E)) (hb : w.heap[bm]? = some (.map es clock)) :
    (Builtin.clear_ #[T] ty #[.map (some bm)]).run Tryz.prog w = .ok (.tuple #[]) { w with heap := w.heap.setIfInBounds bm (.map #[] clock) } := by
  simp [Builtin.clear_, run_underlying hT, Result.andThen, getObj, setObj, Sem.run, hb]

theorem DRep.atMap {w : World} {bd bm cl cl' : Nat} {es es' : Array MapEntry} {D : DSt} {F : Nat → Prop} (h : DRep w bd D F) (hm : w.heap[bm]? = some (.map es cl)) (hF : F bm) : DRep (putO w bm (.map es' cl')) bd D F := by
  obtain ⟨⟨bl, rows, h1, h2, h3, h4, h5⟩, ho, hl, hf, hg, hh, hc⟩ := h
  have hk := putO_kp w bm (.map es' cl')
  have hb : ∀ {b : Nat} {o : Obj}, w.heap[b]? = some o → (∀ a c, o ≠ .map a c) → (putO w bm (.map es' cl')).heap[b]? = some o := fun {b o} hb hne => hk.blk hb (by rintro rfl; rw [hm] at hb; cases hb; exact hne _ _ rfl)
  refine ⟨⟨bl, rows, hb h1 (by simp), hb h2 (by simp), h3, h4, fun i hi => ?_⟩, ho, fun i hi => hk.lt (hl i hi), hf, hg.kp hk (fun i e => hh i ((show i = bm from e) ▸ hF)), hh, fun i hi cs fr hx => ?_⟩
  · obtain ⟨v, a, b⟩ := h5 i hi
    refine ⟨v, a, ?_⟩
    rcases b with b | ⟨g, c, e1, e2, e3, e4, e5, e6⟩
    · exact .inl b
    · refine .inr ⟨g, c, e1, e2, e3.kp hk ?_, e4, e5, e6⟩
      rintro rfl
      obtain ⟨cs, _, hb, _⟩ := e3
      rw [hm] at hb; cases hb
  · by_cases e : i = bm
    · subst e
      rw [putO_same (hl _ hi)] at hx; cases hx
    · rw [hk.block i (hl i hi) e] at hx
      exact hc i hi cs fr hx
theorem CRep.cleared {w : World} {bc bj bm bd cl : Nat} {es : Array MapEntry} {C : CSt} {F : Nat → Prop} (h : CRep w bc bj bm bd C F) (hm : w.heap[bm]? = some (.map es cl)) : CRep (putO w bm (.map #[] cl)) bc bj bm bd C.drop F := by
  have hk := putO_kp w bm (.map #[] cl)
  have hb : ∀ {b : Nat} {o : Obj}, w.heap[b]? = some o → (∀ a c, o ≠ .map a c) → (putO w bm (.map #[] cl)).heap[b]? = some o := fun {b o} hb hne => hk.blk hb (by rintro rfl; rw [hm] at hb; cases hb; exact hne _ _ rfl)
  exact ⟨hb h.cblk (by simp), hb h.jblk (by simp), ⟨#[], cl, putO_same (lt_blk hm), Keys.nil, fun i no hi => by simp [CSt.drop] at hi⟩, h.own, h.disk.atMap hm h.own.2.2, List.nodup_nil, fun no hn => by simp [CSt.drop] at hn, ⟨Nat.zero_le _, h.few.2⟩, ⟨#[], cl, putO_same (lt_blk hm), St.nil _⟩⟩

theorem cache_Drop_ok {w : World} {bc bj bm bd : Nat} {C : CSt} {F : Nat → Prop} (h : CRep w bc bj bm bd C F) :
    Calls Tryz.prog 13 #[.pointer (some ⟨bc, 0, none⟩)] w fun e w' => e = .returned (.tuple #[]) ∧ CRep w' bc bj bm bd C.drop F ∧ Kp F w w' := by
  have hM := cell_blk h.cblk 2
  simp at hM
  obtain ⟨es, cl, hm1, hm2, hm3⟩ := h.mblk
  have hcl := run_clear_map (w := w) (ty := 0) Tryz.underlying66 hm1
  have H := Lib.hid h
  have Hm1 := Lib.hid hm1
  clear h hm1 hm2 hm3
  go_enter Tryz.func13, Tryz.ntmps13
  go_wp2
  go_end0
  exact ⟨rfl, H.out.cleared Hm1.out, (putO_kp w bm _).mono (fun i e => (show i = bm from e) ▸ H.out.own.2.2)⟩

theorem cache_Write_big {w : World} {bc bj bm bd : Nat} {C : CSt} {F : Nat → Prop} (h : CRep w bc bj bm bd C F) (n p : Nat) (h1 : n < C.blocks)
    (v : Value) (ys : List Int) (hv : Sl w v ys) (h3 : p + ys.length ≤ 128) (hin : n ∉ C.ch) (hbig : C.most ≤ C.ch.length) (hr : (n : Int) ≤ 9223372036854775807) :
    Calls Tryz.prog 10 #[.pointer (some ⟨bc, 0, none⟩), .int .i64 n, .int .i64 p, v] w fun e w' => ∃ v, e = .returned v ∧ IsErr w' v [(tx [99, 97, 99, 104, 101], tx (Lib.itoa n))] 5 ∧ Kp (fun _ => False) w w' := by
  obtain ⟨A, cv, rfl, hv1, hv2, hv3⟩ := id hv
  have hC := cell_blk h.cblk 0
  have hM := cell_blk h.cblk 2
  simp at hC hM
  obtain ⟨es, cl, hm1, hm2, hm3⟩ := h.mblk
  have hfew := h.few
  have hfw := h.disk.few
  have H := Lib.hid h
  have hlk := run_lookup_no (w := w) (E := 29) Tryz.underlying66 (zero_bytes w) hm1 hm2 (n : Int) (not_in hin)
  have hsz : es.size = C.ch.length := hm2.size
  have HL := Lib.hid hlk
  have hlt2 : decide ((C.most : Int) ≤ (C.ch.length : Int)) = true := by simp; omega
  clear hlk h hm2 hm3 hv hv3 hin
  go_enter Tryz.func10, Tryz.ntmps10
  go_wp2_with (first | (at_lookup; refine wpList_lookup_run rfl _ _ _ _ rfl _ _ _ rfl rfl HL.out ?_) | (go_at_call 27; refine (cache_there H.out _ (by omega) (by omega)).mono ?_; rintro e w1 ⟨rfl, rfl⟩))
  have hsz' : (es.size : Int) = (C.ch.length : Int) := by omega
  have hlenN : ∀ nq, (Builtin.len_ #[66] 3 #[.map (some bm)]).run Tryz.prog (w.drewN nq) = .ok (.int .i64 (C.ch.length : Int)) (w.drewN nq) := fun nq => by
    have := run_len_map (w := w.drewN nq) (ty := 3) Tryz.underlying66 hm1
    rw [this, hsz]
  go_quiet ((go_at_call 29; exact Calls.quiet_of_same ((journal_Most (by exact H.out.jblk)).mono fun _ _ h => ⟨h.1, h.2.symm⟩)))
  clear hlenN
  go_wp2_with fail
  refine (cache_wrong _ _ _ (H.out.kp0 ((Kp.refl _ _).drewN _)).disk.gl (by omega) (by omega) (by decide)).mono ?_
  rintro e w1 ⟨v5, rfl, hv5, hk5⟩
  replace hv5 := Lib.hid hv5
  replace hk5 := Lib.hid hk5
  go_wp2_with fail
  go_ret
  exact ⟨v5, rfl, hv5.out, ((Kp.refl _ _).drewN _).trans hk5.out (Gr.refl _ _)⟩
end Go.Proofs.YtmafihodbbagbaaGreatDoor
