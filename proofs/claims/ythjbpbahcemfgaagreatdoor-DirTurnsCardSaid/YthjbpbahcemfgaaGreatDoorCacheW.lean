/- The cache: Write, on a disk that lives. -/
import Derived.Test.YthjbpbahcemfgaaGreatDoorCache
namespace Go.Proofs.YthjbpbahcemfgaaGreatDoor
open Go.RowKit
set_option maxHeartbeats 1000000
set_option maxRecDepth 20000

/-- The cache behind a write. -/
def CSt.wr (C : CSt) (no off : Nat) (ys : List Int) : CSt :=
  { C with ch := if no ∈ C.ch then C.ch else C.ch ++ [no], cont := fun k => if k = no then splice (C.view no) off ys else C.cont k }

theorem Tryz.sizeU8 (w : World) : (sizeOf 5).run Tryz.prog w = .ok 1 w := by kernel_rfl
theorem nmin_l (a b : Nat) : Nat.min a b ≤ a := Nat.min_le_left a b
theorem nmin_r (a b : Nat) : Nat.min a b ≤ b := Nat.min_le_right a b
theorem if_addr {dp : Addr} {g n c : Nat} (h : dp = if c = n then ⟨g, 0, none⟩ else (⟨g, 0, none⟩ : Addr).add (n * 1)) (hn : n < c) : dp = ⟨g, n, none⟩ := by
  rw [h, if_neg (by omega)]; unfold Addr.add; split
  · simp_all
  · simp

/-- The world behind Write's last statement. -/
theorem cw_fin {w w1 w2 w3 : World} {bc bj bm bd g n off c1 : Nat} {C : CSt} {F : Nat → Prop} {ys : List Int} {rest : List Value} {es es' : Array MapEntry} {cl cl' : Nat} (h : CRep w bc bj bm bd C F)
    (hk1 : Kp (fun _ => False) w w1) (hg : w.heap.size ≤ g) (hg1 : g < w1.heap.size) (hk2 : Kp (fun k => k = g) w1 w2) (hr : RowR w2 g (splice (C.view n) off ys) rest) (hlen : (splice (C.view n) off ys).length = 128) (hc1 : 128 ≤ c1) (hc2 : c1 ≤ maxLen)
    (hn : n < C.blocks) (hw3 : w3 = putO w2 bm (.map es' cl')) (hes : w.heap[bm]? = some (.map es cl)) (hkeys : Keys es C.ch) (hold : ∀ (i no : Nat), C.ch[i]? = some no → ∃ e : MapEntry, es[i]? = some e ∧ RowS w F e.val (C.cont no))
    (hcase : (n ∈ C.ch ∧ ∃ j, C.ch[j]? = some n ∧ es' = (es.modify j fun e => { e with key := .int .i64 n, val := .slice (some ⟨g, 0, none⟩) 128 c1 }) ∧ cl' = cl) ∨
      (n ∉ C.ch ∧ C.ch.length < C.most ∧ es' = es.push { key := .int .i64 n, val := .slice (some ⟨g, 0, none⟩) 128 c1, born := cl } ∧ cl' = cl + 1)) :
    ∃ F', CRep w3 bc bj bm bd (C.wr n off ys) F' ∧ Kp F w w3 ∧ Gr F F' w.heap.size := by
  have hbm : bm < w.heap.size := lt_blk hes
  have s1 := hk1.size
  have s2 := hk2.size
  subst hw3
  have hk3 := putO_kp w2 bm (.map es' cl')
  have hkk : Kp (fun k => k = bm) w (putO w2 bm (.map es' cl')) := by
    refine (Kp.trans (F1 := fun k => k = g) (hk1.mono (fun _ h => h.elim)) hk2 (fun k hk => .inr (by simp only [] at hk; omega))).trans hk3 (Gr.refl _ _)
  have hrg : RowR (putO w2 bm (.map es' cl')) g (splice (C.view n) off ys) rest := hr.kp hk3 (by omega)
  have hkF : Kp F w (putO w2 bm (.map es' cl')) := hkk.mono (by rintro k rfl; exact h.own.2.2)
  have hrow : ∀ {v : Value} {xs : List Int}, RowS w F v xs → RowS (putO w2 bm (.map es' cl')) (fun k => F k ∨ k = g) v xs := fun {v xs} hx => by
    obtain ⟨g', c', e1, e2, e3, e4, e5, e6⟩ := hx
    refine ⟨g', c', e1, e2, e3, e4.kp hkk ?_, .inl e5, e6⟩
    rintro rfl
    obtain ⟨cs, _, hb, _⟩ := e4
    rw [hes] at hb; cases hb
  have hbmF : ∀ {b : Nat} {o : Obj}, w.heap[b]? = some o → (∀ a c, o ≠ .map a c) → (putO w2 bm (.map es' cl')).heap[b]? = some o := fun {b o} hb hne => hkk.blk hb (by rintro rfl; rw [hes] at hb; cases hb; exact hne _ _ rfl)
  have hmem : ∀ k, k ∈ (C.wr n off ys).ch ↔ k ∈ C.ch ∨ k = n := by
    intro k
    simp only [CSt.wr]
    split
    · constructor
      · exact .inl
      · rintro (h | rfl) <;> assumption
    · simp
  have hnew : RowS (putO w2 bm (.map es' cl')) (fun k => F k ∨ k = g) (.slice (some ⟨g, 0, none⟩) 128 c1) ((C.wr n off ys).cont n) := by
    refine ⟨g, c1, rfl, hc1, hc2, ?_, .inr rfl, ?_⟩
    · simp only [CSt.wr, if_pos]; exact hrg.row
    · simp only [CSt.wr, if_pos]; exact hlen
  refine ⟨fun k => F k ∨ k = g, ⟨hbmF h.cblk (by simp), hbmF h.jblk (by simp), ⟨es', cl', putO_same (by omega), ?_, ?_⟩, ⟨.inl h.own.1, .inl h.own.2.1, .inl h.own.2.2⟩, ?_, ?_, ?_, ?_, ?_⟩, hkF, ?_⟩
  · rcases hcase with ⟨hin, j, hj, rfl, _⟩ | ⟨hin, _, rfl, _⟩
    · simp only [CSt.wr, if_pos hin]
      obtain ⟨e, he, hke⟩ := hkeys.at hj
      unfold Keys at hkeys ⊢
      rw [← hkeys]
      apply List.ext_getElem?
      intro i
      simp only [List.getElem?_map, Array.getElem?_toList, Array.getElem?_modify]
      by_cases hij : j = i
      · subst hij; simp [he, hke]
      · simp [hij]
    · simp only [CSt.wr, if_neg hin]
      exact hkeys.push _ _ _
  · intro i no hi
    rcases hcase with ⟨hin, j, hj, rfl, _⟩ | ⟨hin, _, rfl, _⟩
    · simp only [CSt.wr, if_pos hin] at hi
      obtain ⟨e, he, hr⟩ := hold i no hi
      by_cases hij : j = i
      · subst hij
        rw [hj] at hi; cases hi
        exact ⟨{ e with key := .int .i64 (n : Int), val := .slice (some ⟨g, 0, none⟩) 128 c1 }, by simp [Array.getElem?_modify, he], hnew⟩
      · refine ⟨e, by simp [Array.getElem?_modify, hij, he], ?_⟩
        have : no ≠ n := fun e => hij (by
          subst e
          exact (List.getElem?_inj (List.getElem?_eq_some_iff.1 hj).1 h.nd).1 (hj.trans hi.symm))
        simp only [CSt.wr, if_neg this]
        exact hrow hr
    · simp only [CSt.wr, if_neg hin] at hi
      rw [List.getElem?_append] at hi
      split at hi
      · rename_i hlt
        obtain ⟨e, he, hr⟩ := hold i no hi
        have hne : no ≠ n := fun e => hin (e ▸ List.mem_of_getElem? hi)
        refine ⟨e, ?_, ?_⟩
        · rw [Array.getElem?_push, if_neg (by rw [hkeys.size]; omega)]; exact he
        · simp only [CSt.wr, if_neg hne]; exact hrow hr
      · rename_i hlt
        have hi' : i = C.ch.length := by
          have := (List.getElem?_eq_some_iff.1 hi).1; simp at this; omega
        subst hi'
        simp at hi
        subst hi
        exact ⟨_, by rw [Array.getElem?_push, if_pos (by rw [hkeys.size])], hnew⟩
  · have hd : DRep (putO w2 bm (.map es' cl')) bd C.D (fun k => F k) := by
      obtain ⟨⟨bl, rows, h1, h2, h3, h4, h5⟩, ho, hl, hf, hgl, hh, hcl⟩ := h.disk
      refine ⟨⟨bl, rows, hbmF h1 (by simp), hbmF h2 (by simp), h3, h4, fun i hi => ?_⟩, ho, fun k hk => by have := hl k hk; have := hkk.size; omega, hf, hgl.kp hkF hh, hh, ?_⟩
      · obtain ⟨v, hv, hrv⟩ := h5 i hi
        refine ⟨v, hv, ?_⟩
        rcases hrv with hz | ⟨g', c', e1, e2, e3, e4, e5, e6⟩
        · exact .inl hz
        · refine .inr ⟨g', c', e1, e2, e3.kp hkk ?_, e4, e5, e6⟩
          rintro rfl
          obtain ⟨cs, _, hb, _⟩ := e3
          rw [hes] at hb; cases hb
      · intro k hk cs fr hcs
        by_cases e : k = bm
        · subst e; rw [putO_same (by omega)] at hcs; cases hcs
        · rw [hkk.block k (hl k hk) e] at hcs; exact hcl k hk cs fr hcs
    obtain ⟨⟨bl, rows, h1, h2, h3, h4, h5⟩, ho, hl, hf, hgl, hh, hcl⟩ := hd
    have hgz : g < (putO w2 bm (.map es' cl')).heap.size := hrg.row.lt
    refine ⟨⟨bl, rows, h1, h2, h3, .inl h4, fun i hi => ?_⟩, .inl ho, ?_, hf, hgl, ?_, ?_⟩
    · obtain ⟨v, hv, hrv⟩ := h5 i hi
      refine ⟨v, hv, ?_⟩
      rcases hrv with hz | ⟨g', c', e1, e2, e3, e4, e5, e6⟩
      · exact .inl hz
      · exact .inr ⟨g', c', e1, e2, e3, .inl e4, e5, e6⟩
    · rintro k (hk | rfl)
      · exact hl k hk
      · exact hgz
    · rintro k (hk | rfl)
      · exact hh k hk
      · have := hh _ h.own.1; have := lt_blk h.cblk; omega
    · rintro k (hk | rfl) cs fr hcs
      · exact hcl k hk cs fr hcs
      · rw [hrg] at hcs; simp at hcs
  · simp only [CSt.wr]
    split
    · exact h.nd
    · rename_i hin
      rw [List.nodup_append]
      refine ⟨h.nd, by simp, ?_⟩
      intro a ha b hb e
      simp at hb
      exact hin (hb ▸ e ▸ ha)
  · intro no hno
    rcases (hmem no).1 hno with h1 | rfl
    · exact h.inb no h1
    · exact hn
  · refine ⟨?_, h.few.2⟩
    have := h.few.1
    rcases hcase with ⟨hin, _⟩ | ⟨hin, hlt, _⟩
    · simp only [CSt.wr, if_pos hin]; exact this
    · simp only [CSt.wr, if_neg hin, List.length_append, List.length_singleton]; omega
  · obtain ⟨es0, cl0, hs0, hst⟩ := h.stamp
    rw [hes] at hs0
    cases hs0
    refine ⟨es', cl', putO_same (by omega), ?_⟩
    rcases hcase with ⟨hin, j, hj, rfl, rfl⟩ | ⟨hin, _, rfl, rfl⟩
    · exact hst.modify _ _ _
    · exact hst.push _ _
  · rintro k (hk | rfl)
    · exact .inl hk
    · exact .inr hg

theorem len_splice (xs ys : List Int) (off : Nat) (h : off + ys.length ≤ xs.length) : (splice xs off ys).length = xs.length := length_splice xs off ys h
theorem CRep.viewlen {w : World} {bc bj bm bd : Nat} {C : CSt} {F : Nat → Prop} (h : CRep w bc bj bm bd C F) {n : Nat} (hn : n < C.blocks) : (C.view n).length = 128 := by
  unfold CSt.view
  split
  · rename_i hin
    obtain ⟨j, hj⟩ := List.mem_iff_getElem?.1 hin
    obtain ⟨es, cl, _, _, h3⟩ := h.mblk
    obtain ⟨e, _, hr⟩ := h3 j n hj
    exact hr.sl.2.2
  · obtain ⟨⟨bl, rows, h1, h2, h3, h4, h5⟩, _⟩ := h.disk
    obtain ⟨v, _, hr⟩ := h5 n (by have := h.few; omega)
    exact hr.len
theorem run_len_map {T E : TypeId} {w : World} {bm clock : Nat} {es : Array MapEntry} {ty : TypeId} (hT : Tryz.prog.underlying T = some (.map 3 E)) (hb : w.heap[bm]? = some (.map es clock)) : (Builtin.len_ #[T] ty #[.map (some bm)]).run Tryz.prog w = .ok (.int .i64 es.size) w := by
  simp [Builtin.len_, run_underlying hT, Result.andThen, getObj, Sem.run, hb, goInt]

theorem cache_Write_ok {w : World} {bc bj bm bd : Nat} {C : CSt} {F : Nat → Prop} (h : CRep w bc bj bm bd C F) (hd : C.D.dead = false) (no off : Int) (h0 : 0 ≤ no) (h1 : no < C.blocks) (h2 : 0 ≤ off)
    (v : Value) (ys : List Int) (hv : Sl w v ys) (h3 : off + ys.length ≤ 128) (hroom : no.toNat ∈ C.ch ∨ C.ch.length < C.most) :
    Calls Tryz.prog 94 #[.pointer (some ⟨bc, 0, none⟩), .int .i64 no, .int .i64 off, v] w fun e w' => e = .returned .nilIface ∧
      ∃ F', CRep w' bc bj bm bd (C.wr no.toNat off.toNat ys) F' ∧ Kp F w w' ∧ Gr F F' w.heap.size := by
  obtain ⟨n, rfl⟩ := Int.eq_ofNat_of_zero_le h0
  obtain ⟨p, rfl⟩ := Int.eq_ofNat_of_zero_le h2
  simp only [Int.toNat_natCast] at hroom ⊢
  obtain ⟨A, cv, rfl, hv1, hv2, hv3⟩ := id hv
  have hC := cell_blk h.cblk 0
  have hM := cell_blk h.cblk 2
  simp at hC hM
  obtain ⟨es, cl, hm1, hm2, hm3⟩ := h.mblk
  have hfew := h.few
  have hfw := h.disk.few
  have hvl := h.viewlen (n := n) (by omega)
  have Hvl := Lib.hid hvl
  have Hsp := Lib.hid (len_splice (C.view n) ys p (by omega))
  have H := Lib.hid h
  have Hm1 := Lib.hid hm1
  have Hm2 := Lib.hid hm2
  have Hm3 := Lib.hid hm3
  have Hv := Lib.hid hv
  have Hd := Lib.hid hd
  have hbm : bm < w.heap.size := lt_blk hm1
  have hbc : bc < w.heap.size := lt_blk h.cblk
  by_cases hin : n ∈ C.ch
  · obtain ⟨j, hj⟩ := List.mem_iff_getElem?.1 hin
    obtain ⟨e, he, hr⟩ := hm3 j n hj
    obtain ⟨hsl, hbo, hlen⟩ := hr.sl
    obtain ⟨g0, c0, hev, hc1, hc2, _⟩ := hr
    have hlk := run_lookup_yes (w := w) (E := 52) Tryz.underlying127 hm1 hm2 h.nd hj he
    rw [hev] at hlk hsl
    have hview : C.view n = C.cont n := by simp [CSt.view, hin]
    rw [← hview] at hsl hlen
    have Hs := Lib.hid hsl
    have HL := Lib.hid hlk
    have Hj := Lib.hid hj
    have He := Lib.hid he
    have Hin := Lib.hid hin
    clear hview hsl hlen hlk h hm1 hm2 hm3 hj he hev hd hv hv3 hin hbo hroom hvl
    go_enter Tryz.func94, Tryz.ntmps94
    go_wp2_with (first | (at_lookup; refine wpList_lookup_run rfl _ _ _ _ rfl _ _ _ rfl rfl HL.out ?_) | (go_at_call 128; refine (cache_there H.out _ h0 h1).mono ?_; rintro e w1 ⟨rfl, rfl⟩))
    go_quiet (fail)
    go_wp2_with (first
      | (go_at_call 59; refine (clone_n _ _ _ _ (Hs.out.kp (F := fun _ => False) ((Kp.refl _ _).drewN _) (fun _ _ h => h)) Hvl.out (by omega) (by omega)).mono ?_; rintro e w1 ⟨g, c1, rfl, hc3, hc4, hrow, hg1, hkc⟩; have hg2 : w.heap.size ≤ g := hg1; obtain ⟨rest, hrr⟩ := hrow.r; have Hrr := Lib.hid hrr; clear hrr hrow; have Hkc : Hid (Kp (fun _ => False) w w1) := ((Kp.refl _ w).drewN nq).trans hkc (Gr.refl _ _); clear hkc)
      | ((with_reducible refine at_slice rfl ?_); refine wpList_slice_run rfl _ _ _ _ _ rfl _ _ _ _ _ rfl rfl rfl rfl (run_slice_lo 52 5 Tryz.underlying52 (Tryz.sizeU8 _) ⟨g, 0, none⟩ 128 c1 p (by omega) (by omega)) ?_; obtain ⟨dp, hdp⟩ : ∃ dp : Addr, dp = (if c1 = p then ⟨g, 0, none⟩ else (⟨g, 0, none⟩ : Addr).add (p * 1)) := ⟨_, rfl⟩; rw [← hdp]; have Hdp := Lib.hid hdp; clear hdp)
      | ((with_reducible refine at_copy rfl ?_); refine wpList_copyR rfl _ _ rfl (some dp) (128 - p) (c1 - p) rfl _ rfl g p (C.view n) ys rest Hrr.out (Hv.out.kp Hkc.out (fun _ _ h => h)) (fun hpos => by rw [if_addr Hdp.out (by have := nmin_r ys.length (128 - p); omega)]) (by rw [Hvl.out]; have := nmin_l ys.length (128 - p); omega) ?_; intro w2 hk2 hz2 hr2; rw [List.take_of_length_le (by omega)] at hr2; have hM2 := hk2.cell (Hkc.out.cell hM (fun h => h)) (fun e => by have e' : bc = g := e; omega); have Hk2 := Lib.hid hk2; have Hr2 := Lib.hid hr2; clear hk2 hr2)
      | (at_mapUpdate; refine wpList_update_run rfl _ _ _ _ rfl _ _ _ rfl rfl rfl (run_update_yes Tryz.underlying127 (Hk2.out.blk (Hkc.out.blk Hm1.out (fun h => h)) (by omega)) Hm2.out H.out.nd Hj.out He.out _) ?_))
    go_ret
    exact ⟨rfl, cw_fin H.out Hkc.out hg2 Hrr.out.row.lt Hk2.out Hr2.out (by rw [Hsp.out]; exact Hvl.out) hc3 hc4 (by omega) rfl Hm1.out Hm2.out Hm3.out (.inl ⟨Hin.out, j, Hj.out, rfl, rfl⟩)⟩
  · have hlt : C.ch.length < C.most := by rcases hroom with h | h; exact absurd h hin; exact h
    have hlk := run_lookup_no (w := w) (E := 52) Tryz.underlying127 (zero_bytes w) hm1 hm2 (n : Int) (not_in hin)
    have hview : C.view n = C.D.row n := by simp [CSt.view, hin]
    have hR := fun (W : World) (hk : Kp (fun _ => False) w W) => journal_Read_ok (hk.blk h.jblk (fun h => h)) (h.disk.kp0 hk) n h0 (by omega) hd
    simp only [Int.toNat_natCast] at hR
    rw [← hview] at hR
    have hlen := run_len_map (w := w) (ty := 3) Tryz.underlying127 hm1
    have hsz : es.size = C.ch.length := hm2.size
    rw [hsz] at hlen
    have HR := Lib.hid hR
    have HL := Lib.hid hlk
    have Hin := Lib.hid hin
    have Hlt := Lib.hid hlt
    have hlt' : (C.ch.length : Int) < (C.most : Int) := by omega
    have hlt2 : decide ((C.most : Int) ≤ (C.ch.length : Int)) = false := by simp; omega
    clear hview hlk h hm2 hm3 hd hv hv3 hin hroom hvl hR hlt hlen
    go_enter Tryz.func94, Tryz.ntmps94
    go_wp2_with (first | (at_lookup; refine wpList_lookup_run rfl _ _ _ _ rfl _ _ _ rfl rfl HL.out ?_) | (go_at_call 128; refine (cache_there H.out _ h0 h1).mono ?_; rintro e w1 ⟨rfl, rfl⟩))
    have hsz' : (es.size : Int) = (C.ch.length : Int) := by omega
    have hlenN : ∀ nq, (Builtin.len_ #[127] 3 #[.map (some bm)]).run Tryz.prog (w.drewN nq) = .ok (.int .i64 (C.ch.length : Int)) (w.drewN nq) := fun nq => by
      have := run_len_map (w := w.drewN nq) (ty := 3) Tryz.underlying127 hm1
      rw [this, hsz]
    go_quiet ((go_at_call 129; exact Calls.quiet_of_same ((journal_Most (by exact H.out.jblk)).mono fun _ _ h => ⟨h.1, h.2.symm⟩)))
    clear hlenN
    go_wp2_with (first
      | (go_at_call 130; refine (HR.out _ ((Kp.refl _ w).drewN nq)).mono ?_; rintro e w1 ⟨rfl, hr1, hk1⟩; have Hr1 := Lib.hid hr1; have Hk1 : Hid (Kp (fun _ => False) w w1) := ((Kp.refl _ w).drewN nq).trans hk1 (Gr.refl _ _); clear hr1 hk1)
      | (go_at_call 59; refine (clone_n _ _ (C.view n) _ (by have := Hr1.out.sl (by rw [Hvl.out]; simp [maxLen]); rw [Hvl.out] at this; exact this) Hvl.out (by omega) (by omega)).mono ?_; rintro e w2 ⟨g, c1, rfl, hc3, hc4, hrow, hg1, hkc⟩; have hg2 : w.heap.size ≤ g := Nat.le_trans Hk1.out.size hg1; obtain ⟨rest, hrr⟩ := hrow.r; have Hrr := Lib.hid hrr; clear hrr hrow; have Hkc : Hid (Kp (fun _ => False) w w2) := Hk1.out.trans hkc (Gr.refl _ _); clear hkc)
      | ((with_reducible refine at_slice rfl ?_); refine wpList_slice_run rfl _ _ _ _ _ rfl _ _ _ _ _ rfl rfl rfl rfl (run_slice_lo 52 5 Tryz.underlying52 (Tryz.sizeU8 _) ⟨g, 0, none⟩ 128 c1 p (by omega) (by omega)) ?_; obtain ⟨dp, hdp⟩ : ∃ dp : Addr, dp = (if c1 = p then ⟨g, 0, none⟩ else (⟨g, 0, none⟩ : Addr).add (p * 1)) := ⟨_, rfl⟩; rw [← hdp]; have Hdp := Lib.hid hdp; clear hdp)
      | ((with_reducible refine at_copy rfl ?_); refine wpList_copyR rfl _ _ rfl (some dp) (128 - p) (c1 - p) rfl _ rfl g p (C.view n) ys rest Hrr.out (Hv.out.kp Hkc.out (fun _ _ h => h)) (fun hpos => by rw [if_addr Hdp.out (by have := nmin_r ys.length (128 - p); omega)]) (by rw [Hvl.out]; have := nmin_l ys.length (128 - p); omega) ?_; intro w3 hk2 hz2 hr2; rw [List.take_of_length_le (by omega)] at hr2; have hM2 := hk2.cell (Hkc.out.cell hM (fun h => h)) (fun e => by have e' : bc = g := e; omega); have Hk2 := Lib.hid hk2; have Hr2 := Lib.hid hr2; clear hk2 hr2)
      | (at_mapUpdate; refine wpList_update_run rfl _ _ _ _ rfl _ _ _ rfl rfl rfl (run_update_no Tryz.underlying127 (Hk2.out.blk (Hkc.out.blk hm1 (fun h => h)) (by omega)) Hm2.out _ (not_in Hin.out) _) ?_))
    go_ret
    exact ⟨rfl, cw_fin H.out Hkc.out hg2 Hrr.out.row.lt Hk2.out Hr2.out (by rw [Hsp.out]; exact Hvl.out) hc3 hc4 (by omega) rfl hm1 Hm2.out Hm3.out (.inr ⟨Hin.out, Hlt.out, rfl, rfl⟩)⟩
end Go.Proofs.YthjbpbahcemfgaaGreatDoor
