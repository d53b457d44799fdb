/- The journal: a group is written, all or none. -/
import Derived.Test.YtdmmlkkemceifaaGreatDoorBody
import Derived.Test.YtdmmlkkemceifaaGreatDoorGood
namespace Go.Proofs.YtdmmlkkemceifaaGreatDoor
open Go.RowKit
set_option maxHeartbeats 2000000
set_option maxRecDepth 20000

/-- A slice of blocks to be written, with what its memory is. -/
def BT (w : World) (v : Value) (l : List (Nat × List Int)) : Prop :=
  ∃ A c, v = .slice A l.length c ∧ l.length ≤ c ∧ c ≤ maxLen ∧ (l ≠ [] → ∃ g off cs fr, A = some ⟨g, off, none⟩ ∧ w.heap[g]? = some (.cells cs 84 fr) ∧ ∀ i no ys, l[i]? = some (no, ys) → cs[off + i * 2]? = some (.int .i64 (no : Nat)) ∧ ∃ gr cu, cs[off + i * 2 + 1]? = some (.slice (some ⟨gr, 0, none⟩) 128 cu) ∧ 128 ≤ cu ∧ cu ≤ maxLen ∧ Row w gr ys ∧ ys.length = 128)
theorem BT.bs {w : World} {v : Value} {l : List (Nat × List Int)} (h : BT w v l) : BS w v l := by
  obtain ⟨A, c, rfl, h1, h2, h3⟩ := h
  refine ⟨A, c, rfl, h1, h2, fun hn => ?_⟩
  obtain ⟨g, off, cs, fr, rfl, hb, h4⟩ := h3 hn
  refine ⟨g, off, rfl, fun i no ys hi => ?_⟩
  obtain ⟨a, gr, cu, b, d1, d2, d3, d4⟩ := h4 i no ys hi
  refine ⟨by rw [cell_blk hb]; exact a, _, by rw [cell_blk hb]; exact b, ?_⟩
  have := d3.sl cu (by omega) d2
  rw [d4] at this; exact this
theorem Row.kpD {w W : World} {bd g : Nat} {D : DSt} {F : Nat → Prop} {xs : List Int} (h : DRep w bd D F) (k : KpD bd w W) (hr : Row w g xs) : Row W g xs := by
  obtain ⟨cs, rest, h1, h2⟩ := hr
  exact ⟨cs, rest, k.blk h h1 (by intro cs fr e; injection e with _ e2; exact absurd e2 (by decide)) (by intro cs fr e; injection e with _ e2; exact absurd e2 (by decide)), h2⟩
theorem BT.kpD {w W : World} {bd : Nat} {D : DSt} {F : Nat → Prop} {v : Value} {l : List (Nat × List Int)} (ht : BT w v l) (h : DRep w bd D F) (k : KpD bd w W) : BT W v l := by
  obtain ⟨A, c, rfl, h1, h2, h3⟩ := ht
  refine ⟨A, c, rfl, h1, h2, fun hn => ?_⟩
  obtain ⟨g, off, cs, fr, rfl, hb, h4⟩ := h3 hn
  refine ⟨g, off, cs, fr, rfl, k.blk h hb (by intro cs fr e; injection e with _ e2; exact absurd e2 (by decide)) (by intro cs fr e; injection e with _ e2; exact absurd e2 (by decide)), fun i no ys hi => ?_⟩
  obtain ⟨a, gr, cu, b, d1, d2, d3, d4⟩ := h4 i no ys hi
  exact ⟨a, gr, cu, b, d1, d2, d3.kpD h k, d4⟩
/-- The rows behind the head. -/
def bodyRows (l : List (Nat × List Int)) : List (List Int) := (List.range (ckN l.length)).map (numRow l) ++ l.map (·.2)
theorem bodyRows_len (l : List (Nat × List Int)) : (bodyRows l).length = ckN l.length + l.length := by simp [bodyRows]
theorem numRow_len (l : List (Nat × List Int)) (k : Nat) : (numRow l k).length = 128 := nr_len _ _ (by omega)
/-- .. as they stand in memory, whatever the disk's own blocks are turned to. -/
theorem body_ss {w w1 W : World} {v u : Value} {l : List (Nat × List Int)} {F : Nat → Prop} (hb : BodyOut w w1 v u l) (hw : BT w v l) (hT : BT W v l) (k : Kp F w1 W) (hF : ∀ b, F b → b < w.heap.size) (hsame : ∀ (b : Nat) (cs : Array Value) (fr : Nat × Nat), w.heap[b]? = some (.cells cs 84 fr) → W.heap[b]? = some (.cells cs 84 fr)) (hn : l ≠ []) :
    SS W u (bodyRows l) := by
  obtain ⟨g, off, c, rfl, g', cap, cs, rfl, h1, h2, h3, h4, h5, h6⟩ := hb
  refine ⟨_, cap, by rw [bodyRows_len], by rw [bodyRows_len]; exact h2, h3, fun _ => ⟨_, rfl, fun i ys hi => ?_⟩⟩
  have hg' : W.heap[g']? = some (.cells cs 34 (0, 0)) := k.blk h4 (fun h => by have := hF _ h; omega)
  have e : (⟨g', 0, none⟩ : Addr).add i = ⟨g', i, none⟩ := by unfold Addr.add; split <;> simp_all
  rw [e, cell_blk hg']
  by_cases hlt : i < ckN l.length
  · rw [bodyRows, List.getElem?_append_left (by simpa using hlt)] at hi
    simp [hlt] at hi
    subst hi
    obtain ⟨gk, a1, a2, a3⟩ := h5 i hlt
    refine ⟨_, a1, ?_⟩
    have := (a3.kp k (fun h => by have := hF _ h; omega)).sl (by rw [numRow_len]; simp [maxLen])
    rw [numRow_len] at this; exact this
  · rw [bodyRows, List.getElem?_append_right (by simp; omega)] at hi
    simp only [List.length_map, List.length_range, List.getElem?_map, Option.map_eq_some_iff] at hi
    obtain ⟨⟨no, ys'⟩, hx, rfl⟩ := hi
    have hil := (List.getElem?_eq_some_iff.1 hx).1
    obtain ⟨A1, c1, e1, _, _, h7⟩ := hw
    obtain ⟨A2, c2, e2, _, _, h8⟩ := hT
    simp only [Value.slice.injEq] at e1 e2
    obtain ⟨g1, off1, cs1, fr1, e3, hb1, h9⟩ := h7 hn
    obtain ⟨g2, off2, cs2, fr2, e4, hb2, h10⟩ := h8 hn
    rw [← e1.1] at e3
    rw [← e2.1] at e4
    simp only [Option.some.injEq, Addr.mk.injEq] at e3 e4
    obtain ⟨rfl, rfl, _⟩ := e3
    obtain ⟨rfl, rfl, _⟩ := e4
    have hcs := hsame _ _ _ hb1
    rw [hb2] at hcs
    cases hcs
    obtain ⟨_, gr, cu, b, d1, d2, d3, d4⟩ := h10 _ no ys' hx
    refine ⟨.slice (some ⟨gr, 0, none⟩) 128 cu, ?_, ?_⟩
    · have := h6 (i - ckN l.length) (.slice (some ⟨gr, 0, none⟩) 128 cu) hil (by rw [cell_blk hb1]; exact b)
      rw [show ckN l.length + (i - ckN l.length) = i by omega] at this
      exact this
    · have := d3.sl cu (by omega) d2
      rw [d4] at this; exact this
/-- What is written behind the head. -/
def wsOf (at_ : Nat) (rows : List (List Int)) : List (Nat × List Int) := (List.range rows.length).map fun i => (at_ + 1 + i, rows.getD i [])
theorem wsOf_get {at_ i : Nat} {rows : List (List Int)} {r : List Int} (h : rows[i]? = some r) : (wsOf at_ rows)[i]? = some (at_ + 1 + i, r) := by
  have := (List.getElem?_eq_some_iff.1 h).1
  simp only [wsOf, List.getElem?_map, List.getElem?_range this, Option.map_some, List.getD_eq_getElem?_getD, h, Option.getD_some]
theorem wsOf_len (at_ : Nat) (rows : List (List Int)) : (wsOf at_ rows).length = rows.length := by simp [wsOf]
/-- All that a Commit writes, one by one. -/
def cwOf (at_ : Nat) (l : List (Nat × List Int)) : List (Nat × List Int) := wsOf at_ (bodyRows l) ++ ((at_, headRow (l.length : Nat) (bodyRows l)) :: (l ++ [(at_, zs 128)]))
theorem bodyRows_row {l : List (Nat × List Int)} (hl : ∀ x ∈ l, x.2.length = 128) : ∀ r ∈ bodyRows l, r.length = 128 := by
  intro r hr
  rcases List.mem_append.1 hr with h | h
  · obtain ⟨k, _, rfl⟩ := List.mem_map.1 h
    exact numRow_len l k
  · obtain ⟨x, hx, rfl⟩ := List.mem_map.1 h
    exact hl x hx
theorem journal_Commit {w : World} {bj bd at_ most : Nat} {D : DSt} {F : Nat → Prop} (hj : JBlk w bj bd at_ most) (h : DRep w bd D F) (hz : D.Fz) (v : Value) (l : List (Nat × List Int)) (ht : BT w v l)
    (hin : ∀ x ∈ l, x.1 < D.n ∧ x.1 < at_ ∧ x.2.length = 128) (hnd : (l.map (·.1)).Nodup) (hne : l ≠ []) (hll : l.length ≤ most) (hm2 : most ≤ 200) (hat : at_ + need most ≤ D.n) :
    Calls Tryz.prog 39 #[.pointer (some ⟨bj, 0, none⟩), v] w fun e w' => ∃ u, e = .returned u ∧ ErrV w' u (wrapE (tx [106, 111, 117, 114, 110, 97, 108]) (tx []) (D.runs (cwOf at_ l)).1) ∧
      ∃ F', DRep w' bd (D.runs (cwOf at_ l)).2 F' ∧ Kp F w w' ∧ Gr F F' w.heap.size ∧ KpD bd w w' := by
  obtain ⟨A, c, rfl, hc1, hc2, _⟩ := id ht
  unfold maxLen at hc2
  have hpos : 0 < l.length := List.length_pos_iff.2 hne
  have hfew := h.few
  have hG := Lib.hid (journal_good hj h _ l ht.bs hin hnd (by omega))
  have HJ := Lib.hid hj
  have H := Lib.hid h
  have Hz := Lib.hid hz
  have HT := Lib.hid ht
  have Hin := Lib.hid hin
  have hN : ckN l.length + l.length + 1 ≤ need most := by unfold ckN need; omega
  have c2 := cell_blk hj 2
  simp at c2
  have d1 : decide (most < l.length) = false := decide_eq_false (by omega)
  have d2 : ¬ (l.length = 0) := by omega
  clear hj h hz ht hin hnd
  go_enter Tryz.func39, Tryz.ntmps39
  go_wp2_with fail
  refine hG.out.mono ?_
  rintro e wg ⟨rfl, hkg⟩
  have cg2 := hkg.cell c2 (fun h => h)
  have Hkg := Lib.hid hkg
  clear c2 hkg hG
  go_wp2_with fail
  refine (journal_body (HT.out.bs.kp0 Hkg.out) hne (by omega) (fun x hx => by have := (Hin.out x hx).1; omega)).mono ?_
  rintro e w1 ⟨u, rfl, hbo, hk1⟩
  have Hbo := Lib.hid hbo
  obtain ⟨_, _, _, _, g', cap, cs, rfl, b1, b2, b3, b4, _, _⟩ := hbo
  have Hkb := Lib.hid hk1
  have Hk1 := Lib.hid (Hkg.out.trans hk1 (Gr.refl _ _))
  have hs1 := Hkg.out.size
  have hs2 := hk1.size
  have hF0 := Lib.hid (show ∀ b, F b → b < wg.heap.size from fun b hb => by have := H.out.lt b hb; omega)
  have H1 := Lib.hid (H.out.kp0 Hk1.out)
  have HJ1 := Lib.hid (show JBlk w1 bj bd at_ most from Hk1.out.blk HJ.out (fun h => h))
  have Hd2 := Lib.hid d2
  clear hk1 cg2 d1 d2 b4 b1
  generalize hN2 : ckN l.length + l.length = N at *
  have hss := Lib.hid (show ∀ W, Kp F w1 W → KpD bd w1 W → SS W (.slice (some ⟨g', 0, none⟩) N cap) (bodyRows l) from fun W k kD =>
    body_ss Hbo.out (HT.out.kpD H.out (KpD.of0 Hkg.out)) (HT.out.kpD H.out ((KpD.of0 Hk1.out).trans kD)) k hF0.out (fun b cs fr hb => kD.blk H1.out (Kp.blk (w := wg) (w' := w1) (F := fun _ => False) Hkb.out hb (fun h => h)) (by intro cs fr e; injection e with _ e2; exact absurd e2 (by decide)) (by intro cs fr e; injection e with _ e2; exact absurd e2 (by decide))) hne)
  have hrl := Lib.hid (bodyRows_row (l := l) (fun x hx => (Hin.out x hx).2.2))
  have hRN : (bodyRows l).length = N := by rw [bodyRows_len]; exact hN2
  have HRN := Lib.hid hRN
  clear hRN hN2
  go_wp2_with fail
  go_loopw [33] (fun x wr => ∃ (i : Nat) (F' : Nat → Prop), x = .int .i64 (i : Nat) ∧ i ≤ N ∧ (D.runs ((wsOf at_ (bodyRows l)).take i)).1 = none ∧ DRep wr bd (D.runs ((wsOf at_ (bodyRows l)).take i)).2 F' ∧ Kp F w1 wr ∧ Gr F F' w1.heap.size ∧ KpD bd w1 wr) (fun x _ => N - (intOf x).toNat)
  case atStart => exact ⟨0, F, rfl, by omega, rfl, H1.out, Kp.refl _ _, Gr.refl _ _, KpD.of0 (Kp.refl _ _)⟩
  case round =>
    obtain ⟨i, F1, rfl, hi, hnone, hD, hk, hg, hkd⟩ := hrel
    have HD := Lib.hid hD
    have Hk := Lib.hid hk
    have Hg := Lib.hid hg
    have Hkd := Lib.hid hkd
    have Hnone := Lib.hid hnone
    have hl0 : ∀ W : World, KpD bd wr W → W.cell? ⟨bj, 0, none⟩ = some (.pointer (some ⟨bd, 0, none⟩)) := fun W hW => by
      have := cell_blk (HJ1.out.kpD H1.out (Hkd.out.trans hW)) 0
      simpa using this
    have hl1 : ∀ W : World, KpD bd wr W → W.cell? ⟨bj, 1, none⟩ = some (.int .i64 (at_ : Nat)) := fun W hW => by
      have := cell_blk (HJ1.out.kpD H1.out (Hkd.out.trans hW)) 1
      simpa using this
    have hsw := hss.out wr hk hkd
    have HSW := Lib.hid hsw
    by_cases hlt : i < N
    · have hy : (i : Int) < (N : Int) := by omega
      have hy0 : (0 : Int) ≤ (i : Int) := by omega
      obtain ⟨r, hr⟩ : ∃ r, (bodyRows l)[i]? = some r := ⟨_, List.getElem?_eq_getElem (by rw [HRN.out]; omega)⟩
      have hr128 := hrl.out r (List.mem_of_getElem? hr)
      obtain ⟨A2, c2, e2, _, _, h2⟩ := hsw
      simp only [Value.slice.injEq] at e2
      obtain ⟨ad, e3, h3⟩ := h2 (by intro h0; rw [h0] at hr; cases hr)
      rw [← e2.1] at e3
      cases e3
      obtain ⟨ur, hcr, hsr⟩ := h3 i r hr
      rw [show (⟨g', 0, none⟩ : Addr).add i = ⟨g', i, none⟩ by unfold Addr.add; split <;> simp_all] at hcr
      have Hsr := Lib.hid hsr
      have Hws := Lib.hid (wsOf_get (at_ := at_) hr)
      have Hr128 := Lib.hid hr128
      obtain ⟨Ar, cr, hre, _, _, _⟩ := id hsr
      rw [hr128] at hre
      subst hre
      clear h2 h3 e2 hr hsr hD hk hg hkd hnone hr128
      go_wp2_with fail
      have hw1 : IntKind.i64.wrap ((at_ : Int) + 1) = (at_ : Int) + 1 := IntWalk.i64_in _ (by omega)
      have hw2 : IntKind.i64.wrap ((at_ : Int) + 1 + (i : Int)) = (at_ : Int) + 1 + (i : Int) := IntWalk.i64_in _ (by omega)
      have HZ := Lib.hid (DSt.runs_Fz ((wsOf at_ (bodyRows l)).take i) Hz.out)
      have HN := Lib.hid (DSt.runs_n ((wsOf at_ (bodyRows l)).take i) D)
      have HR := Lib.hid (DSt.runs_none Hnone.out (at_ + 1 + i, r))
      have hkk : KpD bd wr wr := KpD.of0 (Kp.refl _ _)
      go_region_held_law (fun W => KpD bd wr W)
        (first | assumption | exact KpD.of0 ((Kp.refl _ _).drew) | exact KpD.trans (by assumption) (by assumption) | exact KpD.trans (KpD.of0 ((Kp.refl _ _).drew)) (by assumption))
        (first | (go_at_call 69; refine (disk_Write_any (HD.out.kp0 ((Kp.refl _ _).drew)) HZ.out (at_ + 1 + i) (by rw [HN.out]; omega) _ r (Hsr.out.kp (F := fun _ => False) ((Kp.refl _ _).drew) (fun _ _ h => h)) Hr128.out).mono ?_; rintro e w5 ⟨u5, rfl, hu5, F5, hr5, hk5, hg5, hkd5⟩))
      have kD5 := Lib.hid (Hkd.out.trans (show KpD bd wr w5 by assumption))
      have k5 := Lib.hid ((Hk.out.drew).trans hk5 Hg.out)
      have g5 := Lib.hid (Hg.out.trans hg5 (show w1.heap.size ≤ wr.heap.size from Hk.out.size))
      have R5 := Lib.hid hr5
      have U5 := Lib.hid hu5
      clear hkd5 hk5 hg5 hr5 hu5 hl0 hl1 hkk
      cases hd : (D.runs ((wsOf at_ (bodyRows l)).take i)).2.dead with
      | true =>
        have hu := U5.out
        simp only [DSt.tells, hd, if_true, ErrV] at hu
        obtain ⟨t5, x5, rfl⟩ := hu.iface
        have hs := Lib.hid (DSt.runs_stop (m := (at_, headRow (l.length : Nat) (bodyRows l)) :: (l ++ [(at_, zs 128)])) Hnone.out Hws.out hd)
        have hp : (D.runs ((wsOf at_ (bodyRows l)).take i)).2.put (at_ + 1 + i) r = (D.runs ((wsOf at_ (bodyRows l)).take i)).2 := by simp [DSt.put, hd]
        have R6 := Lib.hid (hp ▸ R5.out)
        clear hu hd hp
        go_wp2_with fail
        refine (journal_told _ _ _ U5.out).mono ?_
        rintro e w6 ⟨u6, rfl, hu6, hk6⟩
        have Hu6 := Lib.hid hu6
        have Hk6 := Lib.hid hk6
        clear hu6 hk6
        go_wp2_with fail
        go_ret
        rw [cwOf, hs.out]
        exact ⟨_, rfl, Hu6.out, F5, R6.out.kp0 Hk6.out, ((Hk1.out.mono (fun _ h => h.elim)).trans k5.out (Gr.refl _ _)).trans (F1 := fun _ => False) Hk6.out (fun _ h => h.elim), g5.out.mono Hk1.out.size, ((KpD.of0 Hk1.out).trans kD5.out).trans (KpD.of0 Hk6.out)⟩
      | false =>
        have hu := U5.out
        simp only [DSt.tells, hd, ErrV] at hu
        have ht : (D.runs ((wsOf at_ (bodyRows l)).take i)).2.tells (at_ + 1 + i) = none := by simp [DSt.tells, hd]
        have HTl := Lib.hid ht
        have hu' : u5 = .nilIface := by simpa using hu
        subst hu'
        clear hu ht hd
        go_wp2_with fail
        go_roundw
        case rel => exact ⟨i + 1, F5, by go_num, by omega, by rw [take_succ' Hws.out, HR.out]; exact HTl.out, by rw [take_succ' Hws.out, HR.out]; exact R5.out, k5.out, g5.out, kD5.out⟩
        case measure => simp [intOf]; omega
    · have hy : ¬ (i : Int) < (N : Int) := by omega
      have hiN : (wsOf at_ (bodyRows l)).take i = wsOf at_ (bodyRows l) := List.take_of_length_le (by rw [wsOf_len, HRN.out]; omega)
      rw [hiN] at hD hnone
      have HD := Lib.hid hD
      have Hnone := Lib.hid hnone
      have HZ := Lib.hid (DSt.runs_Fz (wsOf at_ (bodyRows l)) Hz.out)
      have HN := Lib.hid (DSt.runs_n (wsOf at_ (bodyRows l)) D)
      clear hD hnone hk hg hkd hsw hiN
      go_wp2_with fail
      have hkk : KpD bd wr wr := KpD.of0 (Kp.refl _ _)
      go_region_held_law (fun W => KpD bd wr W)
        (first | assumption | exact KpD.of0 ((Kp.refl _ _).drew) | exact KpD.trans (by assumption) (by assumption) | exact KpD.trans (KpD.of0 ((Kp.refl _ _).drew)) (KpD.of0 (by assumption)) | exact KpD.trans (KpD.of0 ((Kp.refl _ _).drew)) (by assumption))
        (first | (go_at_call 71; refine (journal_head (HSW.out.fresh (F := fun _ => False) ((Kp.refl _ _).drew) (fun _ h => h.elim)) (l.length : Nat) (by omega) (by omega)).mono ?_; rintro e w5 ⟨rfl, hr5, hk5⟩) | (go_at_call 69; refine (disk_Write_any ((HD.out.kp0 ((Kp.refl _ _).drew)).kp0 hk5) HZ.out at_ (by rw [HN.out]; omega) _ (headRow (l.length : Nat) (bodyRows l)) (by have := hr5.sl (by rw [headRow_len]; simp [maxLen]); rw [headRow_len] at this; exact this) (headRow_len _ _)).mono ?_; rintro e w6 ⟨u6, rfl, hu6, F6, hr6, hk6, hg6, hkd6⟩))
      have kD6 := Lib.hid (Hkd.out.trans (show KpD bd wr w6 by assumption))
      have k6 := Lib.hid (((Hk.out.drew).trans (F1 := fun _ => False) hk5 (fun _ h => h.elim)).trans hk6 Hg.out)
      have g6 := Lib.hid (Hg.out.trans hg6 (Nat.le_trans (show w1.heap.size ≤ wr.heap.size from Hk.out.size) (show wr.heap.size ≤ w5.heap.size from hk5.size)))
      have R6 := Lib.hid hr6
      have U6 := Lib.hid hu6
      clear hkd6 hk6 hg6 hr6 hu6 hl0 hl1 hkk hr5 hk5
      have happ := Lib.hid (show D.runs (cwOf at_ l) = (D.runs (wsOf at_ (bodyRows l))).2.runs ((at_, headRow (l.length : Nat) (bodyRows l)) :: (l ++ [(at_, zs 128)])) by rw [cwOf, DSt.runs_app, if_pos Hnone.out])
      cases hd : (D.runs (wsOf at_ (bodyRows l))).2.dead with
      | true =>
        have hu := U6.out
        simp only [DSt.tells, hd, if_true, ErrV] at hu
        obtain ⟨t5, x5, rfl⟩ := hu.iface
        have hs := Lib.hid (show D.runs (cwOf at_ l) = ((D.runs (wsOf at_ (bodyRows l))).2.tells at_, (D.runs (wsOf at_ (bodyRows l))).2) by rw [happ.out, DSt.runs, if_pos hd, DSt.tells, if_pos hd])
        have hp : (D.runs (wsOf at_ (bodyRows l))).2.put at_ (headRow (l.length : Nat) (bodyRows l)) = (D.runs (wsOf at_ (bodyRows l))).2 := by simp [DSt.put, hd]
        have R7 := Lib.hid (hp ▸ R6.out)
        clear hu hd hp
        go_wp2_with fail
        refine (journal_told _ _ _ U6.out).mono ?_
        rintro e w7 ⟨u7', rfl, hu7, hk7⟩
        have Hu7 := Lib.hid hu7
        have Hk7 := Lib.hid hk7
        clear hu7 hk7
        go_wp2_with fail
        go_ret
        rw [hs.out]
        exact ⟨_, rfl, Hu7.out, F6, R7.out.kp0 Hk7.out, ((Hk1.out.mono (fun _ h => h.elim)).trans k6.out (Gr.refl _ _)).trans (F1 := fun _ => False) Hk7.out (fun _ h => h.elim), g6.out.mono Hk1.out.size, ((KpD.of0 Hk1.out).trans kD6.out).trans (KpD.of0 Hk7.out)⟩
      | false =>
        have hu := U6.out
        simp only [DSt.tells, hd, ErrV] at hu
        have hu' : u6 = .nilIface := by simpa using hu
        subst hu'
        have hs := Lib.hid (show D.runs (cwOf at_ l) = ((D.runs (wsOf at_ (bodyRows l))).2.put at_ (headRow (l.length : Nat) (bodyRows l))).runs (l ++ [(at_, zs 128)]) by rw [happ.out, DSt.runs, hd, DSt.put, hd]; rfl)
        have HN6 := Lib.hid (show ((D.runs (wsOf at_ (bodyRows l))).2.put at_ (headRow (l.length : Nat) (bodyRows l))).n = D.n by rw [DSt.put_n, HN.out])
        have HZ6 := Lib.hid (HZ.out.put at_ (headRow (l.length : Nat) (bodyRows l)))
        have HL := Lib.hid (journal_lay (HJ1.out.kpD H1.out kD6.out) R6.out HZ6.out _ l (fun W hW => ((HT.out.kpD H.out ((KpD.of0 Hk1.out).trans kD6.out)).kpD R6.out hW).bs) (fun x hx => ⟨by rw [HN6.out]; exact (Hin.out x hx).1, (Hin.out x hx).2.2⟩) (by rw [HN6.out]; omega) (by omega))
        clear hu hd
        go_wp2_with fail
        refine HL.out.mono ?_
        rintro e w7 ⟨u7', rfl, hu7, F7, hr7, hk7, hg7, hkd7⟩
        have Hu7 := Lib.hid hu7
        have Hk7 := Lib.hid (k6.out.trans hk7 g6.out)
        have Hg7 := Lib.hid (g6.out.trans hg7 k6.out.size)
        have Hkd7 := Lib.hid (kD6.out.trans hkd7)
        have R7 := Lib.hid hr7
        clear hu7 hk7 hg7 hkd7 hr7
        go_wp2_with fail
        refine (journal_told _ _ _ Hu7.out).mono ?_
        rintro e w8 ⟨u8', rfl, hu8, hk8⟩
        have Hu8 := Lib.hid hu8
        have Hk8 := Lib.hid hk8
        clear hu8 hk8
        go_wp2_with fail
        go_ret
        rw [hs.out]
        exact ⟨_, rfl, Hu8.out, F7, R7.out.kp0 Hk8.out, ((Hk1.out.mono (fun _ h => h.elim)).trans Hk7.out (Gr.refl _ _)).trans (F1 := fun _ => False) Hk8.out (fun _ h => h.elim), Hg7.out.mono Hk1.out.size, ((KpD.of0 Hk1.out).trans Hkd7.out).trans (KpD.of0 Hk8.out)⟩
end Go.Proofs.YtdmmlkkemceifaaGreatDoor
