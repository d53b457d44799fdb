/- Inodes: an inode gets bytes (set). -/
import Derived.Test.YthjbpbahcemfgaaGreatDoorFit
import Derived.Test.YthjbpbahcemfgaaGreatDoorBudget
namespace Go.Proofs.YthjbpbahcemfgaaGreatDoor
open Go.RowKit
set_option maxHeartbeats 4000000
set_option maxRecDepth 20000
variable {w : World} {bt bx bc bj bm bd at_ n mat lo nbl : Nat} {C C1 Cc : CSt} {F Fc : Nat → Prop} {T : Nat → Nd}

/-- The blocks that set writes. -/
def LateB (x : Nd) (q no : Nat) : Prop := ∃ j, q ≤ j ∧ x.l[j]? = some no
/-- In the midst of set: blocks up to the i-th are written. -/
structure SW (w : World) (bx bc bj bm bd mat lo nbl : Nat) (F : Nat → Prop) (own0 : Option Nat) (base : Nat) (C1 : CSt) (x : Nd) (A : Option Addr) (c q : Nat) (ys : List Int) (i : Nat) (Cc : CSt) (Fc : Nat → Prop) (wr : World) : Prop where
  map : MapOn wr bx bc bj bm bd mat lo nbl Cc Fc
  gr : Gr F Fc w.heap.size
  kp : Kp (fun k => F k ∨ own0 = some k) w wr
  box : wr.heap[w.heap.size]? = some (.cells #[.int .i64 x.kind, .int .i64 x.size, .slice A x.l.length c, .int .i64 x.more] 94 (0, 0))
  own : wr.ownsRow base 3 1 (.slice A x.l.length c) x.l.length (ints (natI x.l))
  ob : ∀ g, (Value.slice A x.l.length c).ownBlock = some g → ¬ Fc g
  n0 : ¬ Fc w.heap.size
  cs : CS (LateB x q) C1 Cc
  vw : ∀ j b, q ≤ j → j < i → x.l[j]? = some b → Cc.view b = partB ys j
theorem Fit.view {C C1 C2 : CSt} {x x' : Nd} (h : Fit C C1 mat lo nbl x x') (hv : ∀ j, j < nbl → bitC C2 mat j = bitC C1 mat j) : Fit C C2 mat lo nbl x x' :=
  ⟨fun j hj => by rw [hv j hj]; exact h.bit j hj, h.rng, h.nd, h.new⟩
/-- The blocks that an inode has got are no more than it has grown by. -/
def NewB (x x' : Nd) : Prop := ∃ L : List Nat, L.length ≤ x'.blks.length - x.blks.length ∧ ∀ b ∈ x'.blks, b ∈ x.blks ∨ b ∈ L
theorem newB_of {x x' : Nd} {lo nbl : Nat} (h1 : NdOk lo nbl x) (h2 : NdOk lo nbl x') (hp : ∀ i, i < x.l.length → i < x'.l.length → x'.l[i]? = x.l[i]?) (hm : x'.more = 0 ∨ x.more = 0 ∨ x'.more = x.more) : NewB x x' := by
  have m1 := h1.more
  have m2 := h2.more
  have hl : ∀ b ∈ x'.l, b ∈ x.l ∨ b ∈ x'.l.drop x.l.length := fun b hb => by
    obtain ⟨i, hi⟩ := List.mem_iff_getElem?.1 hb
    have hi2 := (List.getElem?_eq_some_iff.1 hi).1
    by_cases hx : i < x.l.length
    · exact .inl (List.mem_of_getElem? ((hp i hx hi2).symm.trans hi))
    · refine .inr (List.mem_of_getElem? (i := i - x.l.length) ?_)
      rw [List.getElem?_drop, show x.l.length + (i - x.l.length) = i by omega]
      exact hi
  refine ⟨x'.l.drop x.l.length ++ (if x.more = 0 then (if x'.more = 0 then [] else [x'.more]) else []), ?_, fun b hb => ?_⟩
  · rw [Nd.blks_len, Nd.blks_len, List.length_append, List.length_drop]
    by_cases e1 : x.more = 0
    · by_cases e2 : x'.more = 0
      · simp [e1, e2]
      · have := m1.1 e1
        have : ¬ x'.l.length ≤ 8 := fun h => e2 (m2.2 h)
        simp [e1, e2] <;> omega
    · have : ¬ x.l.length ≤ 8 := fun h => e1 (m1.2 h)
      by_cases e2 : x'.more = 0
      · have := m2.1 e2
        simp [e1, e2] <;> omega
      · simp [e1, e2] <;> omega
  · rcases Nd.mem_blks.1 hb with h | ⟨h, rfl⟩
    · rcases hl b h with h | h
      · exact .inl (Nd.mem_l h)
      · exact .inr (List.mem_append_left _ h)
    · rcases hm with h3 | h3 | h3
      · exact absurd h3 h
      · exact .inr (List.mem_append_right _ (by rw [if_pos h3, if_neg h]; exact List.mem_singleton_self _))
      · rw [h3]
        exact .inl (Nd.mem_more (by rw [← h3]; exact h))
/-- What set leaves. -/
structure SetR (w : World) (bt bx bc bj bm bd at_ n mat lo nbl : Nat) (C : CSt) (F : Nat → Prop) (T : Nat → Nd) (own0 : Option Nat) (ino : Nat) (ys : List Int) (x' : Nd) (C' : CSt) (F' : Nat → Prop) (w' : World) : Prop where
  tab : Tab w' bt bx bc bj bm bd at_ n mat lo nbl C' F' (setT T ino x')
  kd : x'.kind = (T ino).kind
  sz : x'.size = ys.length
  data : dataOf C'.view x' = ys
  rest : ∀ k, 1 ≤ k → k ≤ n → k ≠ ino → dataOf C'.view (T k) = dataOf C.view (T k)
  cs : CS (fun no => IsM mat nbl no ∨ no = at_ + ino - 1 ∨ no ∈ x'.blks) C C'
  kp : Kp (fun k => F k ∨ own0 = some k) w w'
  gr : Gr F F' w.heap.size
  nw : NewB (T ino) x'
def SetPost (w : World) (bt bx bc bj bm bd at_ n mat lo nbl : Nat) (C : CSt) (F : Nat → Prop) (T : Nat → Nd) (own0 : Option Nat) (ino : Nat) (ys : List Int) (e : Ending) (w' : World) : Prop :=
  e = .returned .nilIface ∧ ∃ x' C' F', SetR w bt bx bc bj bm bd at_ n mat lo nbl C F T own0 ino ys x' C' F' w'

theorem nodeW_cs (C : CSt) (at_ ino : Nat) (x : Nd) : CS (fun no => no = at_ + ino - 1 ∨ (8 < x.l.length ∧ no = x.more)) C (C.nodeW at_ ino x) :=
  (moreW_cs _ (fun h8 => .inr ⟨h8, rfl⟩)).trans (CS.wr (.inl rfl))
theorem idx_inj {l : List Nat} (h : l.Nodup) {i j a : Nat} (hi : l[i]? = some a) (hj : l[j]? = some a) : i = j :=
  (List.getElem?_inj (List.getElem?_eq_some_iff.1 hi).1 h).1 (hi.trans hj.symm)
theorem blks_l_nd {x : Nd} (h : x.blks.Nodup) : x.l.Nodup := (List.nodup_append.1 h).1
theorem more_not_l {x : Nd} (h : x.blks.Nodup) (hm : x.more ≠ 0) : x.more ∉ x.l := by
  intro hin
  unfold Nd.blks at h
  rw [if_neg hm] at h
  exact (List.nodup_append.1 h).2.2 _ hin _ (List.mem_singleton_self _) rfl
theorem SW.start {w2 : World} {own0 : Option Nat} {base : Nat} {x : Nd} {A : Option Addr} {c q : Nat} {ys : List Int} {F1 : Nat → Prop} {b0 b1 b2 b3 : Value}
    (hm : MapOn w2 bx bc bj bm bd mat lo nbl C1 F1) (hg : Gr F F1 w.heap.size) (hk : Kp (fun k => F k ∨ own0 = some k) w w2) (hb : w2.heap[w.heap.size]? = some (.cells #[b0, b1, b2, b3] 94 (0, 0)))
    (ho : w2.ownsRow base 3 1 (.slice A x.l.length c) x.l.length (ints (natI x.l))) (hob : ∀ g, (Value.slice A x.l.length c).ownBlock = some g → ¬ F1 g) (hn : ¬ F1 w.heap.size) (hN : NG ≤ w.heap.size) (hbx : bx < w.heap.size) :
    SW w bx bc bj bm bd mat lo nbl F own0 base C1 x A c q ys q C1 F1 ((((w2.setCell ⟨w.heap.size, 0, none⟩ (.int .i64 x.kind)).setCell ⟨w.heap.size, 1, none⟩ (.int .i64 x.size)).setCell ⟨w.heap.size, 2, none⟩ (.slice A x.l.length c)).setCell ⟨w.heap.size, 3, none⟩ (.int .i64 x.more)) := by
  have hk2 := set4_kp (a' := .int .i64 x.kind) (b' := .int .i64 x.size) (c' := .slice A x.l.length c) (d' := .int .i64 x.more) (Kp.refl (fun k => k = w.heap.size) w2) (.inl rfl)
  refine ⟨⟨hk2.blk hm.blk (by omega), hm.out, hm.rep.kp hk2 (fun i hi e => hn (by have : i = w.heap.size := e; exact this ▸ hi)) (fun i e => by have : i = w.heap.size := e; omega), hm.live, hm.vb, hm.n1, hm.n2, hm.inb, hm.far⟩, hg, hk.trans hk2 (fun i e => .inr (by have : i = w.heap.size := e; omega)), set4 hb, own_kp ho hk2 (own_ne ho hb (by decide)), hob, hn, CS.refl _ _, fun j b h1 h2 _ => by omega⟩
/-- One block more is written. -/
theorem SW.next {w6 wr : World} {own0 : Option Nat} {base : Nat} {x : Nd} {A : Option Addr} {c q k b : Nat} {ys : List Int} {F6 : Nat → Prop} (h : SW w bx bc bj bm bd mat lo nbl F own0 base C1 x A c q ys k Cc Fc wr)
    (hr : CRep w6 bc bj bm bd (Cc.wr b 0 (partB ys k)) F6) (hk : Kp Fc wr w6) (hg : Gr Fc F6 wr.heap.size) (hb : x.l[k]? = some b) (hq : q ≤ k) (hn : x.l.Nodup) (hbl : b < Cc.blocks) (hyb : Byt ys) :
    SW w bx bc bj bm bd mat lo nbl F own0 base C1 x A c q ys (k + 1) (Cc.wr b 0 (partB ys k)) F6 w6 := by
  have hvl := h.map.rep.viewlen hbl
  refine ⟨h.map.step hr hk hg rfl h.map.live (wr_vb h.map.vb (partB_byt hyb k) hbl), h.gr.trans hg h.kp.size, h.kp.trans hk (fun i hi => by rcases h.gr i hi with h1 | h1; exact .inl (.inl h1); exact .inr h1), hk.blk h.box h.n0, own_kp h.own hk (fun g e => h.ob g e), fun g e => hg.not (h.ob g e) (h.own.lt g e).2, hg.not h.n0 (lt_blk h.box), h.cs.trans (CS.wr ⟨k, hq, hb⟩), fun j b' h1 h2 hj => ?_⟩
  rw [view_full (partB_len ys k) hvl]
  by_cases e : j = k
  · subst e
    rw [hb] at hj
    cases hj
    rw [if_pos rfl]
  · rw [if_neg (fun e2 => e (idx_inj hn (by rw [hj, e2]) hb))]
    exact h.vw j b' h1 (by omega) hj

theorem inode_set_full (h : Tab w bt bx bc bj bm bd at_ n mat lo nbl C F T) (x : Nd) (lv v : Value) (ys : List Int) {ino fr : Int} (hx : x.size ≤ 4000) (hlv : ∃ A m c, lv = .slice A m c) (hv : Sl w v ys) (hy : ys.length ≤ 4000) (hfull : frees (bitC C mat) nbl < bks ys.length - bks x.size) :
    Calls Tryz.prog 57 #[.pointer (some ⟨bt, 0, none⟩), .int .i64 ino, .agg #[.int .i64 x.kind, .int .i64 x.size, lv, .int .i64 x.more], .int .i64 fr, v] w fun e w' => ∃ u, e = .returned u ∧ IsErr w' u [] 15 ∧ Kp (fun _ => False) w w' := by
  obtain ⟨A0, m0, c0, rfl⟩ := hlv
  obtain ⟨A, c, rfl, hv1, hv2, _⟩ := hv
  have hfr := frees_taken C mat lo nbl
  have hnb := h.map.n2
  have t1 := cell_blk h.blk 1
  simp at t1
  have HF := Lib.hid (fun (W : World) (hk : Kp (fun _ => False) w W) => (show Calls Tryz.prog 18 #[.pointer (some ⟨bx, 0, none⟩)] W fun e w' => e = .returned (.tuple #[.int .i64 (frees (bitC C mat) nbl : Nat), .nilIface]) ∧ Kp (fun _ => False) W w' from by
    have := alloc_Free_ok ((h.kp0 hk).map)
    rw [show ((nbl : Int) - ((taken C mat lo nbl).length : Int)) = ((frees (bitC C mat) nbl : Nat) : Int) by omega] at this
    exact this))
  have HGr := Lib.hid (fun w : World => budget_Grow (w := w) x.size ys.length hx hy)
  have hb33 := bks_le ys.length hy
  clear h hfr
  generalize frees (bitC C mat) nbl = f at *
  have hgl : (f : Int) < ((bks ys.length - bks x.size : Nat) : Int) := by omega
  generalize bks ys.length - bks x.size = gg at *
  generalize ys.length = m at *
  go_enter Tryz.func57, Tryz.ntmps57
  go_upto_region 1 with fail
  have hka := (Kp.refl (fun _ => False) w).alloc (.cells #[.int .i64 x.kind, .int .i64 x.size, .slice A0 m0 c0, .int .i64 x.more] 94)
  have Hp := Lib.hid (new_blk w (.cells #[.int .i64 x.kind, .int .i64 x.size, .slice A0 m0 c0, .int .i64 x.more] 94))
  have Hka := Lib.hid hka
  replace t1 := hka.cell t1 (fun h => h)
  clear hka
  generalize w.alloc (.cells #[.int .i64 x.kind, .int .i64 x.size, .slice A0 m0 c0, .int .i64 x.more] 94) = w0 at *
  go_wp2_with fail
  refine (HF.out _ Hka.out).mono ?_
  rintro e w1 ⟨rfl, hk1⟩
  have c1 := hk1.cell (by have := cell_blk Hp.out 1; simpa using this) (fun h => h)
  have Hk1 := Lib.hid (Hka.out.trans hk1 (Gr.refl _ _))
  clear hk1 t1
  go_wp2_with fail
  refine (HGr.out _).mono ?_
  rintro e w2 ⟨rfl, rfl⟩
  go_wp2_with fail
  go_ret
  exact ⟨_, rfl, rfl, Hk1.out⟩
theorem inode_set_ok (h : Tab w bt bx bc bj bm bd at_ n mat lo nbl C F T) {ino : Nat} (h1 : 1 ≤ ino) (h2 : ino ≤ n) (hN : NG ≤ w.heap.size) {base : Nat} (hNb : NG ≤ base) (hbs : base ≤ w.heap.size) {A : Option Addr} {c : Nat}
    (hown : w.ownsRow base 3 1 (.slice A (T ino).l.length c) (T ino).l.length (ints (natI (T ino).l))) (hob : ∀ g, (Value.slice A (T ino).l.length c).ownBlock = some g → ¬ F g) (hkd : (T ino).kind ≠ 0)
    (v : Value) (ys : List Int) (hv : Sl w v ys) (hvF : ∀ b, blockOf v = some b → b < w.heap.size ∧ ¬ F b ∧ ¬ (Value.slice A (T ino).l.length c).ownBlock = some b) (hy : ys.length ≤ 4000) (hyb : Byt ys) (fr : Nat) (hf1 : fr ≤ (T ino).size) (hf2 : fr ≤ ys.length) (hfe : ys.take fr = (dataOf C.view (T ino)).take fr)
    (hfree : bks ys.length ≤ (T ino).blks.length + frees (bitC C mat) nbl) (hr : Rm C.ch (mapW mat nbl ++ [at_ + ino - 1]) C.most lo (lo + nbl)) :
    Calls Tryz.prog 57 #[.pointer (some ⟨bt, 0, none⟩), .int .i64 ino, .agg #[.int .i64 (T ino).kind, .int .i64 (T ino).size, .slice A (T ino).l.length c, .int .i64 (T ino).more], .int .i64 fr, v] w (SetPost w bt bx bc bj bm bd at_ n mat lo nbl C F T (Value.slice A (T ino).l.length c).ownBlock ino ys) := by
  have hxo := h.ti.ok ino h1 h2
  have hx := hxo.size
  obtain ⟨Av, cv, rfl, hv1, hv2, _⟩ := id hv
  have hfr := frees_taken C mat lo nbl
  have hnb := h.map.n2
  have hbtl := lt_blk h.blk
  have t0 := cell_blk h.blk 0
  have t1 := cell_blk h.blk 1
  simp at t0 t1
  have hbx := bks_of hxo
  have HFr := Lib.hid (fun (W : World) (hk : Kp (fun _ => False) w W) => (show Calls Tryz.prog 18 #[.pointer (some ⟨bx, 0, none⟩)] W fun e w' => e = .returned (.tuple #[.int .i64 (frees (bitC C mat) nbl : Nat), .nilIface]) ∧ Kp (fun _ => False) W w' from by
    have := alloc_Free_ok ((h.kp0 hk).map)
    rw [show ((nbl : Int) - ((taken C mat lo nbl).length : Int)) = ((frees (bitC C mat) nbl : Nat) : Int) by omega] at this
    exact this))
  have HGr := Lib.hid (fun w : World => budget_Grow (w := w) (T ino).size ys.length hx hy)
  have hb33 := bks_le ys.length hy
  have hbitx : ∀ b ∈ (T ino).blks, bitC C mat (b - lo) = true := fun b hb => by
    have hr := hxo.rng b hb
    exact (h.ti.bit (b - lo) (by omega)).2 ⟨ino, h1, h2, by rw [show lo + (b - lo) = b by omega]; exact hb⟩
  have HFit := Lib.hid (fun (W : World) (hk : Kp (fun _ => False) w W) => inode_fit (x := T ino) (hk.blk h.blk (fun h => h)) h.out ((h.kp0 hk).map) (Nat.le_trans hN hk.size) hNb (Nat.le_trans hbs hk.size) h.geo (own_kp0 hown hk) hob hxo hbitx ys.length hy (fun e => absurd e hkd) hfree hr (fun b hb => List.mem_append_left _ (mem_mapW.2 hb)))
  have hgl : ¬ ((frees (bitC C mat) nbl : Nat) : Int) < ((bks ys.length - bks (T ino).size : Nat) : Int) := by omega
  have HH := Lib.hid h
  have HV := Lib.hid hv
  have HVF := Lib.hid hvF
  have Hown := Lib.hid hown
  have Hob := Lib.hid hob
  have Hyb := Lib.hid hyb
  have Hfe := Lib.hid hfe
  have HR := Lib.hid hr
  have T0 := Lib.hid t0
  have Hkd := Lib.hid hkd
  have hbt := h.out
  have hg1 := h.geo.g1
  have hg2 := h.geo.g2
  have hg3 := h.geo.g3
  have hg4 := h.geo.g4
  have hg5 := h.geo.g5
  have hbxl := lt_blk h.map.blk
  have Hbn := Lib.hid (show ¬ (F bt ∨ (Value.slice A (T ino).l.length c).ownBlock = some bt) from fun h' => by rcases h' with h' | h'; exact hbt h'; exact own_ne hown h.blk (by decide) bt h' rfl)
  clear h hfr hfe hyb hob hown hvF hv hr hbitx hxo hfree hkd t0
  generalize frees (bitC C mat) nbl = f at *
  generalize hgg : bks ys.length - bks (T ino).size = gg at *
  clear hgg hbx hb33
  generalize hxx : T ino = x at *
  have Hxx := Lib.hid hxx
  clear hxx
  have e1 : ys.length = ys.length := rfl
  generalize hm : ys.length = m at *
  have Hm := Lib.hid hm
  clear hm e1
  go_enter Tryz.func57, Tryz.ntmps57
  go_upto_region 1 with fail
  have hka := (Kp.refl (fun _ => False) w).alloc (.cells #[.int .i64 x.kind, .int .i64 x.size, .slice A x.l.length c, .int .i64 x.more] 94)
  have Hp := Lib.hid (new_blk w (.cells #[.int .i64 x.kind, .int .i64 x.size, .slice A x.l.length c, .int .i64 x.more] 94))
  have Hka := Lib.hid hka
  replace t1 := hka.cell t1 (fun h => h)
  clear hka
  generalize w.alloc (.cells #[.int .i64 x.kind, .int .i64 x.size, .slice A x.l.length c, .int .i64 x.more] 94) = w0 at *
  go_wp2_with fail
  refine (HFr.out _ Hka.out).mono ?_
  rintro e w1 ⟨rfl, hk1⟩
  have Hp1 := Lib.hid (hk1.blk Hp.out (fun h => h))
  have Hk1 := Lib.hid (Hka.out.trans hk1 (Gr.refl _ _))
  clear hk1 t1 Hp Hka
  have c0 := cell_blk Hp1.out 0
  have c1 := cell_blk Hp1.out 1
  have c2 := cell_blk Hp1.out 2
  have c3 := cell_blk Hp1.out 3
  simp at c0 c1 c2 c3
  go_wp2_with fail
  refine (HGr.out _).mono ?_
  rintro e w2 ⟨rfl, rfl⟩
  go_wp2_with fail
  refine (HFit.out _ Hk1.out).mono ?_
  rintro e w2 ⟨x', A', c', C1, F1, rfl, hR⟩
  have hlow : w.heap.size < w1.heap.size := lt_blk Hp1.out
  have Hp2 := Lib.hid (hR.kp.blk Hp1.out (fun h => by rcases h with h | h; exact absurd (HH.out.map.rep.disk.lt _ h) (Nat.lt_irrefl _); exact own_ne (own_kp0 Hown.out Hk1.out) Hp1.out (by decide) _ h rfl))
  have Hn0 := Lib.hid (hR.gr.not (show ¬ F w.heap.size from fun h => absurd (HH.out.map.rep.disk.lt _ h) (Nat.lt_irrefl _)) hlow)
  have HRR := Lib.hid hR
  clear hR c0 c1 c2 c3 HFit HFr HGr Hp1
  have c0 := cell_blk Hp2.out 0
  have c1 := cell_blk Hp2.out 1
  have c2 := cell_blk Hp2.out 2
  have c3 := cell_blk Hp2.out 3
  have f0 := frozen_blk Hp2.out 0
  have f1 := frozen_blk Hp2.out 1
  have f2 := frozen_blk Hp2.out 2
  have f3 := frozen_blk Hp2.out 3
  simp at c0 c1 c2 c3
  go_upto_region 7 with fail
  have Hsw := Lib.hid (SW.start (w := w) (F := F) (own0 := (Value.slice A x.l.length c).ownBlock) (q := fr / 128) (ys := ys) HRR.out.map (HRR.out.gr.mono (Nat.le_of_lt hlow)) ((Hk1.out.mono (fun _ h => h.elim)).trans HRR.out.kp (Gr.refl _ _)) Hp2.out HRR.out.own HRR.out.ob Hn0.out hN hbxl)
  clear c0 c1 c2 c3 f0 f1 f2 f3 Hp2
  generalize ((((w2.setCell ⟨w.heap.size, 0, none⟩ (.int .i64 x'.kind)).setCell ⟨w.heap.size, 1, none⟩ (.int .i64 x'.size)).setCell ⟨w.heap.size, 2, none⟩ (.slice A' x'.l.length c')).setCell ⟨w.heap.size, 3, none⟩ (.int .i64 x'.more)) = w3 at *
  have Hlen := Lib.hid (show x'.l.length = dat m by have := HRR.out.ok.len; rwa [HRR.out.sz] at this)
  have hN32 : x'.l.length ≤ 32 := HRR.out.ok.len32
  have hqN : fr / 128 ≤ x'.l.length := by rw [Hlen.out]; unfold dat; omega
  have HNd := Lib.hid (blks_l_nd HRR.out.ok.nd)
  have Hrng := Lib.hid (fun b (hb : b ∈ x'.l) => HRR.out.ok.rng b (Nd.mem_l hb))
  have Hx33 := Lib.hid (show x'.blks.length ≤ 33 by rw [Nd.blks_len]; split <;> omega)
  have HCS := Lib.hid (show CS (fun no => IsM mat nbl no ∨ no ∈ x'.blks) C C1 from HRR.out.cs.mono (fun no h => h.imp id (fun h => h.1)))
  have Hbig := Lib.hid (show ∀ k, k < x'.l.length → 128 * k < m from fun k hk => by have := Hlen.out; unfold dat at this; omega)
  generalize hNl : x'.l.length = N at *
  have HNl := Lib.hid hNl
  clear hNl
  generalize hq : fr / 128 = q at *
  have Hq := Lib.hid hq
  clear hq
  have Hq' := Lib.hid (show (fr : Int) / 128 = (q : Int) by have := Hq.out; omega)
  have hq' := Hq'.out
  go_wp2_with fail
  clear hq'
  go_loopw [13] (fun i wr => ∃ (k : Nat) (Cc : CSt) (Fc : Nat → Prop), i = .int .i64 k ∧ q ≤ k ∧ k ≤ N ∧ SW w bx bc bj bm bd mat lo nbl F (Value.slice A x.l.length c).ownBlock base C1 x' A' c' q ys k Cc Fc wr) (fun i _ => N - (intOf i).toNat)
  case atStart => exact ⟨q, C1, F1, rfl, Nat.le_refl _, hqN, Hsw.out⟩
  case round =>
    clear Hsw
    obtain ⟨k, Cc, Fc, rfl, hqk, hkN, hsw⟩ := hrel
    have Hsw := Lib.hid hsw
    have b2 : wr.cell? ⟨w.heap.size, 2, none⟩ = some (.slice A' N c') := by rw [cell_blk hsw.box, HNl.out]; rfl
    clear hsw
    by_cases hlt : k < N
    · have hlt' : (k : Int) < (N : Int) := by omega
      have hbg := Hbig.out k hlt
      obtain ⟨b, hb⟩ : ∃ b, x'.l[k]? = some b := ⟨x'.l[k]'(by have := HNl.out; omega), List.getElem?_eq_getElem _⟩
      have hbm := List.mem_of_getElem? hb
      have hbr := Hrng.out b hbm
      obtain ⟨ad, rfl, h4⟩ : ∃ ad, A' = some ad ∧ wr.cell? (ad.add k) = some (.int .i64 (b : Int)) := by
        obtain ⟨A2, c2, e, _, _, h3⟩ := (own_slI Hsw.out.own).1
        obtain ⟨ad, e2, h4⟩ := h3 (by intro h0; have h0 := congrArg List.length h0; rw [natI_length, HNl.out] at h0; simp only [List.length_nil] at h0; omega)
        simp only [Value.slice.injEq] at e
        obtain ⟨rfl, _, _⟩ := e
        exact ⟨ad, e2, h4 k _ (by rw [ints_natI, hb]; rfl)⟩
      have hadF : ¬ Fc ad.block := Hsw.out.ob ad.block rfl
      have hbtF : ¬ Fc bt := Hsw.out.gr.not hbt hbtl
      have Hv0 := Lib.hid (HV.out.kp Hsw.out.kp (fun b' hb' h => by have := HVF.out b' hb'; rcases h with h | h; exact this.2.1 h; exact this.2.2 h))
      have Hv1 := Lib.hid (show ∃ adv, Av = some adv ∧ Sl wr (.slice (some (adv.add (128 * k))) (m - 128 * k) (cv - 128 * k)) (ys.drop (128 * k)) from by
        obtain ⟨_, q1, q2, q3⟩ := Hv0.out.inv
        obtain ⟨adv, rfl, _⟩ := q3 (by rintro h0; have := Hm.out; rw [h0] at this; simp at this; omega)
        have := Hm.out
        exact ⟨adv, rfl, Hv0.out.drop (m := 128 * k) (by omega) (by omega)⟩)
      obtain ⟨adv, rfl, hv1'⟩ := Hv1.out
      have Hvd := Lib.hid hv1'
      have hmcv : m ≤ cv ∧ 128 * k < cv := by
        obtain ⟨q0, q1, q2, q3⟩ := Hv0.out.inv
        have := Hm.out
        omega
      have Hwt0 := Lib.hid (Hsw.out.kp.cell T0.out Hbn.out)
      obtain ⟨N0, hN0⟩ : ∃ N0, N0 = wr.heap.size := ⟨_, rfl⟩
      have HN0 := Lib.hid hN0
      have H4 := Lib.hid h4
      have Hb := Lib.hid hb
      clear hv1' hN0 Hv1 h4 hb
      go_wp2_with (first
        | (at_make; refine wpList_make128g rfl rfl N0 HN0.out.symm ?_; intro w4 hk4 hr4 hz4; have Hr4 := Lib.hid hr4; have Hk4 := Lib.hid hk4; clear hr4 hk4 hz4)
        | ((with_reducible refine at_slice rfl ?_); refine wpList_slice_run rfl _ _ _ _ _ rfl _ _ _ _ _ rfl rfl rfl rfl (run_slice_b (k := 128 * k) (by omega) (by omega) (by omega) (by omega)) ?_)
        | ((with_reducible refine at_copy rfl ?_); (refine wpList_copyB rfl _ _ rfl _ _ _ rfl _ rfl N0 0 (zs 128) (ys.drop (128 * k)) Hr4.out (Hvd.out.kp Hk4.out (fun _ _ h => h)) (fun _ => rfl) (by rw [zs_length, Nat.zero_add]; exact Nat.min_le_right _ _) ?_); intro w5 hk5 hz5 hr5; have Hr5 := Lib.hid (show RowE w5 N0 (partB ys k) from hr5); have Hk5 := Lib.hid (show Kp (fun _ => False) wr w5 from Hk4.out.over hk5 (fun i e => by have e' : i = N0 := e; have := HN0.out; omega)); clear hk5 hz5 hr5))
      have hCb : Cc.blocks = C.blocks := by rw [Hsw.out.cs.bl, HRR.out.cs.bl]
      have hCm : Cc.most = C.most := by rw [Hsw.out.cs.mo, HRR.out.cs.mo]
      have HWr := Lib.hid (fun (W : World) (hk : Kp (fun _ => False) w5 W) => cache_Write_ok (Hsw.out.map.rep.kp0 (Hk5.out.trans hk (Gr.refl _ _))) Hsw.out.map.live (b : Int) 0 (by omega) (by rw [hCb]; omega) (by omega) _ (partB ys k) ((Hr5.out.kp hk (fun h => h)).sl128 (partB_len ys k)) (by rw [partB_len]; omega) (by
        rw [Int.toNat_natCast, hCm]
        exact HR.out.room Hx33.out (fun a ha => HRR.out.ok.rng a ha) Hsw.out.map.rep.nd (fun a ha => by
          rcases Hsw.out.cs.ch a ha with h | ⟨j, _, hj⟩
          · rcases HCS.out.ch a h with h | h | h
            · exact .inl h
            · exact .inr (.inl (List.mem_append_left _ (mem_mapW.2 h)))
            · exact .inr (.inr h)
          · exact .inr (.inr (Nd.mem_l (List.mem_of_getElem? hj)))) (.inr (Nd.mem_l hbm))))
      have hl0 : ∀ W : World, Kp Fc w5 W → W.cell? ⟨bt, 0, none⟩ = some (.pointer (some ⟨bc, 0, none⟩)) := fun W hk => hk.cell (Hk5.out.cell Hwt0.out (fun h => h)) hbtF
      have hl2 : ∀ W : World, Kp Fc w5 W → W.cell? ⟨w.heap.size, 2, none⟩ = some (.slice (some ad) N c') := fun W hk => hk.cell (Hk5.out.cell (by rw [cell_blk Hsw.out.box, HNl.out]; rfl) (fun h => h)) Hsw.out.n0
      have hl3 : ∀ W : World, Kp Fc w5 W → W.cell? (ad.add k) = some (.int .i64 (b : Int)) := fun W hk => hk.cell (Hk5.out.cell H4.out (fun h => h)) (by rw [add_block]; exact hadF)
      have hs5 : Kp Fc w5 w5 := Kp.refl _ _
      have hbC := Lib.hid (show b < Cc.blocks by omega)
      clear hCb hCm b2
      go_region_held_law (fun W => Kp Fc w5 W)
        (first | exact Kp.refl _ _ | assumption | exact Kp.drew (by assumption))
        (first | (go_at_call 94; refine (HWr.out _ (by first | exact Kp.refl _ _ | exact (Kp.refl _ _).drew)).mono ?_; rintro e w6 ⟨rfl, F6, hr6, hk6, hg6⟩; have hk6' : Kp Fc w5 w6 := Kp.trans (F1 := Fc) (by first | exact Kp.refl _ _ | exact (Kp.refl _ _).drew) hk6 (Gr.refl _ _); have hg6' : Gr Fc F6 wr.heap.size := hg6.mono (Nat.le_trans Hk5.out.size (by first | exact Nat.le_refl _))))
      rw [Int.toNat_natCast] at hr6
      have Hsw6 := Lib.hid (Hsw.out.next hr6 (Kp.trans (F1 := Fc) (Hk5.out.mono (fun _ h => h.elim)) (show Kp Fc w5 w6 from hk6') (Gr.refl _ _)) hg6' Hb.out hqk HNd.out hbC.out Hyb.out)
      clear hr6 hk6 hk6' hg6 hg6' hl0 hl2 hl3 hs5
      go_wp2_with fail
      go_roundw
      case rel => exact ⟨k + 1, _, F6, by go_num, by omega, by omega, Hsw6.out⟩
      case measure => simp [intOf]; omega
    · have hge : ¬ (k : Int) < (N : Int) := by omega
      have hkN' : k = N := by omega
      subst hkN'
      have b0 : wr.cell? ⟨w.heap.size, 0, none⟩ = some (.int .i64 x'.kind) := by rw [cell_blk Hsw.out.box]; rfl
      have b1 : wr.cell? ⟨w.heap.size, 1, none⟩ = some (.int .i64 x'.size) := by rw [cell_blk Hsw.out.box]; rfl
      have b3 : wr.cell? ⟨w.heap.size, 3, none⟩ = some (.int .i64 x'.more) := by rw [cell_blk Hsw.out.box]; rfl
      have hLb : ∀ no, LateB x' q no → no ∈ x'.blks := fun no ⟨j, _, hj⟩ => Nd.mem_l (List.mem_of_getElem? hj)
      have hlo1 : ∀ b ∈ x'.blks, lo ≤ b := fun b hb => (HRR.out.ok.rng b hb).1
      have HfitC := Lib.hid (HRR.out.fit.view (C2 := Cc) (fun j hj => bitC_congr (fun no hno => Hsw.out.cs.vw no (fun h => by have := hlo1 no (hLb no h); unfold IsM at hno; omega)) j hj))
      have HcsC := Lib.hid (HCS.out.trans (Hsw.out.cs.mono (fun no h => .inr (hLb no h))))
      have HTW := Lib.hid (tab_write (w := wr) (F1 := Fc) (Hsw.out.kp.blk HH.out.blk Hbn.out) (Hsw.out.gr.not hbt hbtl) Hsw.out.map HH.out.geo HH.out.ti h1 h2 (by rw [Hxx.out]; exact HfitC.out) HRR.out.ok HcsC.out HR.out (.slice A' k c') (by have := (own_slI Hsw.out.own).1; rwa [HNl.out] at this))
      go_wp2_with fail
      refine HTW.out.mono ?_
      rintro e w7 ⟨rfl, F7, hT7, hk7, hg7⟩
      have HT7 := Lib.hid hT7
      have Hk7 := Lib.hid hk7
      have Hg7 := Lib.hid hg7
      clear hT7 hk7 hg7 b0 b1 b2 b3
      go_wp2_with fail
      go_ret
      have hmm : 8 < x'.l.length → x'.more ≠ 0 := fun h8 h0 => by have := HRR.out.ok.more.1 h0; omega
      have hcn := nodeW_cs Cc at_ ino x'
      have hcn2 : CS (fun no => no = at_ + ino - 1 ∨ no ∈ x'.blks) Cc (Cc.nodeW at_ ino x') := hcn.mono (fun no h => h.imp id (fun h => by rw [h.2]; exact Nd.mem_more (hmm h.1)))
      have hvl : ∀ no, no ∈ x'.l → (Cc.nodeW at_ ino x').view no = Cc.view no := fun no hno => hcn.vw no (by
        have h0 := Hrng.out no hno
        rintro (h | ⟨h8, h⟩)
        · omega
        · exact more_not_l HRR.out.ok.nd (hmm h8) (h ▸ hno))
      refine ⟨rfl, x', _, F7, HT7.out, ?_, by rw [HRR.out.sz, Hm.out], ?_, ?_, ?_, ?_, ?_, by rw [Hxx.out]; exact newB_of (by have := HH.out.ti.ok ino h1 h2; rwa [Hxx.out] at this) HRR.out.ok HRR.out.pre HRR.out.mr⟩
      · rw [Hxx.out]; exact HRR.out.kd
      · have hxo := HH.out.ti.ok ino h1 h2
        rw [Hxx.out] at hxo
        have hbl7 : (Cc.nodeW at_ ino x').blocks = C.blocks := by rw [hcn.bl, HcsC.out.bl]
        have hlA : ∀ c ∈ x.l, (C.view c).length = 128 := fun c hc => HH.out.map.rep.viewlen (by have := hxo.rng c (Nd.mem_l hc); omega)
        have hlB : ∀ c ∈ x'.l, ((Cc.nodeW at_ ino x').view c).length = 128 := fun c hc => HT7.out.map.rep.viewlen (by have := Hrng.out c hc; omega)
        refine data_set (v := C.view) (x := x) (fr := fr) hlA hlB (by rw [hxo.len]; unfold dat; omega) (by rw [HRR.out.sz, Hm.out]) (by rw [HNl.out, Hlen.out, Hm.out]) hf1 (by rw [Hm.out]; exact hf2) Hfe.out (fun i hi => ?_) (fun i c hi hc => ?_)
        · rw [Hq.out] at hi
          have hq2 := Hq.out
          have hix : i < x.l.length := by rw [hxo.len]; unfold dat; omega
          have hiN : i < x'.l.length := by rw [HNl.out]; omega
          have hp := HRR.out.pre i hix hiN
          obtain ⟨cc, hcc⟩ : ∃ cc, x.l[i]? = some cc := ⟨x.l[i], List.getElem?_eq_getElem hix⟩
          rw [hcc] at hp
          have hmem := List.mem_of_getElem? hp
          have h0 := Hrng.out cc hmem
          refine ⟨cc, hcc, hp, ?_⟩
          rw [hvl cc hmem, Hsw.out.cs.vw cc (fun ⟨j, hj, hj2⟩ => by have := idx_inj HNd.out hp hj2; omega), HRR.out.cs.vw cc (by
            rintro (h | ⟨_, h⟩)
            · unfold IsM at h; omega
            · exact h (List.mem_iff_getElem?.2 ⟨i, by rw [List.getElem?_take, if_pos (by omega)]; exact hcc⟩))]
        · rw [Hq.out] at hi
          rw [hvl c (List.mem_of_getElem? hc)]
          exact Hsw.out.vw i c hi (by have := (List.getElem?_eq_some_iff.1 hc).1; rw [HNl.out] at this; exact this) hc
      · intro j j1 j2 hne
        exact HH.out.ti.data HH.out.geo h1 h2 (by rw [Hxx.out]; exact HfitC.out) HcsC.out hcn2 j1 j2 hne
      · exact (HcsC.out.mono (fun no h => by rcases h with h | h; exact .inl h; exact .inr (.inr h))).trans (hcn2.mono (fun no h => .inr h))
      · exact Hsw.out.kp.trans Hk7.out (fun i hi => by rcases Hsw.out.gr i hi with h | h; exact .inl (.inl h); exact .inr h)
      · exact Hsw.out.gr.trans Hg7.out Hsw.out.kp.size
end Go.Proofs.YthjbpbahcemfgaaGreatDoor
