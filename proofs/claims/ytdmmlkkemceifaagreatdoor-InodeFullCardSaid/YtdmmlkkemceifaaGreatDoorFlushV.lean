/- The cache: Flush writes what was changed as one group. -/
/- What a Flush leaves, on a disk that lives: every block reads as it was written last. -/
import Derived.Test.YtdmmlkkemceifaaGreatDoorCommit
import Derived.Test.YtdmmlkkemceifaaGreatDoorChg
namespace Go.Proofs.YtdmmlkkemceifaaGreatDoor
open Go.RowKit
set_option maxHeartbeats 2000000
set_option maxRecDepth 20000

theorem journal_Commit_none {w : World} {bj bd at_ most : Nat} {D : DSt} {F : Nat → Prop} (hj : JBlk w bj bd at_ most) (h : DRep w bd D F) (v : Value) (ht : BT w v []) :
    Calls Tryz.prog 39 #[.pointer (some ⟨bj, 0, none⟩), v] w fun e w' => e = .returned .nilIface ∧ Kp (fun _ => False) w w' := by
  obtain ⟨A, c, rfl, _, _, _⟩ := id ht
  have hG := Lib.hid (journal_good hj h _ [] ht.bs (fun x hx => by cases hx) List.nodup_nil (by simp))
  have c2 := cell_blk hj 2
  simp at c2
  clear hj h ht
  go_enter Tryz.func39, Tryz.ntmps39
  go_wp2_with fail
  refine hG.out.mono ?_
  rintro e wg ⟨rfl, hkg⟩
  have cg2 := hkg.cell c2 (fun h => h)
  have Hkg := Lib.hid hkg
  clear c2 hkg hG
  go_wp2_with fail
  go_ret
  exact ⟨rfl, Hkg.out⟩
theorem run_lookup_yes1 {w : World} {bm clock : Nat} {es : Array MapEntry} {ks : List Nat} {T E : TypeId} (hT : Tryz.prog.underlying T = some (.map 3 E)) (hb : w.heap[bm]? = some (.map es clock)) (hk : Keys es ks) (hnd : ks.Nodup) {j k : Nat} {e : MapEntry} (hj : ks[j]? = some k) (he : es[j]? = some e) :
    (Instr.lookup T (.map (some bm)) (.int .i64 (k : Int)) false).run Tryz.prog w = .ok e.val w := by
  have hf := run_find (w := w) (findNow_some es.toList ks 0 j e hk hnd hj (by rw [Array.getElem?_toList]; exact he))
  simp [Instr.lookup, run_underlying hT, run_check, hf, Result.andThen, getObj, Sem.run, hb]
/-- What a Flush writes. -/
def CSt.group (C : CSt) : List (Nat × List Int) := C.chs.map fun no => (no, C.cont no)
theorem CSt.group_len (C : CSt) : C.group.length = C.chs.length := by simp [CSt.group]
/-- What its Commit answers, and the disk behind it. -/
def CSt.commit (C : CSt) : EV × DSt := if C.group = [] then (none, C.D) else C.D.runs (cwOf C.jat C.group)
/-- The cache behind a Flush. -/
def CSt.flush (C : CSt) : CSt := if C.commit.1 = none then { C with D := C.commit.2, ch := [] } else { C with D := C.commit.2 }
theorem Tryz.infoBlk : (Tryz.prog.info? 84).map (fun i => (i.zero, i.size, i.bytes)) = some (some (.agg #[.int .i64 0, .slice none 0 0]), 2, 32) := by kernel_rfl
/-- The cells of the blocks so far. -/
def gcells (vf : Nat → Value) (ns : List Nat) : List Value := ns.flatMap fun no => [.int .i64 (no : Nat), vf no]
theorem gcells_snoc (vf : Nat → Value) (ns : List Nat) (n : Nat) : gcells vf (ns ++ [n]) = gcells vf ns ++ [.int .i64 (n : Nat), vf n] := by simp [gcells]
theorem gcells_get (vf : Nat → Value) : ∀ (ns : List Nat) (i no : Nat), ns[i]? = some no → (gcells vf ns)[i * 2]? = some (.int .i64 (no : Nat)) ∧ (gcells vf ns)[i * 2 + 1]? = some (vf no)
  | [], _, _, h => by cases h
  | n :: ns, 0, no, h => by
    simp at h; subst h; exact ⟨rfl, rfl⟩
  | n :: ns, i + 1, no, h => by
    have := gcells_get vf ns i no (by simpa using h)
    rw [show (i + 1) * 2 = i * 2 + 1 + 1 by omega]
    exact this

theorem DRep.grow {w : World} {bd : Nat} {D : DSt} {F F' : Nat → Prop} (h : DRep w bd D F') (h1 : ∀ k, F k → k < w.heap.size) (h2 : Hi F) (h3 : FCl w F) : DRep w bd D (fun k => F k ∨ F' k) := by
  obtain ⟨⟨bl, rows, a1, a2, a3, a4, a5⟩, ho, hl, hf, hg, hh, hc⟩ := h
  refine ⟨⟨bl, rows, a1, a2, a3, .inr a4, fun i hi => ?_⟩, .inr ho, fun k hk => hk.elim (h1 k) (hl k), hf, hg, fun k hk => hk.elim (h2 k) (hh k), fun k hk cs fr => hk.elim (fun h => h3 k h cs fr) (fun h => hc k h cs fr)⟩
  obtain ⟨v, hv, hr⟩ := a5 i hi
  refine ⟨v, hv, ?_⟩
  rcases hr with hz | ⟨g', c', e1, e2, e3, e4, e5, e6⟩
  · exact .inl hz
  · exact .inr ⟨g', c', e1, e2, e3, .inr e4, e5, e6⟩
theorem FCl.kpD {w W : World} {bd : Nat} {D D' : DSt} {F F' : Nat → Prop} (hc : FCl w F) (h : DRep w bd D F) (h' : DRep W bd D' F') (k : KpD bd w W) : FCl W F := by
  obtain ⟨bl, rows, e1, e2, _⟩ := h.ex
  obtain ⟨bl', rows', e1', e2', _⟩ := h'.ex
  have hL : DL w bd bl := ⟨D.n, by rw [cell_blk e1]; rfl⟩
  obtain ⟨kk, n, hn⟩ := k bl hL
  have hbb : bl' = bl := by
    rw [cell_blk e1'] at hn
    simp at hn
    exact hn.1
  intro b hb cs fr
  by_cases h1 : b = bd
  · subst h1; rw [e1']; simp
  · by_cases h2 : b = bl
    · subst h2; rw [hbb] at e2'; rw [e2']; simp
    · rw [kk.block b (h.lt b hb) (by rintro (h | h); exact h1 h; exact h2 h)]
      exact hc b hb cs fr
/-- The cache over a disk whose own blocks alone were turned. -/
theorem CRep.disk' {w W : World} {bc bj bm bd : Nat} {C : CSt} {D' : DSt} {F F' : Nat → Prop} (h : CRep w bc bj bm bd C F) (hd : DRep W bd D' F') (k : KpD bd w W) (hs : w.heap.size ≤ W.heap.size) (hn : D'.n = C.D.n) : CRep W bc bj bm bd { C with D := D' } (fun k => F k ∨ F' k) := by
  obtain ⟨h1, h2, ⟨es, cl, h3, h4, h5⟩, h6, h7, h8, h9, h10, es', cl', hs1, hs2⟩ := h
  have hm : ∀ {b : Nat} {a : Array MapEntry} {c : Nat}, w.heap[b]? = some (.map a c) → W.heap[b]? = some (.map a c) := fun hb => k.blk h7 hb (by simp) (by simp)
  refine ⟨k.blk h7 h1 (by intro cs fr e; injection e with _ e2; exact absurd e2 (by decide)) (by intro cs fr e; injection e with _ e2; exact absurd e2 (by decide)), h2.kpD h7 k, ⟨es, cl, hm h3, h4, fun i no hi => ?_⟩, ⟨.inl h6.1, .inl h6.2.1, .inl h6.2.2⟩,
    hd.grow (fun k hk => Nat.lt_of_lt_of_le (h7.lt k hk) hs) h7.hi (h7.cl.kpD h7 hd k), h8, h9, ⟨h10.1, h10.2.1, by show C.blocks ≤ D'.n; rw [hn]; exact h10.2.2⟩, es', cl', hm hs1, hs2⟩
  obtain ⟨e, a, g, c, b1, b2, b3, b4, b5, b6⟩ := h5 i no hi
  exact ⟨e, a, g, c, b1, b2, b3, b4.kpD h7 k, .inl b5, b6⟩
theorem CSt.chs_mem {C : CSt} {no : Nat} : no ∈ C.chs ↔ no ∈ C.ch := C.chs_perm.mem_iff
theorem gcells_len (vf : Nat → Value) (ns : List Nat) : (gcells vf ns).length = ns.length * 2 := by
  induction ns with
  | nil => rfl
  | cons n ns ih => simp only [gcells, List.flatMap_cons, List.length_append, List.length_cons, List.length_nil] at *; omega
theorem row_kpF {w w' : World} {base e s n : Nat} {v : Value} {xs : List Value} (h : w.ownsRow base e s v n xs) (k : Kp (fun _ => False) w w') : w'.ownsRow base e s v n xs := row_kp0 h k

theorem group_bt {w : World} {base : Nat} {x : Value} {C : CSt} {vf : Nat → Value} {F : Nat → Prop} (h : w.ownsRow base 84 2 x C.chs.length (gcells vf C.chs)) (hr : ∀ no ∈ C.ch, RowS w F (vf no) (C.cont no)) : BT w x C.group := by
  obtain ⟨_, ⟨rfl, h0⟩ | ⟨g, cap, cur, rfl, h3, h4, h5, h6, h7, h8⟩⟩ := h
  · have : C.group = [] := List.eq_nil_of_length_eq_zero (by rw [CSt.group_len]; exact h0)
    rw [this]
    exact ⟨none, 0, rfl, Nat.le_refl _, by simp [maxLen], fun h => absurd rfl h⟩
  · refine ⟨_, cap, by rw [CSt.group_len], by rw [CSt.group_len]; exact h5, h6, fun _ => ⟨g, 0, cur, (0, 0), rfl, h4, fun i no ys hi => ?_⟩⟩
    rw [CSt.group, List.getElem?_map, Option.map_eq_some_iff] at hi
    obtain ⟨n, hn, e⟩ := hi
    simp only [Prod.mk.injEq] at e
    obtain ⟨rfl, rfl⟩ := e
    have hlt := (List.getElem?_eq_some_iff.1 hn).1
    obtain ⟨q1, q2⟩ := gcells_get vf _ _ _ hn
    obtain ⟨g2, c2, e2, r1, r2, r3, _, r5⟩ := hr n (CSt.chs_mem.1 (List.mem_of_getElem? hn))
    rw [← h8, List.getElem?_take, if_pos (by omega), Array.getElem?_toList] at q1 q2
    rw [e2] at q2
    exact ⟨by rw [Nat.zero_add]; exact q1, g2, c2, by rw [Nat.zero_add]; exact q2, r1, r2, r3, r5⟩
theorem cache_Flush {w : World} {bc bj bm bd : Nat} {C : CSt} {F : Nat → Prop} (h : CRep w bc bj bm bd C F) (hz : C.D.Fz) (hjat : C.blocks ≤ C.jat) (hroom : C.jat + need C.most ≤ C.D.n) :
    Calls Tryz.prog 13 #[.pointer (some ⟨bc, 0, none⟩)] w fun e w' => ∃ u, e = .returned u ∧ ErrV w' u (wrapE (tx [99, 97, 99, 104, 101]) (tx []) (wrapE (tx [106, 111, 117, 114, 110, 97, 108]) (tx []) C.commit.1)) ∧
      ∃ F', CRep w' bc bj bm bd C.flush F' ∧ Kp F w w' ∧ Gr F F' w.heap.size := by
  have hM := cell_blk h.cblk 2
  have hC := cell_blk h.cblk 0
  simp at hM hC
  obtain ⟨es, cl, hm1, hm2, hm3⟩ := h.mblk
  have hfew := h.few
  have hfw := h.disk.few
  obtain ⟨vf, hvf⟩ := Classical.skolem.1 (show ∀ no : Nat, ∃ u : Value, no ∈ C.ch → (∀ W, Kp (fun _ => False) w W → (Instr.lookup 80 (.map (some bm)) (.int .i64 (no : Int)) false).run Tryz.prog W = .ok u W) ∧ RowS w F u (C.cont no) from fun no => by
    by_cases hin : no ∈ C.ch
    · obtain ⟨j, hj⟩ := List.mem_iff_getElem?.1 hin
      obtain ⟨e, he, hr⟩ := hm3 j no hj
      exact ⟨e.val, fun _ => ⟨fun W hW => run_lookup_yes1 Tryz.underlying80 (hW.blk hm1 (fun h => h)) hm2 h.nd hj he, hr⟩⟩
    · exact ⟨undef, fun h => absurd h hin⟩)
  have HV := Lib.hid hvf
  have H := Lib.hid h
  have Hz := Lib.hid hz
  have hlen : C.chs.length ≤ C.most := by rw [C.chs_perm.length_eq]; exact hfew.1
  have HM := Lib.hid hM
  have HC0 := Lib.hid hC
  clear hvf hm1 hm2 hm3 h hz hM hC
  go_enter Tryz.func13, Tryz.ntmps13
  go_wp2_with fail
  refine (cache_Changed_ok H.out).mono ?_
  rintro e w1 ⟨vc, rfl, hvc, hk1⟩
  have Hk1 := Lib.hid hk1
  obtain ⟨Ac, rfl, hcm, hvc2⟩ := hvc
  have Hvc := Lib.hid hvc2
  clear hk1 hvc2
  unfold maxLen at hcm
  go_wp2_with fail
  go_loopw [3, 10] (fun x y wr => ∃ (i : Nat), y = .int .i64 (i : Nat) ∧ i ≤ C.chs.length ∧ wr.ownsRow w1.heap.size 84 2 x i (gcells vf (C.chs.take i)) ∧ Kp (fun _ => False) w1 wr) (fun _ y _ => C.chs.length - (intOf y).toNat)
  case atStart => exact ⟨0, rfl, by omega, World.ownsRow_nil _ _ _ _, Kp.refl _ _⟩
  case round =>
    obtain ⟨i, rfl, hi, hown, hk⟩ := hrel
    have Hown := Lib.hid hown
    have Hk := Lib.hid hk
    have Hkw := Lib.hid (Hk1.out.trans hk (Gr.refl _ _))
    by_cases hlt : i < C.chs.length
    · have hy : (i : Int) < (C.chs.length : Int) := by omega
      have hy0 : (0 : Int) ≤ (i : Int) := by omega
      obtain ⟨no, hno⟩ : ∃ no, C.chs[i]? = some no := ⟨_, List.getElem?_eq_getElem hlt⟩
      obtain ⟨g, rfl, hg, cs, hb, hcs⟩ := Hvc.out (by intro h0; rw [h0] at hno; cases hno)
      have cc := cell_blk (hk.blk hb (fun h => h)) i
      rw [hcs i no hno] at cc
      have hmem : no ∈ C.ch := CSt.chs_mem.1 (List.mem_of_getElem? hno)
      obtain ⟨hlk, g2, c2, hu, hu1, hu2, _, _, _⟩ := HV.out no hmem
      have hlk' := hlk wr Hkw.out
      rw [hu] at hlk'
      have hM := Hkw.out.cell HM.out (fun h => h)
      have Hno := Lib.hid (take_succ' hno)
      have HU := Lib.hid hu
      obtain ⟨i0, hi0, hz0, hz1, hz2⟩ := info_parts Tryz.infoBlk
      have hws := Hk.out.size
      have hws1 := Hk1.out.size
      clear hown hk hb hcs hno hlk hu
      go_wp2_with ((at_builtin; refine wpList_append_own _ rfl _ _ 77 rfl w1.heap.size 84 i0 (.agg #[.int .i64 0, .slice none 0 0]) 2 32 Tryz.underlying77 hi0 hz0 hz1 hz2 rfl (by decide) _ _ _ rfl (Hown.out.alloc _) ⟨wr.heap.size, 0, none⟩ 1 1 [.int .i64 (no : Nat), .slice (some ⟨g2, 0, none⟩) 128 c2] rfl rfl (fun j u hj => by have e : (⟨wr.heap.size, 0, none⟩ : Addr).add j = ⟨wr.heap.size, j, none⟩ := (by unfold Addr.add; split <;> simp_all); rw [e, cell_blk (new_blk wr _)]; simpa using hj) (by simp [Value.oneCell']) (by unfold maxLen; omega) (by omega) (le_alloc _ (by omega)) ?_; intro v' w2 hown2 hgrow _; have Hown2 := Lib.hid hown2; have Hgrow := Lib.hid hgrow; clear hown2 hgrow))
      go_roundw
      case rel => exact ⟨i + 1, by go_num, by omega, by rw [Hno.out, gcells_snoc, HU.out]; exact Hown2.out, (Hk.out.alloc _).grown Hgrow.out (fun k hk => .inr (Hown.out.lt k hk).1)⟩
      case measure => simp [intOf]; omega
    · have hy : ¬ (i : Int) < (C.chs.length : Int) := by omega
      have him : i = C.chs.length := by omega
      have hil : C.chs.take i = C.chs := List.take_of_length_le (by omega)
      rw [hil, him] at hown
      have hrl := H.out.kp0 Hkw.out
      have hbt := Lib.hid (group_bt hown (F := F) (fun no hn => (HV.out no hn).2.kp Hkw.out (fun _ _ h => h)))
      have HR := Lib.hid hrl
      have hC0 := Hkw.out.cell HC0.out (fun h => h)
      clear hown hk hil him hrl
      go_wp2_with fail
      by_cases hge : C.group = []
      · have hb0 := hbt.out
        rw [hge] at hb0
        have HCN := Lib.hid (journal_Commit_none HR.out.jblk HR.out.disk _ hb0)
        have hcom : C.commit = (none, C.D) := by rw [CSt.commit, if_pos hge]
        have Hcom := Lib.hid hcom
        have Hfl := Lib.hid (show C.flush = C.drop by rw [CSt.flush, hcom]; simp [CSt.drop])
        clear hcom hge hb0
        refine HCN.out.mono ?_
        rintro e w5 ⟨rfl, hk5⟩
        have HR5 := Lib.hid (HR.out.kp0 hk5)
        have Hk5 := Lib.hid (Hkw.out.trans hk5 (Gr.refl _ _))
        have hc2 := cell_blk HR5.out.cblk 2
        simp at hc2
        obtain ⟨es5, cl5, hm5, _, _⟩ := HR5.out.mblk
        have hcl := run_clear_map (w := w5) (ty := 0) Tryz.underlying80 hm5
        have Hm5 := Lib.hid hm5
        clear hk5 hm5
        go_wp2_with fail
        go_ret
        rw [Hcom.out, Hfl.out]
        exact ⟨_, rfl, rfl, F, HR5.out.cleared Hm5.out, (Hk5.out.mono (fun _ h => h.elim)).trans ((putO_kp w5 bm _).mono (fun i e => (show i = bm from e) ▸ H.out.own.2.2)) (Gr.refl _ _), Gr.refl _ _⟩
      · have hcom : C.commit = C.D.runs (cwOf C.jat C.group) := by rw [CSt.commit, if_neg hge]
        have HCC := Lib.hid (journal_Commit HR.out.jblk HR.out.disk Hz.out _ C.group hbt.out (fun x hx => by
          obtain ⟨no, hno, rfl⟩ := List.mem_map.1 hx
          have hmem := CSt.chs_mem.1 hno
          have := H.out.inb no hmem
          exact ⟨by show no < _; omega, by show no < _; omega, (HV.out no hmem).2.sl.2.2⟩)
          (by rw [show C.group.map (·.1) = C.chs by rw [CSt.group, List.map_map]; exact List.map_id _]; exact C.chs_perm.nodup_iff.2 H.out.nd) hge (by rw [CSt.group_len]; exact hlen) hfew.2.1 hroom)
        rw [← hcom] at HCC
        have HN := Lib.hid (show C.commit.2.n = C.D.n by rw [hcom, DSt.runs_n])
        have Hcom := Lib.hid hcom
        clear hcom hge
        refine HCC.out.mono ?_
        rintro e w5 ⟨u5, rfl, hu5, F5, hd5, hk5, hg5, hkd5⟩
        have HR5 := Lib.hid (HR.out.disk' hd5 hkd5 hk5.size HN.out)
        have Hk5 := Lib.hid ((Hkw.out.mono (fun _ h => h.elim)).trans hk5 (Gr.refl _ _))
        have Hg5 := Lib.hid (show Gr F (fun k => F k ∨ F5 k) w.heap.size from fun k hk => hk.elim .inl (fun h => (hg5 k h).imp id (Nat.le_trans Hkw.out.size)))
        have Hu5 := Lib.hid hu5
        clear hd5 hk5 hg5 hkd5 hu5
        cases hE : C.commit.1 with
        | none =>
          have hu := Hu5.out
          rw [hE] at hu
          have hu' : u5 = .nilIface := hu
          subst hu'
          have Hfl := Lib.hid (show C.flush = CSt.drop { C with D := C.commit.2 } by rw [CSt.flush, if_pos hE]; simp [CSt.drop])
          have hc2 := cell_blk HR5.out.cblk 2
          simp at hc2
          obtain ⟨es5, cl5, hm5, _, _⟩ := HR5.out.mblk
          have hcl := run_clear_map (w := w5) (ty := 0) Tryz.underlying80 hm5
          have Hm5 := Lib.hid hm5
          have HE := Lib.hid hE
          clear hu hm5 hE
          go_wp2_with fail
          go_ret
          rw [Hfl.out, HE.out]
          exact ⟨_, rfl, rfl, _, HR5.out.cleared Hm5.out, Hk5.out.trans ((putO_kp w5 bm _).mono (fun i e => (show i = bm from e) ▸ H.out.own.2.2)) (Gr.refl _ _), Hg5.out⟩
        | some p =>
          have hu := Hu5.out
          rw [hE] at hu
          obtain ⟨t5, x5, rfl⟩ := IsErr.iface hu
          have Hfl := Lib.hid (show C.flush = { C with D := C.commit.2 } by rw [CSt.flush, if_neg (by rw [hE]; simp)])
          have HE := Lib.hid hE
          have Hu := Lib.hid hu
          clear hu hE
          go_wp2_with fail
          refine (fault_Wrap _ _ _ (wrapE (tx [106, 111, 117, 114, 110, 97, 108]) (tx []) (some p)) _ Hu.out).mono ?_
          rintro e w6 ⟨v6, rfl, hv6, hk6⟩
          have Hv6 := Lib.hid hv6
          have Hk6 := Lib.hid hk6
          clear hv6 hk6
          go_wp2_with fail
          go_ret
          rw [Hfl.out, HE.out]
          exact ⟨_, rfl, Hv6.out, _, HR5.out.kp0 Hk6.out, Hk5.out.trans (F1 := fun _ => False) Hk6.out (fun _ h => h.elim), Hg5.out⟩
end Go.Proofs.YtdmmlkkemceifaaGreatDoor
namespace Go.Proofs.YtdmmlkkemceifaaGreatDoor
open Go.RowKit
set_option maxHeartbeats 1000000
set_option maxRecDepth 20000

/-- A disk without a fuse does not die. -/
theorem DSt.runs_alive : ∀ (l : List (Nat × List Int)) {D : DSt}, D.dead = false → D.fuse ≤ 0 → (D.runs l).1 = none ∧ (D.runs l).2.dead = false ∧ (D.runs l).2.fuse = D.fuse ∧ (D.runs l).2 = l.foldl (fun D x => D.wr x.1 x.2) D
  | [], _, h, _ => ⟨rfl, h, rfl, rfl⟩
  | x :: l, D, h, hf => by
    have h1 : (D.wr x.1 x.2).dead = false := by simp only [DSt.wr]; rw [if_neg (by omega)]; exact h
    have h2 : (D.wr x.1 x.2).fuse = D.fuse := by simp only [DSt.wr]; rw [if_neg (by omega)]
    rw [DSt.runs, h]
    have := DSt.runs_alive l h1 (by omega)
    rw [h2] at this
    exact this
theorem fold_not : ∀ (l : List (Nat × List Int)) (D : DSt) (k : Nat), (∀ x ∈ l, x.1 ≠ k) → (l.foldl (fun D x => D.wr x.1 x.2) D).row k = D.row k
  | [], _, _, _ => rfl
  | x :: l, D, k, h => by
    rw [List.foldl_cons, fold_not l _ k (fun y hy => h y (List.mem_cons_of_mem _ hy))]
    simp only [DSt.wr]
    rw [if_neg (fun e => h x List.mem_cons_self e.symm)]
theorem fold_mem : ∀ (l : List (Nat × List Int)) (D : DSt) (k : Nat) (ys : List Int), (l.map (·.1)).Nodup → (k, ys) ∈ l → (l.foldl (fun D x => D.wr x.1 x.2) D).row k = ys
  | [], _, _, _, _, h => by cases h
  | x :: l, D, k, ys, hn, h => by
    rw [List.foldl_cons]
    rw [List.map_cons, List.nodup_cons] at hn
    rcases List.mem_cons.1 h with e | h
    · subst e
      rw [fold_not l _ k (fun y hy e => hn.1 (List.mem_map.2 ⟨y, hy, e⟩))]
      simp [DSt.wr]
    · exact fold_mem l _ k ys hn.2 h
theorem CSt.commit_alive {C : CSt} (h : C.D.dead = false) (hf : C.D.fuse ≤ 0) : C.commit.1 = none ∧ C.commit.2.dead = false ∧ C.commit.2.fuse = C.D.fuse ∧ C.commit.2.n = C.D.n := by
  unfold CSt.commit
  split
  · exact ⟨rfl, h, rfl, rfl⟩
  · have := DSt.runs_alive (cwOf C.jat C.group) h hf
    exact ⟨this.1, this.2.1, this.2.2.1, DSt.runs_n _ _⟩
theorem CSt.flush_alive {C : CSt} (h : C.D.dead = false) (hf : C.D.fuse ≤ 0) : C.flush = { C with D := C.commit.2, ch := [] } := by
  rw [CSt.flush, if_pos (C.commit_alive h hf).1]
/-- The disk's row behind a Flush. -/
theorem CSt.flush_row {C : CSt} (h : C.D.dead = false) (hf : C.D.fuse ≤ 0) (hnd : C.ch.Nodup) (k : Nat) (hk : k < C.jat) : C.commit.2.row k = C.view k := by
  unfold CSt.commit
  split
  · rename_i hg
    have : C.ch = [] := by
      have h1 : C.chs = [] := by simpa [CSt.group] using hg
      have h2 := C.chs_perm
      rw [h1] at h2
      exact h2.symm.eq_nil
    simp [CSt.view, this]
  · have e := (DSt.runs_alive (cwOf C.jat C.group) h hf).2.2.2
    rw [e, cwOf, List.foldl_append, List.foldl_cons, List.foldl_append]
    rw [fold_not [(C.jat, zs 128)] _ k (fun x hx => by simp at hx; subst hx; simp; omega)]
    have hw : ∀ (D : DSt), ((wsOf C.jat (bodyRows C.group)).foldl (fun D x => D.wr x.1 x.2) D).row k = D.row k := fun D => fold_not _ _ k (fun x hx => by
      obtain ⟨i, _, rfl⟩ := List.mem_map.1 hx
      show C.jat + 1 + i ≠ k
      omega)
    by_cases hin : k ∈ C.ch
    · rw [fold_mem C.group _ k (C.cont k) (by rw [show C.group.map (·.1) = C.chs by rw [CSt.group, List.map_map]; exact List.map_id _]; exact C.chs_perm.nodup_iff.2 hnd) (List.mem_map.2 ⟨k, CSt.chs_mem.2 hin, rfl⟩)]
      simp [CSt.view, hin]
    · rw [fold_not C.group _ k (fun x hx => by
        obtain ⟨no, hno, rfl⟩ := List.mem_map.1 hx
        intro e
        have e : no = k := e
        exact hin (e ▸ CSt.chs_mem.1 hno))]
      have : ∀ (D : DSt) (ys : List Int), (D.wr C.jat ys).row k = D.row k := fun D ys => by simp only [DSt.wr]; rw [if_neg (by omega)]
      rw [this, hw]
      simp [CSt.view, hin]
end Go.Proofs.YtdmmlkkemceifaaGreatDoor
