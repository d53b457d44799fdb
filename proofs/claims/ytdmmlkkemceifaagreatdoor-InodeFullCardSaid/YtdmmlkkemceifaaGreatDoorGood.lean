/- The journal: whether blocks may be written, where they may. -/
import Derived.Test.YtdmmlkkemceifaaGreatDoorLay
import Derived.Test.YtdmmlkkemceifaaGreatDoorMap
namespace Go.Proofs.YtdmmlkkemceifaaGreatDoor
open Go.RowKit
set_option maxHeartbeats 2000000
set_option maxRecDepth 20000

theorem BS.kp0 {w w' : World} {v : Value} {l : List (Nat × List Int)} (h : BS w v l) (k : Kp (fun _ => False) w w') : BS w' v l := by
  obtain ⟨A, c, rfl, h1, h2, h3⟩ := h
  refine ⟨A, c, rfl, h1, h2, fun hn => ?_⟩
  obtain ⟨g, off, rfl, h4⟩ := h3 hn
  refine ⟨g, off, rfl, fun i no ys hi => ?_⟩
  obtain ⟨a, u, b, d⟩ := h4 i no ys hi
  exact ⟨k.cell a (fun h => h), u, k.cell b (fun h => h), d.kp k (fun _ _ h => h)⟩
theorem run_lookup_no1 {w : World} {bm clock : Nat} {es : Array MapEntry} {ks : List Nat} {T E : TypeId} {z : Value} (hT : Tryz.prog.underlying T = some (.map 3 E)) (hz : (zeroValue E).run Tryz.prog w = .ok z w) (hb : w.heap[bm]? = some (.map es clock)) (hk : Keys es ks) (no : Int) (hn : ∀ k ∈ ks, (k : Int) ≠ no) :
    (Instr.lookup T (.map (some bm)) (.int .i64 no) false).run Tryz.prog w = .ok z w := by
  have hf := run_find (w := w) (findNow_none es.toList ks 0 hk hn)
  simp [Instr.lookup, run_underlying hT, run_check, hf, hz, Result.andThen, getObj, Sem.run, hb]
theorem zero_bool (w : World) : (zeroValue 4).run Tryz.prog w = .ok (.bool false) w := by kernel_rfl

theorem journal_good {w : World} {bj bd at_ most : Nat} {D : DSt} {F : Nat → Prop} (hj : JBlk w bj bd at_ most) (h : DRep w bd D F) (v : Value) (l : List (Nat × List Int)) (hl : BS w v l)
    (hin : ∀ x ∈ l, x.1 < D.n ∧ x.1 < at_ ∧ x.2.length = 128) (hnd : (l.map (·.1)).Nodup) (hll : l.length ≤ 2048) :
    Calls Tryz.prog 66 #[.pointer (some ⟨bj, 0, none⟩), v] w fun e w' => e = .returned (.bool true) ∧ Kp (fun _ => False) w w' := by
  obtain ⟨A, c, rfl, hc1, hc2, _⟩ := id hl
  unfold maxLen at hc2
  have HJ := Lib.hid hj
  have H := Lib.hid h
  have HL := Lib.hid hl
  have Hin := Lib.hid hin
  have Hnd := Lib.hid hnd
  have hmm := @run_makeMap Tryz.prog
  have hfew := h.few
  clear hj h hl hin hnd
  go_enter Tryz.func66, Tryz.ntmps66
  go_wp2
  obtain ⟨bs, hbs⟩ : ∃ bs, w.heap.size = bs := ⟨_, rfl⟩
  have hm0 : (w.alloc (.map #[] 0)).heap[bs]? = some (.map #[] 0) := by rw [← hbs]; exact new_blk _ _
  rw [hbs]
  have Hbs := Lib.hid hbs
  clear hbs hmm
  go_loopw [12] (fun x wr => ∃ (i : Nat) (es : Array MapEntry) (cl : Nat), x = .int .i64 (i : Nat) ∧ i ≤ l.length ∧ wr.heap[bs]? = some (.map es cl) ∧ Keys es ((l.take i).map (·.1)) ∧ Kp (fun _ => False) w wr) (fun x _ => l.length - (intOf x).toNat)
  case atStart => exact ⟨0, #[], 0, rfl, by omega, hm0, Keys.nil, (Kp.refl _ _).alloc _⟩
  case round =>
    obtain ⟨i, es, cl, rfl, hi, hm, hkeys, hk⟩ := hrel
    have Hm := Lib.hid hm
    have Hk := Lib.hid hk
    have Hkeys := Lib.hid hkeys
    have cj := hk.blk HJ.out (fun h => h)
    have c0 := cell_blk cj 0
    have c1 := cell_blk cj 1
    have c2 := cell_blk cj 2
    simp at c0 c1 c2
    obtain ⟨A', c', e', _, _, hcells⟩ := HL.out.kp0 hk
    cases e'
    by_cases hlt : i < l.length
    · have hy : (i : Int) < (l.length : Int) := by omega
      have hy0 : (0 : Int) ≤ (i : Int) := by omega
      obtain ⟨⟨no, ys⟩, hx⟩ : ∃ x, l[i]? = some x := ⟨_, List.getElem?_eq_getElem hlt⟩
      obtain ⟨g, off, rfl, hcell⟩ := hcells (by rintro rfl; simp at hlt)
      obtain ⟨ca, u, cb, hu⟩ := hcell i no ys hx
      have hino := Hin.out _ (List.mem_of_getElem? hx)
      obtain ⟨Au, cu, hue, _, _, _⟩ := id hu
      rw [hino.2.2] at hue
      subst hue
      have hnew : ∀ k ∈ (l.take i).map (·.1), ((k : Nat) : Int) ≠ ((no : Nat) : Int) := by
        intro k hk' e
        have e' : k = no := by omega
        rw [e'] at hk'
        have h1 := Hnd.out
        rw [← List.take_append_drop i l, List.map_append, List.nodup_append] at h1
        refine h1.2.2 _ hk' _ ?_ rfl
        rw [List.mem_map]
        exact ⟨(no, ys), List.mem_of_getElem? (i := 0) (by rw [List.getElem?_drop]; exact hx), rfl⟩
      have Hnew := Lib.hid hnew
      have hsucc := Lib.hid (show (l.take (i + 1)).map (·.1) = (l.take i).map (·.1) ++ [no] by rw [take_succ' hx]; simp)
      have d1 : decide (at_ ≤ no) = false := decide_eq_false (by have := hino.2.1; omega)
      have d2 : decide ((no : Int) < 0) = false := decide_eq_false (by omega)
      have d3 : decide (D.n ≤ no) = false := decide_eq_false (by have := hino.1; omega)
      clear hcells hcell hu hx hm hkeys hk cj hino hnew
      go_wp2_with fail
      have ka : Kp (fun _ => False) wr (wr.alloc (.cells #[.int .i64 (no : Nat), .slice Au 128 cu] 84)) := (Kp.refl _ _).alloc _
      have nb := new_blk wr (.cells #[.int .i64 (no : Nat), .slice Au 128 cu] 84)
      generalize hwa : wr.alloc (.cells #[.int .i64 (no : Nat), .slice Au 128 cu] 84) = wa at *
      generalize wr.heap.size = b at *
      have x0 := cell_blk nb 0
      have x1 := cell_blk nb 1
      simp at x0 x1
      have a0 := ka.cell c0 (fun h => h)
      have a1 := ka.cell c1 (fun h => h)
      have a2 := ka.cell c2 (fun h => h)
      have Hka := Lib.hid (Hk.out.trans ka (Gr.refl _ _))
      have Hma := Lib.hid (ka.blk Hm.out (fun h => h))
      clear hwa nb ka ca cb c0 c1 c2 Hm
      go_quiet (fail)
      go_wp2_with fail
      obtain ⟨wc, hwc⟩ : ∃ wc, wc = wa.drewN nq := ⟨_, rfl⟩
      have kq : Kp (fun _ => False) wa wc := by rw [hwc]; exact (Kp.refl _ _).drewN _
      rw [← hwc]
      have y0 := kq.cell x0 (fun h => h)
      have y1 := kq.cell x1 (fun h => h)
      have b0 := kq.cell a0 (fun h => h)
      have Hkc := Lib.hid (Hka.out.trans kq (Gr.refl _ _))
      have Hmc := Lib.hid (kq.blk Hma.out (fun h => h))
      clear hwc kq x0 x1 a0 a1 a2 Hma Hka
      have hlk : ∀ nq : Nat, (Instr.lookup 160 (.map (some bs)) (.int .i64 (no : Nat)) false).run Tryz.prog (wc.drewN nq) = .ok (.bool false) (wc.drewN nq) := fun nq => run_lookup_no1 (w := wc.drewN nq) Tryz.underlying160 (zero_bool _) Hmc.out Hkeys.out _ Hnew.out
      go_quiet ((go_at_call 90; exact Calls.quiet_of_same ((disk_Blocks (by exact H.out.kp0 (Hkc.out.drewN _))).mono fun _ _ h => ⟨h.1, h.2.symm⟩)))
      clear hlk
      go_wp2_with (at_mapUpdate; refine wpList_update_run rfl _ _ _ _ rfl _ _ _ rfl rfl rfl (run_update_no Tryz.underlying160 ((Kp.refl (fun _ => False) wc).drewN _ |>.blk Hmc.out (fun h => h)) Hkeys.out _ Hnew.out _) ?_)
      go_roundw
      case rel => exact ⟨i + 1, _, _, by go_num, by omega, putO_same (show bs < wc.heap.size from lt_blk Hmc.out), by rw [hsucc.out]; exact Hkeys.out.push _ _ _, Kp.putObj (F := fun _ => False) (Hkc.out.drewN _) (.inr (Nat.le_of_eq Hbs.out)) _⟩
      case measure => simp [intOf]; omega
    · have hy : ¬ (i : Int) < (l.length : Int) := by omega
      clear hcells hm hkeys hk cj
      go_wp2
      go_ret
      exact ⟨rfl, Hk.out⟩
end Go.Proofs.YtdmmlkkemceifaaGreatDoor
