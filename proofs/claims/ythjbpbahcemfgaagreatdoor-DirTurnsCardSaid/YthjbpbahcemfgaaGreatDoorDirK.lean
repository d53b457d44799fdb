/- dir: ask, Find, Put. -/
import Derived.Test.YthjbpbahcemfgaaGreatDoorDirR
import Derived.Deep.RegionHeldLaw
namespace Go.Proofs.YthjbpbahcemfgaaGreatDoor
open Go.RowKit
set_option maxHeartbeats 2000000
set_option maxRecDepth 20000
variable {w wr : World} {bD bt bx bc bj bm bd q q' : Nat} {l : List Rc} {F : Nat → Prop}

theorem RcSl.shape {w : World} {v : Value} {l : List Rc} (h : RcSl w v l) : ∃ A c, v = .slice A l.length c := by
  obtain ⟨A, c, e, _⟩ := h
  exact ⟨A, c, e⟩
theorem dir_ask (h : DirS w bD bt bx bc bj bm bd l q F wr) (s : List Int) (hs : NmOk s) :
    Calls Tryz.prog 37 #[.pointer (some ⟨bD, 0, none⟩), .string (str s)] wr fun e w' => ∃ A c r, e = .returned (.tuple #[.slice A l.length c, .int .i64 r, .nilIface]) ∧ RcSl w' (.slice A l.length c) l ∧ PlaceIs s l r ∧ Kp (fun _ => False) wr w' ∧ ∀ b, blockOf (.slice A l.length c) = some b → wr.heap.size ≤ b := by
  have HR := Lib.hid (dir_rows h)
  have HN := Lib.hid (fun W : World => name_Ok (w := W) s hs)
  have HP := Lib.hid (fun (W : World) (v : Value) (hv : RcSl W v l) => dir_place (w := W) v l hv (fun x hx => (h.ok x hx).nm.byt) s hs.byt (by have := h.few; omega))
  clear h hs
  go_enter Tryz.func37, Tryz.ntmps37
  go_wp2_with fail
  refine HR.out.mono ?_
  rintro e w1 ⟨v, rfl, hv, hk1, hfr⟩
  obtain ⟨A, c, rfl⟩ := hv.shape
  have Hfr := Lib.hid hfr
  have Hv := Lib.hid hv
  clear hfr
  have Hk1 := Lib.hid hk1
  clear hv hk1
  go_wp2_with fail
  refine (HN.out _).mono ?_
  rintro e w2 ⟨rfl, rfl⟩
  go_wp2_with fail
  refine (HP.out _ _ Hv.out).mono ?_
  rintro e w3 ⟨r, rfl, hp, hk3⟩
  have Hv3 := Lib.hid (Hv.out.kp0 hk3)
  have Hp := Lib.hid hp
  have Hk3 := Lib.hid (Hk1.out.trans hk3 (Gr.refl _ _))
  clear hp hk3
  go_wp2_with fail
  go_ret3
  exact ⟨A, c, r, rfl, Hv3.out, Hp.out, Hk3.out, Hfr.out⟩
theorem place_uniq {l : List Rc} (hn : Names l) {i : Nat} {x : Rc} (hx : l[i]? = some x) {r : Int} (h : PlaceIs x.s l r) : r = (i : Nat) := by
  rcases h with ⟨j, y, hy, e, rfl⟩ | ⟨h, _⟩
  · rw [nodup_map_inj hn hy hx e]
  · exact absurd rfl (h x (List.mem_of_getElem? hx))
theorem place_none {l : List Rc} {s : List Int} (hn : ∀ x ∈ l, x.s ≠ s) {r : Int} (h : PlaceIs s l r) : r = -1 := by
  rcases h with ⟨j, y, hy, e, rfl⟩ | ⟨_, h⟩
  · exact absurd e (hn y (List.mem_of_getElem? hy))
  · exact h
theorem dir_Find_ok (h : DirS w bD bt bx bc bj bm bd l q F wr) {i : Nat} {x : Rc} (hx : l[i]? = some x) :
    Calls Tryz.prog 14 #[.pointer (some ⟨bD, 0, none⟩), .string (str x.s)] wr fun e w' => e = .returned (.tuple #[.int .i64 x.id, .nilIface]) ∧ Kp (fun _ => False) wr w' := by
  have HA := Lib.hid (dir_ask h x.s (h.ok x (List.mem_of_getElem? hx)).nm)
  have hnm := Lib.hid h.nm
  have hi := (List.getElem?_eq_some_iff.1 hx).1
  have hf := h.few
  have Hx := Lib.hid hx
  clear h hx
  go_enter Tryz.func14, Tryz.ntmps14
  go_wp2_with fail
  refine HA.out.mono ?_
  rintro e w1 ⟨A, c, r, rfl, hv, hp, hk1, hfr⟩
  clear hfr
  have hr := place_uniq hnm.out Hx.out hp
  subst hr
  obtain ⟨A', c', e, _, _, hc⟩ := hv
  simp only [Value.slice.injEq] at e
  obtain ⟨rfl, _, rfl⟩ := e
  obtain ⟨g, rfl, hc2⟩ := hc (fun e => by rw [e] at hi; exact absurd hi (Nat.not_lt_zero _))
  obtain ⟨c0, c1⟩ := hc2 i x Hx.out
  have Hk1 := Lib.hid hk1
  have hiz : (i : Int) < (l.length : Int) := by omega
  clear hp hk1 hc hc2
  go_wp2_with fail
  go_ret2
  exact ⟨rfl, Hk1.out⟩
theorem dir_Find_none (h : DirS w bD bt bx bc bj bm bd l q F wr) (s : List Int) (hs : NmOk s) (hn : ∀ x ∈ l, x.s ≠ s) :
    Calls Tryz.prog 14 #[.pointer (some ⟨bD, 0, none⟩), .string (str s)] wr fun e w' => ∃ v, e = .returned (.tuple #[.int .i64 0, v]) ∧ IsErr w' v [(tx [100, 105, 114], str s)] 11 ∧ Kp (fun _ => False) wr w' := by
  have HA := Lib.hid (dir_ask h s hs)
  have Hn := Lib.hid hn
  clear h hn hs
  go_enter Tryz.func14, Tryz.ntmps14
  go_wp2_with fail
  refine HA.out.mono ?_
  rintro e w1 ⟨A, c, r, rfl, hv, hp, hk1, hfr⟩
  clear hfr
  have hr := place_none Hn.out hp
  subst hr
  have Hk1 := Lib.hid hk1
  clear hv hp hk1
  go_wp2_with fail
  refine (dir_wrong _ 11 _ (by decide)).mono ?_
  rintro e w2 ⟨v, rfl, hv, hk2⟩
  have Hv := Lib.hid hv
  have Hk2 := Lib.hid (Hk1.out.trans hk2 (Gr.refl _ _))
  clear hv hk2
  go_wp2_with fail
  go_ret2
  exact ⟨v, rfl, Hv.out, Hk2.out⟩
theorem Names.app {l : List Rc} (h : Names l) {x : Rc} (hn : ∀ y ∈ l, y.s ≠ x.s) : Names (l ++ [x]) := by
  unfold Names at *
  rw [List.map_append, List.nodup_append]
  refine ⟨h, by simp, fun a ha b hb => ?_⟩
  obtain ⟨y, hy, rfl⟩ := List.mem_map.1 ha
  simp at hb
  rw [hb]
  exact hn y hy
theorem dir_Put_ok (h : DirS w bD bt bx bc bj bm bd l q F wr) {x : Rc} (hx : RcOk x) (hn : ∀ y ∈ l, y.s ≠ x.s) (hlt : l.length < 120) (hq : q ≤ 36) (hq' : q + (bks (32 * (l.length + 1)) - bks (32 * l.length)) ≤ q') :
    Calls Tryz.prog 9 #[.pointer (some ⟨bD, 0, none⟩), .string (str x.s), .int .i64 x.id] wr fun e w' => e = .returned .nilIface ∧ ∃ F', DirS w bD bt bx bc bj bm bd (l ++ [x]) q' F' w' ∧ Kp F wr w' ∧ Gr F F' wr.heap.size := by
  have HA := Lib.hid (dir_ask h x.s hx.nm)
  have hl := dirRow_len h.ok
  have hrl := recRow_len hx.nm.hi
  have HB := Lib.hid (fun W : World => row_bytes (w := W) hx)
  have HW := Lib.hid (fun (W : World) (g : Nat) (hk : Kp (fun _ => False) wr W) (hr : RowE W g (recRow x)) => dirb_write (h.b.kp0 hk) (p := 32 * l.length) (q' := q') (.slice (some ⟨g, 0, none⟩) 32 32) (recRow x) (by have := hr.sl (by rw [hrl]; unfold maxLen; omega); rwa [hrl] at this) (recRow_byt hx) (fun e => by rw [e] at hrl; cases hrl) (by omega) hq (by rw [hl, hrl, Nat.max_eq_right (by omega)]; exact hq'))
  rw [dirRow_put h.ok hx] at HW
  have HD := Lib.hid (show ∀ F' W, DirB w bD bt bx bc bj bm bd (dirRow (l ++ [x])) q' F' W → DirS w bD bt bx bc bj bm bd (l ++ [x]) q' F' W from fun F' W hb => ⟨hb, h.ok.app hx, h.nm.app hn, by rw [List.length_append]; simp; omega⟩)
  have hb := h.b.blk
  have HO := Lib.hid h.b.out
  have Hn := Lib.hid hn
  have c0 : ∀ W : World, Kp F wr W → W.cell? ⟨bD, 0, none⟩ = some (.pointer (some ⟨bt, 0, none⟩)) := fun W hk => hk.cell (by rw [cell_blk hb]; rfl) h.b.out
  have c1 : ∀ W : World, Kp F wr W → W.cell? ⟨bD, 1, none⟩ = some (.int .i64 1) := fun W hk => hk.cell (by rw [cell_blk hb]; rfl) h.b.out
  have i1 := hx.lo
  have i2 := hx.hi
  have i1' : ¬ (x.id : Int) < 1 := by omega
  have i2' : ¬ (200 : Int) < (x.id : Int) := by omega
  have l2 : ¬ (120 : Int) ≤ (l.length : Int) := by omega
  have q32 : IntKind.i64.wrap (32 * (l.length : Int)) = 32 * (l.length : Int) := IntWalk.i64_in _ (by omega)
  clear h hb hn hx hl hrl
  go_enter Tryz.func9, Tryz.ntmps9
  go_wp2_with fail
  refine HA.out.mono ?_
  rintro e w1 ⟨A, c, r, rfl, hv, hp, hk1, hfr⟩
  clear hfr
  have hr := place_none Hn.out hp
  subst hr
  have Hk1 := Lib.hid hk1
  have hs1 : Kp F wr w1 := hk1.mono (fun _ h => h.elim)
  clear hv hp hk1
  go_upto_region 10 with fail
  go_region_held_law (fun W => Kp F wr W)
    (first | assumption | exact Kp.drew (by assumption))
    (first | (go_at_call 40; refine (HB.out _).mono ?_; rintro e w2 ⟨g, rfl, hr2, hk2, _⟩; have hk2' : Kp (fun _ => False) wr w2 := Kp.trans (F1 := fun _ => False) (by first | exact Hk1.out | exact Hk1.out.drew) hk2 (Gr.refl _ _); have hS2 : Kp F wr w2 := hk2'.mono (fun _ h => h.elim)) | (go_at_call 23; refine (HW.out _ g (by first | exact hk2' | exact hk2'.drew) (by exact hr2)).mono ?_; rintro e w3 ⟨rfl, F3, hD3, hk3, hg3⟩; have hk3' : Kp F wr w3 := Kp.trans (F1 := F) (by first | exact hS2 | exact hS2.drew) hk3 (Gr.refl _ _)) | (go_at_call 39; refine (dir_told (str x.s) .nilIface none _ rfl).mono ?_; rintro e w4 ⟨v4, rfl, hv4, hk4⟩; obtain rfl : v4 = .nilIface := hv4; have hk4' : Kp F wr w4 := Kp.trans (F1 := fun _ => False) (by first | exact hk3' | exact hk3'.drew) hk4 (fun _ h => h.elim)))
  all_goals (
    have Hend := Lib.hid (HD.out _ _ (hD3.kp0 hk4))
    have Hke := Lib.hid hk4'
    have Hge := Lib.hid (hg3.mono hk2'.size)
    clear hD3 hk4 hk4' hg3 hk2' hk3' c0 c1 hS2 hs1
    go_wp2_with fail
    go_ret
    exact ⟨rfl, F3, Hend.out, Hke.out, Hge.out⟩)
end Go.Proofs.YthjbpbahcemfgaaGreatDoor
