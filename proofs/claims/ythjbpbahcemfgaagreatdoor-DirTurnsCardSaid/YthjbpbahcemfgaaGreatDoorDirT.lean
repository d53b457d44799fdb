/- dir: Len, Drop, Turn; Put where there is no room. -/
import Derived.Test.YthjbpbahcemfgaaGreatDoorDirK
import Derived.Deep.RegionHeldLaw
namespace Go.Proofs.YthjbpbahcemfgaaGreatDoor
open Go.RowKit
set_option maxHeartbeats 2000000
set_option maxRecDepth 20000
variable {w wr : World} {bD bt bx bc bj bm bd q q' : Nat} {l : List Rc} {F : Nat → Prop}

theorem dir_Len (h : DirS w bD bt bx bc bj bm bd l q F wr) :
    Calls Tryz.prog 12 #[.pointer (some ⟨bD, 0, none⟩)] wr fun e w' => e = .returned (.tuple #[.int .i64 l.length, .nilIface]) ∧ Kp (fun _ => False) wr w' := by
  have HR := Lib.hid (dir_rows h)
  clear h
  go_enter Tryz.func12, Tryz.ntmps12
  go_wp2_with fail
  refine HR.out.mono ?_
  rintro e w1 ⟨v, rfl, hv, hk1, _⟩
  obtain ⟨A, c, rfl⟩ := hv.shape
  have Hk1 := Lib.hid hk1
  clear hv hk1
  go_wp2_with fail
  refine (dir_told _ .nilIface none _ rfl).mono ?_
  rintro e w2 ⟨v2, rfl, hv2, hk2⟩
  obtain rfl : v2 = .nilIface := hv2
  have Hk2 := Lib.hid (Hk1.out.trans hk2 (Gr.refl _ _))
  clear hk2
  go_wp2_with fail
  go_ret2
  exact ⟨rfl, Hk2.out⟩
theorem dir_Put_full (h : DirS w bD bt bx bc bj bm bd l q F wr) {x : Rc} (hx : RcOk x) (hn : ∀ y ∈ l, y.s ≠ x.s) (hlt : l.length = 120) :
    Calls Tryz.prog 9 #[.pointer (some ⟨bD, 0, none⟩), .string (str x.s), .int .i64 x.id] wr fun e w' => ∃ v, e = .returned v ∧ IsErr w' v [(tx [100, 105, 114], str x.s)] 65 ∧ Kp (fun _ => False) wr w' := by
  have HA := Lib.hid (dir_ask h x.s hx.nm)
  have Hn := Lib.hid hn
  have i1 := hx.lo
  have i2 := hx.hi
  have i1' : ¬ (x.id : Int) < 1 := by omega
  have i2' : ¬ (200 : Int) < (x.id : Int) := by omega
  have l2 : (120 : Int) ≤ (l.length : Int) := by omega
  clear h hn hx
  go_enter Tryz.func9, Tryz.ntmps9
  go_wp2_with fail
  refine HA.out.mono ?_
  rintro e w1 ⟨A, c, r, rfl, hv, hp, hk1, _⟩
  have hr := place_none Hn.out hp
  subst hr
  have Hk1 := Lib.hid hk1
  clear hv hp hk1
  go_wp2_with fail
  refine (dir_wrong _ 65 _ (by decide)).mono ?_
  rintro e w2 ⟨v, rfl, hv, hk2⟩
  have Hv := Lib.hid hv
  have Hk2 := Lib.hid (Hk1.out.trans hk2 (Gr.refl _ _))
  clear hv hk2
  go_wp2_with fail
  go_ret
  exact ⟨v, rfl, Hv.out, Hk2.out⟩
/-- The records where the last one stands in the place of the i-th. -/
def dropL (l : List Rc) (i : Nat) (z : Rc) : List Rc := (l.set i z).take (l.length - 1)
theorem dropL_len (l : List Rc) (i : Nat) (z : Rc) : (dropL l i z).length = l.length - 1 := by unfold dropL; rw [List.length_take, List.length_set]; omega
theorem dropL_get {l : List Rc} {i a : Nat} {z y : Rc} (hi : i < l.length) (h : (dropL l i z)[a]? = some y) : a < l.length - 1 ∧ ((a = i ∧ y = z) ∨ (a ≠ i ∧ l[a]? = some y)) := by
  unfold dropL at h
  rw [List.getElem?_take] at h
  split at h
  · rename_i ha
    refine ⟨ha, ?_⟩
    rw [List.getElem?_set] at h
    by_cases e : i = a
    · subst e
      rw [if_pos rfl, if_pos hi] at h
      exact .inl ⟨rfl, (Option.some.inj h).symm⟩
    · rw [if_neg e] at h
      exact .inr ⟨fun h => e h.symm, h⟩
  · cases h
theorem nodup_of_inj {l : List Rc} (h : ∀ (a b : Nat) (x y : Rc), l[a]? = some x → l[b]? = some y → x.s = y.s → a = b) : Names l := by
  unfold Names
  rw [List.Nodup, List.pairwise_iff_getElem]
  intro a b ha hb hab e
  rw [List.getElem_map, List.getElem_map] at e
  have := h a b _ _ (List.getElem?_eq_getElem (by simpa using ha)) (List.getElem?_eq_getElem (by simpa using hb)) e
  omega
theorem dropL_names {l : List Rc} (hn : Names l) {i : Nat} {z : Rc} (hi : i < l.length) (hz : l[l.length - 1]? = some z) : Names (dropL l i z) := by
  refine nodup_of_inj fun a b x y hx hy e => ?_
  obtain ⟨a1, ⟨rfl, rfl⟩ | ⟨a2, a3⟩⟩ := dropL_get hi hx <;> obtain ⟨b1, ⟨b2, rfl⟩ | ⟨b2, b3⟩⟩ := dropL_get hi hy
  · exact b2.symm
  · have := nodup_map_inj hn hz b3 e; omega
  · have := nodup_map_inj hn a3 hz e; omega
  · exact nodup_map_inj hn a3 b3 e
theorem dropL_ok {l : List Rc} (h : AllOk l) (i : Nat) {z : Rc} (hz : RcOk z) : AllOk (dropL l i z) := (h.set hz i).take _
/-- Ahead of a Write and behind it: nothing but the disk's blocks has turned. -/
def SD (F : Nat → Prop) (wr w1 W : World) : Prop := Kp F wr W ∧ Kp F w1 W
theorem SD.drew {F : Nat → Prop} {wr w1 W : World} (h : SD F wr w1 W) : SD F wr w1 W.drew := ⟨h.1.drew, h.2.drew⟩
theorem SD.kp0 {F : Nat → Prop} {wr w1 W W' : World} (h : SD F wr w1 W) (k : Kp (fun _ => False) W W') : SD F wr w1 W' := ⟨h.1.trans k (fun _ h => h.elim), h.2.trans k (fun _ h => h.elim)⟩
theorem SD.kp {F : Nat → Prop} {wr w1 W W' : World} (h : SD F wr w1 W) (k : Kp F W W') : SD F wr w1 W' := ⟨h.1.trans k (Gr.refl _ _), h.2.trans k (Gr.refl _ _)⟩
theorem dir_Drop_ok (h : DirS w bD bt bx bc bj bm bd l q F wr) {i : Nat} {x z : Rc} (hx : l[i]? = some x) (hz : l[l.length - 1]? = some z) (hq : q ≤ 36) :
    Calls Tryz.prog 11 #[.pointer (some ⟨bD, 0, none⟩), .string (str x.s)] wr fun e w' => e = .returned .nilIface ∧ ∃ F', DirS w bD bt bx bc bj bm bd (dropL l i z) q F' w' ∧ Kp F wr w' ∧ Gr F F' wr.heap.size := by
  have hxo := h.ok x (List.mem_of_getElem? hx)
  have hzo := h.ok z (List.mem_of_getElem? hz)
  have HA := Lib.hid (dir_ask h x.s hxo.nm)
  have hi := (List.getElem?_eq_some_iff.1 hx).1
  have hl := dirRow_len h.ok
  have hf := h.few
  have hrl := recRow_len hzo.nm.hi
  have HB := Lib.hid (fun W : World => row_bytes (w := W) hzo)
  have HW := Lib.hid (fun (W : World) (g : Nat) (hk : Kp (fun _ => False) wr W) (hr : RowE W g (recRow z)) => dirb_write (h.b.kp0 hk) (p := 32 * i) (q' := q) (.slice (some ⟨g, 0, none⟩) 32 32) (recRow z) (by have := hr.sl (by rw [hrl]; unfold maxLen; omega); rwa [hrl] at this) (recRow_byt hzo) (fun e => by rw [e] at hrl; cases hrl) (by omega) hq (by rw [hl, hrl, Nat.max_eq_left (by omega)]; omega))
  rw [dirRow_set h.ok hzo hi] at HW
  have hok2 := h.ok.set hzo i
  have hl2 := dirRow_len hok2
  rw [List.length_set] at hl2
  have HC := Lib.hid (fun (F' : Nat → Prop) (W : World) (hb : DirB w bD bt bx bc bj bm bd (dirRow (l.set i z)) q F' W) => dirb_cut hb (M := 32 * (l.length - 1)) (by rw [hl2]; omega) (by rw [hl2]; omega) hq)
  rw [dirRow_cut hok2 (by rw [List.length_set]; omega)] at HC
  have HD := Lib.hid (show ∀ F' W, DirB w bD bt bx bc bj bm bd (dirRow ((l.set i z).take (l.length - 1))) q F' W → DirS w bD bt bx bc bj bm bd (dropL l i z) q F' W from fun F' W hb => ⟨hb, dropL_ok h.ok i hzo, dropL_names h.nm hi hz, by rw [dropL_len]; omega⟩)
  have hb := h.b.blk
  have Hlt := Lib.hid (lt_blk hb)
  have HFl := Lib.hid (show ∀ k, F k → k < wr.heap.size from by
    obtain ⟨R, h1, _⟩ := h.b.iu
    exact h1.fresh)
  have HO := Lib.hid h.b.out
  have Hnm := Lib.hid h.nm
  have Hx := Lib.hid hx
  have Hz := Lib.hid hz
  have c0 : ∀ W : World, Kp F wr W → W.cell? ⟨bD, 0, none⟩ = some (.pointer (some ⟨bt, 0, none⟩)) := fun W hk => hk.cell (by rw [cell_blk hb]; rfl) h.b.out
  have c1 : ∀ W : World, Kp F wr W → W.cell? ⟨bD, 1, none⟩ = some (.int .i64 1) := fun W hk => hk.cell (by rw [cell_blk hb]; rfl) h.b.out
  have q32 : IntKind.i64.wrap (32 * (i : Int)) = 32 * (i : Int) := IntWalk.i64_in _ (by omega)
  obtain ⟨n, hn⟩ : ∃ n, n = l.length - 1 := ⟨_, rfl⟩
  have hn1 : (l.length : Int) - 1 = (n : Int) := by omega
  have hnl : (n : Int) < (l.length : Int) := by omega
  have qn : IntKind.i64.wrap (n : Int) = (n : Int) := IntWalk.i64_in _ (by omega)
  have q32n : IntKind.i64.wrap (32 * (n : Int)) = 32 * (n : Int) := IntWalk.i64_in _ (by omega)
  rw [← hn] at HC Hz HD
  clear h hb hx hz hxo hzo hl hl2 hok2 hrl hn
  go_enter Tryz.func11, Tryz.ntmps11
  go_wp2_with fail
  refine HA.out.mono ?_
  rintro e w1 ⟨A, c, r, rfl, hv, hp, hk1, hfr⟩
  have hr := place_uniq Hnm.out Hx.out hp
  subst hr
  obtain ⟨A', c', e, _, _, hc⟩ := hv
  simp only [Value.slice.injEq] at e
  obtain ⟨rfl, _, rfl⟩ := e
  obtain ⟨g, rfl, hc2⟩ := hc (fun e => by rw [e] at hi; exact absurd hi (Nat.not_lt_zero _))
  obtain ⟨e0, e1⟩ := hc2 n z Hz.out
  have hgF : ¬ F g := fun hF => by have := HFl.out g hF; have := hfr g rfl; omega
  have d0 : ∀ W : World, SD F wr w1 W → W.cell? ⟨g, n * 2, none⟩ = some (.string (str z.s)) := fun W hk => hk.2.cell e0 hgF
  have d1 : ∀ W : World, SD F wr w1 W → W.cell? ⟨g, n * 2 + 1, none⟩ = some (.int .i64 z.id) := fun W hk => hk.2.cell e1 hgF
  have c0' : ∀ W : World, SD F wr w1 W → W.cell? ⟨bD, 0, none⟩ = some (.pointer (some ⟨bt, 0, none⟩)) := fun W hk => c0 W hk.1
  have c1' : ∀ W : World, SD F wr w1 W → W.cell? ⟨bD, 1, none⟩ = some (.int .i64 1) := fun W hk => c1 W hk.1
  have Hk1 := Lib.hid hk1
  have hs1 : SD F wr w1 w1 := ⟨hk1.mono (fun _ h => h.elim), Kp.refl _ _⟩
  have HC0 := Lib.hid c0
  have HC1 := Lib.hid c1
  clear hp hk1 hc hc2 hfr e0 e1 c0 c1
  go_upto_region 7 with fail
  go_region_held_law (fun W => SD F wr w1 W)
    (first | assumption | exact SD.drew (by assumption))
    (first | (go_at_call 40; refine (HB.out _).mono ?_; rintro e w2 ⟨g2, rfl, hr2, hk2, _⟩; have hk2' : Kp (fun _ => False) wr w2 := Kp.trans (F1 := fun _ => False) (by first | exact Hk1.out | exact Hk1.out.drew) hk2 (Gr.refl _ _); have hS2 : SD F wr w1 w2 := (by first | exact hs1.kp0 hk2 | exact hs1.drew.kp0 hk2)) | (go_at_call 23; refine (HW.out _ g2 (by first | exact hk2' | exact hk2'.drew) (by exact hr2)).mono ?_; rintro e w3 ⟨rfl, F3, hD3, hk3, hg3⟩; have hS3 : SD F wr w1 w3 := (by first | exact hS2.kp hk3 | exact hS2.drew.kp hk3)))
  all_goals (
    have HB3 := Lib.hid hD3
    have HK3 : Hid (Kp F wr w3) := hS3.1
    have Hg3 := Lib.hid (hg3.mono hk2'.size)
    clear d0 d1 c0' c1' hs1 hS2 hS3 hk2' hk3 hg3 hD3 hr2 hk2
    have hb3 := HB3.out.blk
    have hO3 := HB3.out.out
    have z0 : ∀ W : World, Kp F3 w3 W → W.cell? ⟨bD, 0, none⟩ = some (.pointer (some ⟨bt, 0, none⟩)) := fun W hk => hk.cell (by rw [cell_blk hb3]; rfl) hO3
    have z1 : ∀ W : World, Kp F3 w3 W → W.cell? ⟨bD, 1, none⟩ = some (.int .i64 1) := fun W hk => hk.cell (by rw [cell_blk hb3]; rfl) hO3
    have hs3 : Kp F3 w3 w3 := Kp.refl _ _
    clear hb3 hO3
    go_upto_region 10 with fail
    go_region_held_law (fun W => Kp F3 w3 W)
      (first | assumption | exact Kp.drew (by assumption))
      (first | (go_at_call 25; refine (HC.out F3 _ (by first | exact HB3.out | exact HB3.out.kp0 (Kp.refl _ _).drew)).mono ?_; rintro e w5 ⟨rfl, F5, hD5, hk5, hg5⟩; have hk5' : Kp F3 w3 w5 := Kp.trans (F1 := F3) (by first | exact Kp.refl _ _ | exact (Kp.refl _ _).drew) hk5 (Gr.refl _ _)) | (go_at_call 39; refine (dir_told (str x.s) .nilIface none _ rfl).mono ?_; rintro e w6 ⟨v6, rfl, hv6, hk6⟩; obtain rfl : v6 = .nilIface := hv6; have hk6' : Kp F3 w3 w6 := Kp.trans (F1 := fun _ => False) (by first | exact hk5' | exact hk5'.drew) hk6 (fun _ h => h.elim)))
    all_goals (
      have Hend := Lib.hid (HD.out _ _ (hD5.kp0 hk6))
      have Hke : Hid (Kp F wr w6) := HK3.out.trans hk6' Hg3.out
      have Hge : Hid (Gr F F5 wr.heap.size) := Hg3.out.trans hg5 HK3.out.size
      clear hD5 hk6 hk6' hg5 hk5' z0 z1 hs3 hk5
      go_wp2_with fail
      go_ret
      exact ⟨rfl, F5, Hend.out, Hke.out, Hge.out⟩))
theorem turn_names {l : List Rc} (hn : Names l) {i : Nat} {x : Rc} (hx : l[i]? = some x) {b : List Int} {d : Nat} (hb : ∀ y ∈ l, y.s = b → y.s = x.s) : Names (l.set i ⟨b, d⟩) := by
  have hi := (List.getElem?_eq_some_iff.1 hx).1
  have key : ∀ (a : Nat) (y : Rc), (l.set i ⟨b, d⟩)[a]? = some y → (a = i ∧ y.s = b) ∨ (a ≠ i ∧ l[a]? = some y) := fun a y h => by
    rw [List.getElem?_set] at h
    by_cases e : i = a
    · subst e
      rw [if_pos rfl, if_pos hi] at h
      exact .inl ⟨rfl, by rw [← Option.some.inj h]⟩
    · rw [if_neg e] at h
      exact .inr ⟨fun h => e h.symm, h⟩
  refine nodup_of_inj fun a c y z hy hz e => ?_
  rcases key a y hy with ⟨rfl, e1⟩ | ⟨a1, a2⟩ <;> rcases key c z hz with ⟨c1, e2⟩ | ⟨c1, c2⟩
  · exact c1.symm
  · have := hb z (List.mem_of_getElem? c2) (by rw [← e, e1])
    exact absurd (nodup_map_inj hn hx c2 this.symm).symm c1
  · subst c1
    have := hb y (List.mem_of_getElem? a2) (by rw [e, e2])
    exact absurd (nodup_map_inj hn a2 hx this) a1
  · exact nodup_map_inj hn a2 c2 e
theorem dir_Turn_ok (h : DirS w bD bt bx bc bj bm bd l q F wr) {i : Nat} {x : Rc} (hx : l[i]? = some x) (b : List Int) (hbn : NmOk b) (hb : ∀ y ∈ l, y.s = b → y.s = x.s) (hq : q ≤ 36) :
    Calls Tryz.prog 32 #[.pointer (some ⟨bD, 0, none⟩), .string (str x.s), .string (str b)] wr fun e w' => e = .returned .nilIface ∧ ∃ F', DirS w bD bt bx bc bj bm bd (l.set i ⟨b, x.id⟩) q F' w' ∧ Kp F wr w' ∧ Gr F F' wr.heap.size := by
  have hxo := h.ok x (List.mem_of_getElem? hx)
  have hno : RcOk ⟨b, x.id⟩ := ⟨hbn, hxo.lo, hxo.hi⟩
  have HA := Lib.hid (dir_ask h x.s hxo.nm)
  have HNb := Lib.hid (fun W : World => name_Ok (w := W) b hbn)
  have HP := Lib.hid (fun (W : World) (v : Value) (hv : RcSl W v l) => dir_place (w := W) v l hv (fun x hx => (h.ok x hx).nm.byt) b hbn.byt (by have := h.few; omega))
  have hi := (List.getElem?_eq_some_iff.1 hx).1
  have hl := dirRow_len h.ok
  have hf := h.few
  have hrl := recRow_len (x := ⟨b, x.id⟩) hbn.hi
  have HB := Lib.hid (fun W : World => row_bytes (w := W) hno)
  have HW := Lib.hid (fun (W : World) (g : Nat) (hk : Kp (fun _ => False) wr W) (hr : RowE W g (recRow ⟨b, x.id⟩)) => dirb_write (h.b.kp0 hk) (p := 32 * i) (q' := q) (.slice (some ⟨g, 0, none⟩) 32 32) (recRow ⟨b, x.id⟩) (by have := hr.sl (by rw [hrl]; unfold maxLen; omega); rwa [hrl] at this) (recRow_byt hno) (fun e => by rw [e] at hrl; cases hrl) (by omega) hq (by rw [hl, hrl, Nat.max_eq_left (by omega)]; omega))
  rw [dirRow_set h.ok hno hi] at HW
  have HD := Lib.hid (show ∀ F' W, DirB w bD bt bx bc bj bm bd (dirRow (l.set i ⟨b, x.id⟩)) q F' W → DirS w bD bt bx bc bj bm bd (l.set i ⟨b, x.id⟩) q F' W from fun F' W hB => ⟨hB, h.ok.set hno i, turn_names h.nm hx hb, by rw [List.length_set]; exact hf⟩)
  have hbl := h.b.blk
  have HFl := Lib.hid (show ∀ k, F k → k < wr.heap.size from by
    obtain ⟨R, h1, _⟩ := h.b.iu
    exact h1.fresh)
  have Hnm := Lib.hid h.nm
  have Hx := Lib.hid hx
  have Hbb := Lib.hid hb
  have c0 : ∀ W : World, Kp F wr W → W.cell? ⟨bD, 0, none⟩ = some (.pointer (some ⟨bt, 0, none⟩)) := fun W hk => hk.cell (by rw [cell_blk hbl]; rfl) h.b.out
  have c1 : ∀ W : World, Kp F wr W → W.cell? ⟨bD, 1, none⟩ = some (.int .i64 1) := fun W hk => hk.cell (by rw [cell_blk hbl]; rfl) h.b.out
  have q32 : IntKind.i64.wrap (32 * (i : Int)) = 32 * (i : Int) := IntWalk.i64_in _ (by omega)
  have hil : (i : Int) < (l.length : Int) := by omega
  clear h hbl hx hxo hno hl hrl hbn hb
  go_enter Tryz.func32, Tryz.ntmps32
  go_wp2_with fail
  refine HA.out.mono ?_
  rintro e w1 ⟨A, c, r, rfl, hv, hp, hk1, hfr⟩
  have hr := place_uniq Hnm.out Hx.out hp
  subst hr
  have Hv := Lib.hid hv
  have Hfr := Lib.hid hfr
  have Hk1 := Lib.hid hk1
  clear hp hk1 hfr hv
  go_wp2_with fail
  refine (HNb.out _).mono ?_
  rintro e w1 ⟨rfl, rfl⟩
  go_wp2_with fail
  refine (HP.out _ _ Hv.out).mono ?_
  rintro e w2 ⟨r2, rfl, hp2, hk2⟩
  have hr2 : r2 = (i : Nat) ∨ r2 = -1 := by
    rcases hp2 with ⟨j, y, hy, e, rfl⟩ | ⟨_, e⟩
    · left
      rw [nodup_map_inj Hnm.out hy Hx.out (Hbb.out y (List.mem_of_getElem? hy) e)]
    · exact .inr e
  obtain ⟨A', c', e, _, _, hc⟩ := Hv.out.kp0 hk2
  simp only [Value.slice.injEq] at e
  obtain ⟨rfl, _, rfl⟩ := e
  obtain ⟨g, rfl, hc2⟩ := hc (fun e => by rw [e] at hi; exact absurd hi (Nat.not_lt_zero _))
  obtain ⟨e0, e1⟩ := hc2 i x Hx.out
  have hgF : ¬ F g := fun hF => by have := HFl.out g hF; have := Hfr.out g rfl; omega
  have d1 : ∀ W : World, SD F wr w2 W → W.cell? ⟨g, i * 2 + 1, none⟩ = some (.int .i64 x.id) := fun W hk => hk.2.cell e1 hgF
  have c0' : ∀ W : World, SD F wr w2 W → W.cell? ⟨bD, 0, none⟩ = some (.pointer (some ⟨bt, 0, none⟩)) := fun W hk => c0 W hk.1
  have c1' : ∀ W : World, SD F wr w2 W → W.cell? ⟨bD, 1, none⟩ = some (.int .i64 1) := fun W hk => c1 W hk.1
  have Hk2 := Lib.hid (Hk1.out.trans hk2 (Gr.refl _ _))
  have hs1 : SD F wr w2 w2 := ⟨Hk2.out.mono (fun _ h => h.elim), Kp.refl _ _⟩
  clear hp2 hk2 hc hc2 e0 e1 c0 c1 hgF
  rcases hr2 with rfl | rfl
  all_goals (
    go_upto_region 11 with fail
    go_region_held_law (fun W => SD F wr w2 W)
      (first | assumption | exact SD.drew (by assumption))
      (first | (go_at_call 40; refine (HB.out _).mono ?_; rintro e w3 ⟨g2, rfl, hr2, hk3, _⟩; have hk3' : Kp (fun _ => False) wr w3 := Kp.trans (F1 := fun _ => False) (by first | exact Hk2.out | exact Hk2.out.drew) hk3 (Gr.refl _ _); have hS3 : SD F wr w2 w3 := (by first | exact hs1.kp0 hk3 | exact hs1.drew.kp0 hk3)) | (go_at_call 23; refine (HW.out _ g2 (by first | exact hk3' | exact hk3'.drew) (by exact hr2)).mono ?_; rintro e w4 ⟨rfl, F3, hD3, hk4, hg3⟩; have hS4 : SD F wr w2 w4 := (by first | exact hS3.kp hk4 | exact hS3.drew.kp hk4)) | (go_at_call 39; refine (dir_told (str x.s) .nilIface none _ rfl).mono ?_; rintro e w6 ⟨v6, rfl, hv6, hk6⟩; obtain rfl : v6 = .nilIface := hv6; have hS6 : SD F wr w2 w6 := (by first | exact hS4.kp0 hk6 | exact hS4.drew.kp0 hk6)))
    all_goals (
      have Hend := Lib.hid (HD.out _ _ (hD3.kp0 hk6))
      have Hke : Hid (Kp F wr w6) := hS6.1
      have Hge := Lib.hid (hg3.mono hk3'.size)
      clear hD3 hk6 hg3 hk3' hS3 hS4 hS6 d1 c0' c1' hs1
      go_wp2_with fail
      go_ret
      exact ⟨rfl, F3, Hend.out, Hke.out, Hge.out⟩))
end Go.Proofs.YthjbpbahcemfgaaGreatDoor
