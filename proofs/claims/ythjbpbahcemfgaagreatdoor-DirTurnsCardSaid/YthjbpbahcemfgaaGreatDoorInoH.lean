/- Inodes: an inode that is had; its kind, its size. -/
import Derived.Test.YthjbpbahcemfgaaGreatDoorInoR
namespace Go.Proofs.YthjbpbahcemfgaaGreatDoor
open Go.RowKit
set_option maxHeartbeats 4000000
set_option maxRecDepth 20000

/-- A table of inodes over a map over a cache. -/
structure Tab (w : World) (bt bx bc bj bm bd at_ n mat lo nbl : Nat) (C : CSt) (F : Nat → Prop) (T : Nat → Nd) : Prop where
  blk : TBlk w bt bc bx at_ n
  out : ¬ F bt
  map : MapOn w bx bc bj bm bd mat lo nbl C F
  geo : Geo at_ n mat lo nbl C.blocks
  ti : TI C at_ n mat lo nbl T
variable {w : World} {bt bx bc bj bm bd at_ n mat lo nbl : Nat} {C : CSt} {F : Nat → Prop} {T : Nat → Nd}
theorem Tab.kp0 {w' : World} (h : Tab w bt bx bc bj bm bd at_ n mat lo nbl C F T) (k : Kp (fun _ => False) w w') : Tab w' bt bx bc bj bm bd at_ n mat lo nbl C F T :=
  ⟨k.blk h.blk (fun h => h), h.out, h.map.step (h.map.rep.kp0 k) (k.mono (fun _ h => h.elim)) (Gr.refl _ _) rfl h.map.live h.map.vb, h.geo, h.ti⟩
theorem Tab.img (h : Tab w bt bx bc bj bm bd at_ n mat lo nbl C F T) {ino : Nat} (h1 : 1 ≤ ino) (h2 : ino ≤ n) : Img C (at_ + ino - 1) (T ino) := by
  have ho := h.ti.ok ino h1 h2
  have g := h.geo
  have g3 := g.g3
  have g4 := g.g4
  refine ⟨h.ti.img ino h1 h2, h.ti.mor ino h1 h2, ho.kind, ho.size, ho.len, fun b hb => ?_, fun h8 => ?_, fun h8 => ho.more.2 (by omega)⟩
  · have := ho.rng b (Nd.mem_l hb); omega
  · have hm : (T ino).more ≠ 0 := fun h0 => by have := ho.more.1 h0; omega
    have := ho.rng _ (Nd.mem_more hm); omega
theorem Tab.gl (h : Tab w bt bx bc bj bm bd at_ n mat lo nbl C F T) : Gl w := h.map.rep.disk.gl
theorem Tab.below (h : Tab w bt bx bc bj bm bd at_ n mat lo nbl C F T) {ino : Nat} (h1 : 1 ≤ ino) (h2 : ino ≤ n) : at_ + ino - 1 < C.blocks := by
  have g := h.geo
  have := g.g2; have := g.g3; have := g.g6; omega
theorem tab_read (h : Tab w bt bx bc bj bm bd at_ n mat lo nbl C F T) {ino : Nat} (h1 : 1 ≤ ino) (h2 : ino ≤ n) :
    Calls Tryz.prog 77 #[.pointer (some ⟨bt, 0, none⟩), .int .i64 ino] w fun e w' => ∃ A c, e = .returned (.tuple #[.agg #[.int .i64 (T ino).kind, .int .i64 (T ino).size, .slice A (T ino).l.length c, .int .i64 (T ino).more], .nilIface]) ∧ w'.ownsRow w.heap.size 3 1 (.slice A (T ino).l.length c) (T ino).l.length (ints (natI (T ino).l)) ∧ Kp (fun _ => False) w w' := by
  refine (inode_read h.blk h.map.rep h.map.live ino h1 (h.below h1 h2) (T ino) (h.img h1 h2)).mono ?_
  rintro e w' ⟨lv, rfl, ho, hk⟩
  obtain ⟨A, c, rfl⟩ := own_shape ho
  exact ⟨A, c, rfl, ho, hk⟩
/-- The result's block, written. -/
theorem res_kp {w W : World} {r : Nat} (hk : Kp (fun _ => False) w W) (hr : w.heap.size ≤ r) (a b c d : Value) : Kp (fun _ => False) w ((((W.setCell ⟨r, 0, none⟩ a).setCell ⟨r, 1, none⟩ b).setCell ⟨r, 2, none⟩ c).setCell ⟨r, 3, none⟩ d) :=
  hk.over (set4_kp (Kp.refl (fun k => k = r) W) (.inl rfl)) (fun i e => by have : i = r := e; omega)

theorem inode_had_ok (h : Tab w bt bx bc bj bm bd at_ n mat lo nbl C F T) {ino : Nat} (h1 : 1 ≤ ino) (h2 : ino ≤ n) (hkd : (T ino).kind ≠ 0) :
    Calls Tryz.prog 43 #[.pointer (some ⟨bt, 0, none⟩), .int .i64 ino, .bool true] w fun e w' => ∃ A c, e = .returned (.tuple #[.agg #[.int .i64 (T ino).kind, .int .i64 (T ino).size, .slice A (T ino).l.length c, .int .i64 (T ino).more], .nilIface]) ∧ w'.ownsRow w.heap.size 3 1 (.slice A (T ino).l.length c) (T ino).l.length (ints (natI (T ino).l)) ∧ Kp (fun _ => False) w w' := by
  have HT := Lib.hid (fun (W : World) (hk : Kp (fun _ => False) w W) => inode_there (hk.blk h.blk (fun h => h)) (ino : Int) (by omega) (by omega))
  have HR := Lib.hid (fun (W : World) (hk : Kp (fun _ => False) w W) => tab_read (h.kp0 hk) h1 h2)
  have hkz : ¬ ((T ino).kind : Int) = 0 := by omega
  have hkb : (((T ino).kind : Int) == 0) = false := by simpa using hkz
  generalize T ino = x at *
  clear h hkd hkz
  go_enter Tryz.func43, Tryz.ntmps43
  go_upto_region 1 with fail
  generalize hw0 : w.alloc _ = w0
  have Hk0 := Lib.hid (show Kp (fun _ => False) w w0 by rw [← hw0]; exact (Kp.refl _ w).alloc _)
  have hz0 : w.heap.size < w0.heap.size := by rw [← hw0, size_alloc]; omega
  have HB0 := Lib.hid (show w0.heap[w.heap.size]? = some nz by rw [← hw0]; exact new_blk w _)
  clear hw0
  go_wp2_with (first | (go_at_call 76; refine (HT.out _ Hk0.out).mono ?_; rintro e w1 ⟨rfl, rfl⟩))
  refine (HR.out _ Hk0.out).mono ?_
  rintro e w3 ⟨A, c, rfl, hown, hk3⟩
  have Hown := Lib.hid hown
  have Hk3 := Lib.hid hk3
  clear hown hk3 HT HR
  go_upto_region 4 with fail
  have hka := (Kp.refl (fun _ => False) w3).alloc (.cells #[.int .i64 x.kind, .int .i64 x.size, .slice A x.l.length c, .int .i64 x.more] 94)
  have Hp := Lib.hid (new_blk w3 (.cells #[.int .i64 x.kind, .int .i64 x.size, .slice A x.l.length c, .int .i64 x.more] 94))
  have Hown3 := Lib.hid (own_kp0 Hown.out hka)
  have HK := Lib.hid ((Hk0.out.trans Hk3.out (Gr.refl _ _)).trans hka (Gr.refl _ _))
  have HB := Lib.hid ((Hk3.out.trans hka (Gr.refl _ _)).blk HB0.out (fun h => h))
  clear hka Hown HB0
  generalize w3.alloc (.cells #[.int .i64 x.kind, .int .i64 x.size, .slice A x.l.length c, .int .i64 x.more] 94) = w4 at *
  generalize w3.heap.size = p at *
  unfold nz at HB
  have d0 := cell_blk HB.out 0
  have d1 := cell_blk HB.out 1
  have d2 := cell_blk HB.out 2
  have d3 := cell_blk HB.out 3
  have e0 := frozen_blk HB.out 0
  have e1 := frozen_blk HB.out 1
  have e2 := frozen_blk HB.out 2
  have e3 := frozen_blk HB.out 3
  simp at d0 d1 d2 d3
  have c0 := cell_blk Hp.out 0
  have c1 := cell_blk Hp.out 1
  have c2 := cell_blk Hp.out 2
  have c3 := cell_blk Hp.out 3
  simp at c0 c1 c2 c3
  go_wp2_with fail
  clear c0 c1 c2 c3
  have HS := set4 (a' := .int .i64 x.kind) (b' := .int .i64 x.size) (c' := .slice A x.l.length c) (d' := .int .i64 x.more) HB.out
  have hfin := set4_kp (a' := .int .i64 x.kind) (b' := .int .i64 x.size) (c' := .slice A x.l.length c) (d' := .int .i64 x.more) (Kp.refl (fun k => k = w.heap.size) w4) (.inl rfl)
  have Hfin := Lib.hid hfin
  have Hend := Lib.hid (HK.out.over hfin (fun i e => by have : i = w.heap.size := e; omega))
  have Hown9 := Lib.hid (own_kp Hown3.out hfin (own_ne Hown3.out HB.out (by decide)))
  clear hfin d0 d1 d2 d3 e0 e1 e2 e3
  generalize ((((w4.setCell ⟨w.heap.size, 0, none⟩ (.int .i64 x.kind)).setCell ⟨w.heap.size, 1, none⟩ (.int .i64 x.size)).setCell ⟨w.heap.size, 2, none⟩ (.slice A x.l.length c)).setCell ⟨w.heap.size, 3, none⟩ (.int .i64 x.more)) = wf at *
  have d0 := cell_blk HS 0
  have d1 := cell_blk HS 1
  have d2 := cell_blk HS 2
  have d3 := cell_blk HS 3
  simp at d0 d1 d2 d3
  refine bodyPost_ret (v := .tuple #[.agg #[.int .i64 x.kind, .int .i64 x.size, .slice A x.l.length c, .int .i64 x.more], .nilIface]) (by simp [results, Tryz.results43, go_sem, d0, d1, d2, d3]) rfl ⟨A, c, rfl, own_low Hown9.out (by omega), Hend.out⟩
theorem inode_had_arg (h : Tab w bt bx bc bj bm bd at_ n mat lo nbl C F T) {ino : Int} {good : Bool} (hno : (ino < 1 ∨ (n : Int) < ino) ∨ good = false) (h0 : -9223372036854775808 ≤ ino) (h9 : ino ≤ 9223372036854775807) :
    Calls Tryz.prog 43 #[.pointer (some ⟨bt, 0, none⟩), .int .i64 ino, .bool good] w fun e w' => ∃ v, e = .returned (.tuple #[.agg #[.int .i64 0, .int .i64 0, .slice none 0 0, .int .i64 0], v]) ∧ IsErr w' v [(tx [105, 110, 111, 100, 101], tx (Lib.itoa ino))] 1 ∧ Kp (fun _ => False) w w' := by
  obtain ⟨b, HT, hb⟩ : ∃ b : Bool, Hid (∀ W : World, Kp (fun _ => False) w W → Calls Tryz.prog 76 #[.pointer (some ⟨bt, 0, none⟩), .int .i64 ino] W fun e w' => e = .returned (.bool b) ∧ W = w') ∧ (b = true → good = false) := by
    by_cases hn : ino < 1 ∨ (n : Int) < ino
    · exact ⟨false, Lib.hid (fun W hk => inode_there_no (hk.blk h.blk (fun h => h)) ino hn), fun e => by cases e⟩
    · exact ⟨true, Lib.hid (fun W hk => inode_there (hk.blk h.blk (fun h => h)) ino (by omega) (by omega)), fun _ => by rcases hno with h1 | h1; exact absurd h1 hn; exact h1⟩
  have HW := Lib.hid (fun (W : World) (hk : Kp (fun _ => False) w W) => inode_wrong ino 1 W (h.gl.kp hk Hi.none) h0 h9 (by decide))
  clear h hno
  have hN : (good = false ∧ b = true) ∨ b = false := by cases b; exact .inr rfl; exact .inl ⟨hb rfl, rfl⟩
  clear hb
  rcases hN with ⟨rfl, rfl⟩ | rfl
  all_goals
    go_enter Tryz.func43, Tryz.ntmps43
    go_upto_region 1 with fail
    generalize hw0 : w.alloc _ = w0
    have Hk0 := Lib.hid (show Kp (fun _ => False) w w0 by rw [← hw0]; exact (Kp.refl _ w).alloc _)
    have hz0 : w.heap.size < w0.heap.size := by rw [← hw0, size_alloc]; omega
    have HB0 := Lib.hid (show w0.heap[w.heap.size]? = some nz by rw [← hw0]; exact new_blk w _)
    clear hw0
    go_wp2_with (first | (go_at_call 76; refine (HT.out _ Hk0.out).mono ?_; rintro e w1 ⟨rfl, rfl⟩))
    refine (HW.out _ Hk0.out).mono ?_
    rintro e w4 ⟨v, rfl, hv, hk4⟩
    have Hv := Lib.hid hv
    have HB := Lib.hid (hk4.blk HB0.out (fun h => h))
    have HK := Lib.hid (Hk0.out.trans hk4 (Gr.refl _ _))
    clear hv hk4 HB0
    unfold nz at HB
    have d0 := cell_blk HB.out 0
    have d1 := cell_blk HB.out 1
    have d2 := cell_blk HB.out 2
    have d3 := cell_blk HB.out 3
    have e0 := frozen_blk HB.out 0
    have e1 := frozen_blk HB.out 1
    have e2 := frozen_blk HB.out 2
    have e3 := frozen_blk HB.out 3
    simp at d0 d1 d2 d3
    go_wp2_with fail
    have HS := set4 (a' := .int .i64 0) (b' := .int .i64 0) (c' := .slice none 0 0) (d' := .int .i64 0) HB.out
    have hfin := set4_kp (a' := .int .i64 0) (b' := .int .i64 0) (c' := .slice none 0 0) (d' := .int .i64 0) (Kp.refl (fun k => k = w.heap.size) w4) (.inl rfl)
    have Hfin := Lib.hid hfin
    have Hend := Lib.hid (HK.out.over hfin (fun i e => by have : i = w.heap.size := e; omega))
    clear hfin d0 d1 d2 d3 e0 e1 e2 e3
    generalize ((((w4.setCell ⟨w.heap.size, 0, none⟩ (.int .i64 0)).setCell ⟨w.heap.size, 1, none⟩ (.int .i64 0)).setCell ⟨w.heap.size, 2, none⟩ (.slice none 0 0)).setCell ⟨w.heap.size, 3, none⟩ (.int .i64 0)) = wf at *
    have d0 := cell_blk HS 0
    have d1 := cell_blk HS 1
    have d2 := cell_blk HS 2
    have d3 := cell_blk HS 3
    simp at d0 d1 d2 d3
    refine bodyPost_ret (v := .tuple #[.agg #[.int .i64 0, .int .i64 0, .slice none 0 0, .int .i64 0], v]) (by simp [results, Tryz.results43, go_sem, d0, d1, d2, d3]) rfl ⟨v, rfl, Hv.out.kp Hfin.out (fun k e cs fr hc => by have : k = w.heap.size := e; subst this; rw [HB.out] at hc; simp at hc), Hend.out⟩
theorem inode_had_none (h : Tab w bt bx bc bj bm bd at_ n mat lo nbl C F T) {ino : Nat} (h1 : 1 ≤ ino) (h2 : ino ≤ n) (hkd : (T ino).kind = 0) :
    Calls Tryz.prog 43 #[.pointer (some ⟨bt, 0, none⟩), .int .i64 ino, .bool true] w fun e w' => ∃ v, e = .returned (.tuple #[.agg #[.int .i64 0, .int .i64 0, .slice none 0 0, .int .i64 0], v]) ∧ IsErr w' v [(tx [105, 110, 111, 100, 101], tx (Lib.itoa ino))] 11 ∧ Kp (fun _ => False) w w' := by
  have HT := Lib.hid (fun (W : World) (hk : Kp (fun _ => False) w W) => inode_there (hk.blk h.blk (fun h => h)) (ino : Int) (by omega) (by omega))
  have HR := Lib.hid (fun (W : World) (hk : Kp (fun _ => False) w W) => tab_read (h.kp0 hk) h1 h2)
  have hn200 := h.geo.g5
  have HW := Lib.hid (fun (W : World) (hk : Kp (fun _ => False) w W) => inode_wrong (ino : Int) 11 W (h.gl.kp hk Hi.none) (by omega) (by omega) (by decide))
  have Hkd := Lib.hid (show ((T ino).kind : Int) = 0 by omega)
  generalize T ino = x at *
  clear h hkd
  go_enter Tryz.func43, Tryz.ntmps43
  go_upto_region 1 with fail
  generalize hw0 : w.alloc _ = w0
  have Hk0 := Lib.hid (show Kp (fun _ => False) w w0 by rw [← hw0]; exact (Kp.refl _ w).alloc _)
  have hz0 : w.heap.size < w0.heap.size := by rw [← hw0, size_alloc]; omega
  have HB0 := Lib.hid (show w0.heap[w.heap.size]? = some nz by rw [← hw0]; exact new_blk w _)
  clear hw0
  go_wp2_with (first | (go_at_call 76; refine (HT.out _ Hk0.out).mono ?_; rintro e w1 ⟨rfl, rfl⟩))
  refine (HR.out _ Hk0.out).mono ?_
  rintro e w3 ⟨A, c, rfl, hown, hk3⟩
  rw [Hkd.out]
  have Hk3 := Lib.hid hk3
  clear hown hk3 HT HR
  go_upto_region 4 with fail
  have hka := (Kp.refl (fun _ => False) w3).alloc (.cells #[.int .i64 0, .int .i64 x.size, .slice A x.l.length c, .int .i64 x.more] 94)
  have Hp := Lib.hid (new_blk w3 (.cells #[.int .i64 0, .int .i64 x.size, .slice A x.l.length c, .int .i64 x.more] 94))
  have HK' := Lib.hid ((Hk0.out.trans Hk3.out (Gr.refl _ _)).trans hka (Gr.refl _ _))
  have HB' := Lib.hid ((Hk3.out.trans hka (Gr.refl _ _)).blk HB0.out (fun h => h))
  clear hka HB0
  generalize w3.alloc (.cells #[.int .i64 0, .int .i64 x.size, .slice A x.l.length c, .int .i64 x.more] 94) = w5 at *
  generalize w3.heap.size = p at *
  have c0 := cell_blk Hp.out 0
  simp at c0
  go_wp2_with fail
  refine (HW.out _ HK'.out).mono ?_
  rintro e w4 ⟨v, rfl, hv, hk4⟩
  have Hv := Lib.hid hv
  have HB := Lib.hid (hk4.blk HB'.out (fun h => h))
  have HK := Lib.hid (HK'.out.trans hk4 (Gr.refl _ _))
  clear hv hk4 HB' c0
  unfold nz at HB
  have d0 := cell_blk HB.out 0
  have d1 := cell_blk HB.out 1
  have d2 := cell_blk HB.out 2
  have d3 := cell_blk HB.out 3
  have e0 := frozen_blk HB.out 0
  have e1 := frozen_blk HB.out 1
  have e2 := frozen_blk HB.out 2
  have e3 := frozen_blk HB.out 3
  simp at d0 d1 d2 d3
  go_wp2_with fail
  have HS := set4 (a' := .int .i64 0) (b' := .int .i64 0) (c' := .slice none 0 0) (d' := .int .i64 0) HB.out
  have hfin := set4_kp (a' := .int .i64 0) (b' := .int .i64 0) (c' := .slice none 0 0) (d' := .int .i64 0) (Kp.refl (fun k => k = w.heap.size) w4) (.inl rfl)
  have Hfin := Lib.hid hfin
  have Hend := Lib.hid (HK.out.over hfin (fun i e => by have : i = w.heap.size := e; omega))
  clear hfin d0 d1 d2 d3 e0 e1 e2 e3
  generalize ((((w4.setCell ⟨w.heap.size, 0, none⟩ (.int .i64 0)).setCell ⟨w.heap.size, 1, none⟩ (.int .i64 0)).setCell ⟨w.heap.size, 2, none⟩ (.slice none 0 0)).setCell ⟨w.heap.size, 3, none⟩ (.int .i64 0)) = wf at *
  have d0 := cell_blk HS 0
  have d1 := cell_blk HS 1
  have d2 := cell_blk HS 2
  have d3 := cell_blk HS 3
  simp at d0 d1 d2 d3
  refine bodyPost_ret (v := .tuple #[.agg #[.int .i64 0, .int .i64 0, .slice none 0 0, .int .i64 0], v]) (by simp [results, Tryz.results43, go_sem, d0, d1, d2, d3]) rfl ⟨v, rfl, Hv.out.kp Hfin.out (fun k e cs fr hc => by have : k = w.heap.size := e; subst this; rw [HB.out] at hc; simp at hc), Hend.out⟩
end Go.Proofs.YthjbpbahcemfgaaGreatDoor
