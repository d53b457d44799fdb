/- The state of six inodes: Free, Free of what is free, Make of a seventh. -/
/- The state of six inodes: no room (error 15), a Flush and a Drop behind it. -/
import Derived.Test.YtdmmlkkemceifaaGreatDoorInoG
import Derived.Test.YtdmmlkkemceifaaGreatDoorIT
import Derived.Test.YtdmmlkkemceifaaGreatDoorSizes
namespace Go.Proofs.YtdmmlkkemceifaaGreatDoor
open Go.RowKit
set_option maxHeartbeats 2000000
set_option maxRecDepth 20000
variable {w wr : World} {bt bx bc bj bm bd at_ n mat lo nbl : Nat} {C : CSt} {F : Nat → Prop} {T : Nat → Nd} {R : Nat → Nat × List Int}

theorem inode_Free_err {ino k : Int} (h : Calls Tryz.prog 33 #[.pointer (some ⟨bt, 0, none⟩), .int .i64 ino, .bool true] w fun e w' => ∃ v, e = .returned (.tuple #[.agg #[.int .i64 0, .int .i64 0, .slice none 0 0, .int .i64 0], v]) ∧ IsErr w' v [(tx [105, 110, 111, 100, 101], tx (Lib.itoa ino))] k ∧ Kp (fun _ => False) w w') :
    Calls Tryz.prog 23 #[.pointer (some ⟨bt, 0, none⟩), .int .i64 ino] w fun e w' => ∃ v, e = .returned v ∧ IsErr w' v [(tx [105, 110, 111, 100, 101], tx (Lib.itoa ino))] k ∧ Kp (fun _ => False) w w' := by
  have HR := Lib.hid h
  clear h
  go_enter Tryz.func23, Tryz.ntmps23
  go_wp2_with fail
  refine HR.out.mono ?_
  rintro e w3 ⟨v, rfl, hv, hk3⟩
  obtain ⟨t, x, rfl⟩ := hv.iface
  have hka := (Kp.refl (fun _ => False) w3).alloc (.cells #[.int .i64 0, .int .i64 0, .slice none 0 0, .int .i64 0] 70)
  have Hk3 := Lib.hid (hk3.trans hka (Gr.refl _ _))
  have Hv := Lib.hid (hv.kp hka (FCl.none _))
  clear hv hk3 HR hka
  go_wp2_with fail
  go_ret
  exact ⟨_, rfl, Hv.out, Hk3.out⟩
theorem inode_Free_none (h : Tab w bt bx bc bj bm bd at_ n mat lo nbl C F T) {ino : Nat} (h1 : 1 ≤ ino) (h2 : ino ≤ n) (hkd : (T ino).kind = 0) :
    Calls Tryz.prog 23 #[.pointer (some ⟨bt, 0, none⟩), .int .i64 ino] w fun e w' => ∃ v, e = .returned v ∧ IsErr w' v [(tx [105, 110, 111, 100, 101], tx (Lib.itoa ino))] 11 ∧ Kp (fun _ => False) w w' :=
  inode_Free_err (inode_had_none h h1 h2 hkd)
theorem it_freeNone (h : IT w bt bx bc bj bm bd nbl R F wr) {ino : Nat} (h1 : 1 ≤ ino) (h2 : ino ≤ 6) (hk : (R ino).1 = 0) :
    Calls Tryz.prog 23 #[.pointer (some ⟨bt, 0, none⟩), .int .i64 ino] wr fun e w' => ∃ v, e = .returned v ∧ IsErr w' v [(tx [105, 110, 111, 100, 101], tx (Lib.itoa ino))] 11 ∧ Kp (fun _ => False) wr w' := by
  obtain ⟨⟨C, T, ht, hR, hC⟩, h3, h4, h5, h6⟩ := h
  exact inode_Free_none ht h1 h2 (by rw [(hR ino h1 h2).1]; exact hk)
theorem it_freeIno (h : IT w bt bx bc bj bm bd nbl R F wr) {ino : Nat} (h1 : 1 ≤ ino) (h2 : ino ≤ 6) (hk : (R ino).1 ≠ 0) :
    Calls Tryz.prog 23 #[.pointer (some ⟨bt, 0, none⟩), .int .i64 ino] wr fun e w' => e = .returned .nilIface ∧ ∃ F', IT w bt bx bc bj bm bd nbl (setR R ino (0, [])) F' w' ∧ Kp F wr w' ∧ Gr F F' wr.heap.size := by
  obtain ⟨⟨C, T, ht, hR, hC⟩, h3, h4, h5, h6⟩ := h
  refine (inode_Free_ok ht h1 h2 (Nat.le_trans h6 h3.size) (by rw [(hR ino h1 h2).1]; exact hk) (it_room hC.1 hC.2.1 h5 h2)).mono ?_
  rintro e w' ⟨rfl, C', F', hs⟩
  refine ⟨rfl, F', ⟨⟨C', setT T ino Nd.zero, hs.tab, fun k k1 k2 => ?_, fun x hx => ?_, by rw [hs.cs.mo]; exact hC.2.1, by rw [hs.cs.ja]; exact hC.2.2.1, by rw [hs.cs.bl]; exact hC.2.2.2.1, by rw [hs.cs.D]; exact hC.2.2.2.2.1, by rw [hs.cs.D]; exact hC.2.2.2.2.2⟩, h3.over hs.kp h4, hs.gr.over h4 h3.size, h5, h6⟩, hs.kp, hs.gr⟩
  · by_cases e : k = ino
    · subst e
      rw [setT_same, setR_same]
      exact ⟨rfl, rfl⟩
    · rw [setT_other _ _ e, setR_other _ _ e, hs.rest k k1 k2 e]
      exact hR k k1 k2
  · rcases hs.cs.ch x hx with h | h | h
    · exact hC.1 x h
    · unfold IsM nb at h; omega
    · omega
theorem it_makeFull (h : IT w bt bx bc bj bm bd nbl R F wr) {kd : Nat} (hl : ∀ j, 1 ≤ j → j ≤ 6 → (R j).1 ≠ 0) (hk : kd = 1 ∨ kd = 2) :
    Calls Tryz.prog 9 #[.pointer (some ⟨bt, 0, none⟩), .int .i64 kd] wr fun e w' => ∃ v, e = .returned (.tuple #[.int .i64 0, v]) ∧ IsErr w' v [(tx [105, 110, 111, 100, 101], tx [])] 16 ∧ Kp (fun _ => False) wr w' := by
  obtain ⟨⟨C, T, ht, hR, hC⟩, h3, h4, h5, h6⟩ := h
  refine (inode_Make_of (R := fun x y w' => x = .int .i64 0 ∧ IsErr w' y [(tx [105, 110, 111, 100, 101], tx [])] 16 ∧ Kp (fun _ => False) wr w') (kd := (kd : Int)) (by omega) ((inode_take_full ht (fun j j1 j2 => by rw [(hR j j1 j2).1]; exact hl j j1 j2)).mono ?_)).mono ?_
  · rintro e w' ⟨v, rfl, a, b⟩
    exact ⟨_, v, rfl, rfl, a, b⟩
  · rintro e w' ⟨x, y, rfl, rfl, a, b⟩
    exact ⟨y, rfl, a, b⟩
end Go.Proofs.YtdmmlkkemceifaaGreatDoor
namespace Go.Proofs.YtdmmlkkemceifaaGreatDoor
open Go.RowKit
set_option maxHeartbeats 2000000
set_option maxRecDepth 20000
variable {w wr : World} {bt bx bc bj bm bd nbl : Nat} {F : Nat → Prop} {R : Nat → Nat × List Int}

theorem it_writeFull (h : IT w bt bx bc bj bm bd nbl R F wr) {ino p : Nat} (h1 : 1 ≤ ino) (h2 : ino ≤ 6) (hk : (R ino).1 ≠ 0) (v : Value) (ys : List Int) (hv : Sl wr v ys) (hyb : Byt ys) (hy0 : ys ≠ []) (hp : p + ys.length ≤ 4000) (hfull : nbl + bks (R ino).2.length < usedR R 6 + bks (max (R ino).2.length (p + ys.length))) :
    Calls Tryz.prog 10 #[.pointer (some ⟨bt, 0, none⟩), .int .i64 ino, .int .i64 p, v] wr fun e w' => ∃ u, e = .returned u ∧ IsErr w' u [(tx [105, 110, 111, 100, 101], tx (Lib.itoa ino))] 15 ∧ Kp (fun _ => False) wr w' := by
  obtain ⟨⟨C, T, ht, hR, hC⟩, h3, h4, h5, h6⟩ := h
  obtain ⟨e1, e2⟩ := hR ino h1 h2
  have hdl := data_len ht h1 h2
  have hu := it_used ht hR
  rw [e2] at hdl
  rw [hdl] at hfull
  exact inode_Write_full ht h1 h2 (by rw [e1]; exact hk) v ys hv hyb hy0 hp (by omega)
theorem it_cutFull (h : IT w bt bx bc bj bm bd nbl R F wr) {ino M : Nat} (h1 : 1 ≤ ino) (h2 : ino ≤ 6) (hk : (R ino).1 ≠ 0) (hM : M ≤ 4000) (hfull : nbl + bks (R ino).2.length < usedR R 6 + bks M) :
    Calls Tryz.prog 17 #[.pointer (some ⟨bt, 0, none⟩), .int .i64 ino, .int .i64 M] wr fun e w' => ∃ u, e = .returned u ∧ IsErr w' u [(tx [105, 110, 111, 100, 101], tx (Lib.itoa ino))] 15 ∧ Kp (fun _ => False) wr w' := by
  obtain ⟨⟨C, T, ht, hR, hC⟩, h3, h4, h5, h6⟩ := h
  obtain ⟨e1, e2⟩ := hR ino h1 h2
  have hdl := data_len ht h1 h2
  have hu := it_used ht hR
  rw [e2] at hdl
  rw [hdl] at hfull
  exact inode_Cut_full ht h1 h2 (by rw [e1]; exact hk) hM (by omega)

/-- The same where nothing is changed behind the last Flush. -/
structure ITc (w : World) (bt bx bc bj bm bd nbl : Nat) (R : Nat → Nat × List Int) (F : Nat → Prop) (wr : World) : Prop where
  ex : ∃ C T, Tab wr bt bx bc bj bm bd 5 6 0 20 nbl C F T ∧ (∀ k, 1 ≤ k → k ≤ 6 → (T k).kind = (R k).1 ∧ dataOf C.view (T k) = (R k).2) ∧ C.ch = [] ∧ C.most = 80 ∧ C.jat = 120 ∧ C.blocks = 120 ∧ C.D.n = 220 ∧ C.D.fuse = -1
  kp : Kp (fun _ => False) w wr
  hi : ∀ k, F k → w.heap.size ≤ k
  few : nbl ≤ 60
  ng : NG ≤ w.heap.size
theorem ITc.kp0 {w' : World} (h : ITc w bt bx bc bj bm bd nbl R F wr) (k : Kp (fun _ => False) wr w') : ITc w bt bx bc bj bm bd nbl R F w' := by
  obtain ⟨⟨C, T, h1, h2⟩, h3, h4, h5, h6⟩ := h
  exact ⟨⟨C, T, h1.kp0 k, h2⟩, h3.trans k (Gr.refl _ _), h4, h5, h6⟩
theorem ITc.it (h : ITc w bt bx bc bj bm bd nbl R F wr) : IT w bt bx bc bj bm bd nbl R F wr := by
  obtain ⟨⟨C, T, h1, h2, hc, h7⟩, h3, h4, h5, h6⟩ := h
  exact ⟨⟨C, T, h1, h2, fun x hx => (by rw [hc] at hx; cases hx), h7⟩, h3, h4, h5, h6⟩
theorem it_flushC (h : IT w bt bx bc bj bm bd nbl R F wr) :
    Calls Tryz.prog 13 #[.pointer (some ⟨bc, 0, none⟩)] wr fun e w' => e = .returned .nilIface ∧ ∃ F', ITc w bt bx bc bj bm bd nbl R F' w' := by
  obtain ⟨⟨C, T, ht, hR, hC1, c6, c7, c8, c9, c10⟩, h3, h4, h5, h6⟩ := h
  have c1 := ht.map
  have hz : C.D.Fz := by unfold DSt.Fz; rw [c10]; omega
  have hf : C.D.fuse ≤ 0 := by rw [c10]; omega
  have hca := C.commit_alive c1.live hf
  have hfa := C.flush_alive c1.live hf
  have hrow : ∀ k, k < 120 → C.commit.2.row k = C.view k := fun k hk => C.flush_row c1.live hf c1.rep.nd k (by rw [c7]; exact hk)
  have hview : ∀ k, k < 120 → C.flush.view k = C.view k := fun k hk => by rw [hfa]; simp [CSt.view, hrow k hk]
  have hblk : C.flush.blocks = C.blocks := by rw [hfa]
  have hvw : ∀ no, no < C.blocks → C.flush.view no = C.view no := fun no hno => hview no (by rw [← c8]; exact hno)
  refine (cache_Flush c1.rep hz (by rw [c7, c8]; omega) (by rw [c7, c6, c9]; decide)).mono ?_
  rintro e w' ⟨u, rfl, hu, F', hr, hk, hg⟩
  rw [hca.1] at hu
  have hu' : u = .nilIface := hu
  subst hu'
  refine ⟨rfl, F', ⟨⟨C.flush, T, ⟨hk.blk ht.blk ht.out, hg.not ht.out (lt_blk ht.blk), c1.step hr hk hg hblk (by rw [hfa]; exact hca.2.1) (fun no hno => by rw [hvw no (by rw [hblk] at hno; exact hno)]; exact c1.vb no (by rw [hblk] at hno; exact hno)), by rw [hblk]; exact ht.geo, ht.ti.congr ht.geo hvw⟩, fun k k1 k2 => ?_, by rw [hfa], by rw [hfa]; exact c6, by rw [hfa]; exact c7, by rw [hfa]; exact c8, by rw [hfa]; exact hca.2.2.2.trans c9, by rw [hfa]; exact hca.2.2.1.trans c10⟩, h3.over hk h4, hg.over h4 h3.size, h5, h6⟩⟩
  rw [dataOf_congr ht.ti ht.geo hvw k1 k2]
  exact hR k k1 k2
theorem it_drop (h : ITc w bt bx bc bj bm bd nbl R F wr) :
    Calls Tryz.prog 21 #[.pointer (some ⟨bc, 0, none⟩)] wr fun e w' => e = .returned (.tuple #[]) ∧ ITc w bt bx bc bj bm bd nbl R F w' := by
  obtain ⟨⟨C, T, ht, hR, hc, hC⟩, h3, h4, h5, h6⟩ := h
  have e1 : C.drop = C := by
    unfold CSt.drop; rw [← hc]
  refine (cache_Drop_ok ht.map.rep).mono ?_
  rintro e w' ⟨rfl, hr, hk⟩
  rw [e1] at hr
  exact ⟨rfl, ⟨⟨C, T, ⟨hk.blk ht.blk ht.out, ht.out, ht.map.step hr hk (Gr.refl _ _) rfl ht.map.live ht.map.vb, ht.geo, ht.ti⟩, hR, hc, hC⟩, h3.over hk h4, h4, h5, h6⟩⟩
theorem it_write_new {w wr : World} {bt bx bc bj bm bd nbl : Nat} {R : Nat → Nat × List Int} {F : Nat → Prop} (h : IT w bt bx bc bj bm bd nbl R F wr) {ino kd : Nat} (h1 : 1 ≤ ino) (h2 : ino ≤ 6) (hR : R ino = (kd, [])) (hk : kd ≠ 0) (v : Value) (ys : List Int) (hv : Sl wr v ys) (hyb : Byt ys) (hl : ys.length ≤ 4000) (hroom : usedR R 6 + bks ys.length ≤ nbl) :
    Calls Tryz.prog 10 #[.pointer (some ⟨bt, 0, none⟩), .int .i64 ino, .int .i64 0, v] wr fun e w' => e = .returned .nilIface ∧ ∃ F', IT w bt bx bc bj bm bd nbl (setR R ino (kd, ys)) F' w' ∧ Kp F wr w' := by
  by_cases h0 : ys = []
  · subst h0
    refine (it_write0 h (ino := ino) (p := 0) h1 h2 (by rw [hR]; exact hk) v hv (by omega)).mono ?_
    rintro e w' ⟨rfl, k⟩
    refine ⟨rfl, F, ?_⟩
    have e1 : setR R ino (kd, []) = R := by
      funext j; unfold setR; split
      · rename_i e; rw [e, hR]
      · rfl
    rw [e1]
    exact ⟨h.kp0 k, k.mono (fun _ h => h.elim)⟩
  · have e1 : max ([] : List Int).length (0 + ys.length) = ys.length := by simp
    have e2 : usedR R 6 + bks (max (R ino).2.length (0 + ys.length)) ≤ nbl + bks (R ino).2.length := by
      rw [hR]
      show usedR R 6 + bks (max ([] : List Int).length (0 + ys.length)) ≤ nbl + bks ([] : List Int).length
      rw [e1]; omega
    refine (it_write h (ino := ino) (p := 0) h1 h2 (by rw [hR]; exact hk) v ys hv hyb h0 (by omega) e2).mono ?_
    rintro e w' ⟨rfl, F', hit, hkk, -⟩
    rw [hR, show ((kd, ([] : List Int)) : Nat × List Int).2 = [] from rfl, show ((kd, ([] : List Int)) : Nat × List Int).1 = kd from rfl, wrAt_nil] at hit
    exact ⟨rfl, F', hit, hkk⟩
theorem it_readNew {w wr : World} {bt bx bc bj bm bd nbl : Nat} {R : Nat → Nat × List Int} {F : Nat → Prop} (h : IT w bt bx bc bj bm bd nbl R F wr) {ino p m : Nat} (h1 : 1 ≤ ino) (h2 : ino ≤ 6) (hk : (R ino).1 ≠ 0) (hp : p < 4611686018427387904) (hm : m < 4611686018427387904) :
    Calls Tryz.prog 14 #[.pointer (some ⟨bt, 0, none⟩), .int .i64 ino, .int .i64 p, .int .i64 m] wr fun e w' => ∃ v, e = .returned (.tuple #[v, .nilIface]) ∧ Sl w' v (readAt (R ino).2 p m) ∧ Kp (fun _ => False) wr w' ∧ ∀ b, blockOf v = some b → ¬ F b := by
  have hfr := h.fresh
  obtain ⟨⟨C, T, ht, hR, hC⟩, h3, h4, h5, h6⟩ := h
  obtain ⟨e1, e2⟩ := hR ino h1 h2
  have := inode_Read_new ht h1 h2 (by rw [e1]; exact hk) hp hm
  rw [e2] at this
  refine this.mono ?_
  rintro e w' ⟨v, a, b, c, d⟩
  exact ⟨v, a, b, c, fun k hk hF => by have := d k hk; have := hfr k hF; omega⟩
end Go.Proofs.YtdmmlkkemceifaaGreatDoor
