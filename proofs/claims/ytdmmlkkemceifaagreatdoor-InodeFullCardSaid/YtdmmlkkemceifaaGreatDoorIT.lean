/- Six inodes over a map over a new cache, as the statements of layer 8 have them. -/
import Derived.Test.YtdmmlkkemceifaaGreatDoorInoN
import Derived.Test.YtdmmlkkemceifaaGreatDoorFlushV
namespace Go.Proofs.YtdmmlkkemceifaaGreatDoor
open Go.RowKit
set_option maxHeartbeats 1000000
set_option maxRecDepth 20000

theorem TI.congr {C C' : CSt} {at_ n mat lo nbl : Nat} {T : Nat → Nd} (h : TI C at_ n mat lo nbl T) (g : Geo at_ n mat lo nbl C.blocks) (hv : ∀ no, no < C.blocks → C'.view no = C.view no) : TI C' at_ n mat lo nbl T := by
  have g1 := g.g1
  have g2 := g.g2
  have g3 := g.g3
  have g6 := g.g6
  refine ⟨fun k a b => by rw [hv _ (by omega)]; exact h.img k a b, fun k a b c => ?_, h.ok, fun j hj => ?_, h.sep⟩
  · have ho := h.ok k a b
    have hm : (T k).more ≠ 0 := fun h0 => by have := ho.more.1 h0; omega
    have := ho.rng _ (Nd.mem_more hm)
    rw [hv _ (by omega)]; exact h.mor k a b c
  · rw [bitC_congr (C := C) (nbl := nbl) (fun no hno => hv no (by unfold IsM at hno; omega)) j hj]
    exact h.bit j hj
theorem dataOf_congr {C C' : CSt} {at_ n mat lo nbl : Nat} {T : Nat → Nd} (h : TI C at_ n mat lo nbl T) (g : Geo at_ n mat lo nbl C.blocks) (hv : ∀ no, no < C.blocks → C'.view no = C.view no) {k : Nat} (k1 : 1 ≤ k) (k2 : k ≤ n) : dataOf C'.view (T k) = dataOf C.view (T k) := by
  have g3 := g.g3
  unfold dataOf
  congr 1
  exact cat_congr fun b hb => hv b (by have := (h.ok k k1 k2).rng b (Nd.mem_l hb); omega)
/-- How many blocks all have. -/
def usedR (R : Nat → Nat × List Int) : Nat → Nat
  | 0 => 0
  | k + 1 => usedR R k + bks (R (k + 1)).2.length
def setR (R : Nat → Nat × List Int) (i : Nat) (r : Nat × List Int) : Nat → Nat × List Int := fun k => if k = i then r else R k
@[simp] theorem setR_same (R : Nat → Nat × List Int) (i : Nat) (r : Nat × List Int) : setR R i r i = r := by simp [setR]
theorem setR_other (R : Nat → Nat × List Int) {i k : Nat} (r : Nat × List Int) (h : k ≠ i) : setR R i r k = R k := by simp [setR, h]
theorem usedR_set (R : Nat → Nat × List Int) {i n : Nat} (r : Nat × List Int) (h1 : 1 ≤ i) (h2 : i ≤ n) : usedR (setR R i r) n + bks (R i).2.length = usedR R n + bks r.2.length := by
  induction n with
  | zero => omega
  | succ n ih =>
    rw [usedR, usedR]
    by_cases e : i = n + 1
    · subst e
      have : usedR (setR R (n + 1) r) n = usedR R n := by
        have : ∀ m, m ≤ n → usedR (setR R (n + 1) r) m = usedR R m := by
          intro m
          induction m with
          | zero => intro _; rfl
          | succ m ihm => intro hm; rw [usedR, usedR, ihm (by omega), setR_other _ _ (by omega)]
        exact this n (Nat.le_refl _)
      rw [this, setR_same]; omega
    · have := ih (by omega)
      rw [setR_other _ _ (by omega)]; omega

/-- R: of each inode the kind and the bytes. -/
structure IT (w : World) (bt bx bc bj bm bd nbl : Nat) (R : Nat → Nat × List Int) (F : Nat → Prop) (wr : World) : Prop where
  ex : ∃ C T, Tab wr bt bx bc bj bm bd 5 6 0 20 nbl C F T ∧ (∀ k, 1 ≤ k → k ≤ 6 → (T k).kind = (R k).1 ∧ dataOf C.view (T k) = (R k).2) ∧ (∀ x ∈ C.ch, x < 80) ∧ C.most = 80 ∧ C.jat = 120 ∧ C.blocks = 120 ∧ C.D.n = 220 ∧ C.D.fuse = -1
  kp : Kp (fun _ => False) w wr
  hi : ∀ k, F k → w.heap.size ≤ k
  few : nbl ≤ 60
  ng : NG ≤ w.heap.size
variable {w wr : World} {bt bx bc bj bm bd nbl : Nat} {R : Nat → Nat × List Int} {F : Nat → Prop}
theorem IT.kp0 {w' : World} (h : IT w bt bx bc bj bm bd nbl R F wr) (k : Kp (fun _ => False) wr w') : IT w bt bx bc bj bm bd nbl R F w' := by
  obtain ⟨⟨C, T, h1, h2⟩, h3, h4, h5, h6⟩ := h
  exact ⟨⟨C, T, h1.kp0 k, h2⟩, h3.trans k (Gr.refl _ _), h4, h5, h6⟩
theorem IT.ngr (h : IT w bt bx bc bj bm bd nbl R F wr) : NG ≤ wr.heap.size := Nat.le_trans h.ng h.kp.size
theorem IT.fresh (h : IT w bt bx bc bj bm bd nbl R F wr) : ∀ k, F k → k < wr.heap.size := by
  obtain ⟨⟨C, T, h1, h2⟩, h3, h4, h5, h6⟩ := h
  exact h1.map.rep.disk.lt
theorem IT.gl (h : IT w bt bx bc bj bm bd nbl R F wr) : Gl wr := by
  obtain ⟨⟨C, T, h1, h2⟩, h3, h4, h5, h6⟩ := h
  exact h1.gl
theorem it_room {C : CSt} (h : ∀ x ∈ C.ch, x < 80) (hm : C.most = 80) (hn : nbl ≤ 60) {ino : Nat} (h2 : ino ≤ 6) : Rm C.ch (mapW 0 nbl ++ [5 + ino - 1]) C.most 20 (20 + nbl) := by
  rw [hm]
  refine Rm.below h (fun x hx => ?_) (by omega)
  rcases List.mem_append.1 hx with hx | hx
  · have := mem_mapW.1 hx; unfold IsM nb at this; omega
  · simp at hx; omega
theorem it_used {wr : World} {C : CSt} {T : Nat → Nd} {F : Nat → Prop} (h : Tab wr bt bx bc bj bm bd 5 6 0 20 nbl C F T) (hR : ∀ k, 1 ≤ k → k ≤ 6 → (T k).kind = (R k).1 ∧ dataOf C.view (T k) = (R k).2) : frees (bitC C 0) nbl + usedR R 6 = nbl := by
  have h1 := h.ti.used
  have h2 : ∀ m, m ≤ 6 → (usedT T m).length = usedR R m := by
    intro m
    induction m with
    | zero => intro _; rfl
    | succ m ih =>
      intro hm
      rw [usedT, List.length_append, ih (by omega), usedR, bks_of (h.ti.ok (m + 1) (by omega) hm), ← data_len h (by omega) hm, (hR (m + 1) (by omega) hm).2]
  rw [h2 6 (Nat.le_refl _)] at h1
  exact h1
theorem it_set {w' : World} {ino : Nat} {ys : List Int} {C : CSt} {T : Nat → Nd} (h1 : 1 ≤ ino) (h2 : ino ≤ 6) (_ht : Tab wr bt bx bc bj bm bd 5 6 0 20 nbl C F T) (hR : ∀ k, 1 ≤ k → k ≤ 6 → (T k).kind = (R k).1 ∧ dataOf C.view (T k) = (R k).2)
    (hC : (∀ x ∈ C.ch, x < 80) ∧ C.most = 80 ∧ C.jat = 120 ∧ C.blocks = 120 ∧ C.D.n = 220 ∧ C.D.fuse = -1) (h3 : Kp (fun _ => False) w wr) (h4 : ∀ k, F k → w.heap.size ≤ k) (h5 : nbl ≤ 60) (h6 : NG ≤ w.heap.size)
    {x' : Nd} {C' : CSt} {F' : Nat → Prop} (hs : SetR wr bt bx bc bj bm bd 5 6 0 20 nbl C F T none ino ys x' C' F' w') : IT w bt bx bc bj bm bd nbl (setR R ino ((R ino).1, ys)) F' w' ∧ Kp F wr w' ∧ Gr F F' wr.heap.size := by
  have hkp : Kp F wr w' := hs.kp.mono (fun k hk => by rcases hk with hk | hk; exact hk; cases hk)
  refine ⟨⟨⟨C', setT T ino x', hs.tab, fun k k1 k2 => ?_, fun x hx => ?_, by rw [hs.cs.mo]; exact hC.2.1, by rw [hs.cs.ja]; exact hC.2.2.1, by rw [hs.cs.bl]; exact hC.2.2.2.1, by rw [hs.cs.D]; exact hC.2.2.2.2.1, by rw [hs.cs.D]; exact hC.2.2.2.2.2⟩, h3.over hkp h4, hs.gr.over h4 h3.size, h5, h6⟩, hkp, hs.gr⟩
  · by_cases e : k = ino
    · subst e
      rw [setT_same, setR_same]
      exact ⟨hs.kd.trans (hR k k1 k2).1, hs.data⟩
    · rw [setT_other _ _ e, setR_other _ _ e, hs.rest k k1 k2 e]
      exact hR k k1 k2
  · rcases hs.cs.ch x hx with h | h | h | h
    · exact hC.1 x h
    · unfold IsM nb at h; omega
    · omega
    · have ho := hs.tab.ti.ok ino h1 h2
      rw [setT_same] at ho
      have := ho.rng x h; omega
theorem it_write (h : IT w bt bx bc bj bm bd nbl R F wr) {ino p : Nat} (h1 : 1 ≤ ino) (h2 : ino ≤ 6) (hk : (R ino).1 ≠ 0) (v : Value) (ys : List Int) (hv : Sl wr v ys) (hyb : Byt ys) (hy0 : ys ≠ []) (hp : p + ys.length ≤ 4000) (hroom : usedR R 6 + bks (max (R ino).2.length (p + ys.length)) ≤ nbl + bks (R ino).2.length) :
    Calls Tryz.prog 10 #[.pointer (some ⟨bt, 0, none⟩), .int .i64 ino, .int .i64 p, v] wr fun e w' => e = .returned .nilIface ∧ ∃ F', IT w bt bx bc bj bm bd nbl (setR R ino ((R ino).1, wrAt (R ino).2 p ys)) F' w' ∧ Kp F wr w' ∧ Gr F F' wr.heap.size := by
  obtain ⟨⟨C, T, ht, hR, hC⟩, h3, h4, h5, h6⟩ := h
  obtain ⟨e1, e2⟩ := hR ino h1 h2
  have hdl := data_len ht h1 h2
  have hu := it_used ht hR
  have hb := bks_of (ht.ti.ok ino h1 h2)
  rw [e2] at hdl
  refine (inode_Write_ok ht h1 h2 (Nat.le_trans h6 h3.size) (by rw [e1]; exact hk) v ys hv hyb hy0 hp (by rw [← hdl]; rw [← hdl] at hb; omega) (it_room hC.1 hC.2.1 h5 h2)).mono ?_
  rintro e w' ⟨rfl, x', C', F', hs⟩
  rw [e2] at hs
  exact ⟨rfl, F', it_set h1 h2 ht hR hC h3 h4 h5 h6 hs⟩
theorem it_write0 (h : IT w bt bx bc bj bm bd nbl R F wr) {ino p : Nat} (h1 : 1 ≤ ino) (h2 : ino ≤ 6) (hk : (R ino).1 ≠ 0) (v : Value) (hv : Sl wr v []) (hp : p ≤ 4000) :
    Calls Tryz.prog 10 #[.pointer (some ⟨bt, 0, none⟩), .int .i64 ino, .int .i64 p, v] wr fun e w' => e = .returned .nilIface ∧ Kp (fun _ => False) wr w' := by
  obtain ⟨⟨C, T, ht, hR, hC⟩, h3, h4, h5, h6⟩ := h
  exact inode_Write_empty ht h1 h2 (by rw [(hR ino h1 h2).1]; exact hk) v hv hp
theorem it_cut (h : IT w bt bx bc bj bm bd nbl R F wr) {ino M : Nat} (h1 : 1 ≤ ino) (h2 : ino ≤ 6) (hk : (R ino).1 ≠ 0) (hM : M ≤ 4000) (hroom : usedR R 6 + bks M ≤ nbl + bks (R ino).2.length) :
    Calls Tryz.prog 17 #[.pointer (some ⟨bt, 0, none⟩), .int .i64 ino, .int .i64 M] wr fun e w' => e = .returned .nilIface ∧ ∃ F', IT w bt bx bc bj bm bd nbl (setR R ino ((R ino).1, cutAt (R ino).2 M)) F' w' ∧ Kp F wr w' ∧ Gr F F' wr.heap.size := by
  obtain ⟨⟨C, T, ht, hR, hC⟩, h3, h4, h5, h6⟩ := h
  obtain ⟨e1, e2⟩ := hR ino h1 h2
  have hdl := data_len ht h1 h2
  have hu := it_used ht hR
  have hb := bks_of (ht.ti.ok ino h1 h2)
  rw [e2] at hdl
  refine (inode_Cut_ok ht h1 h2 (Nat.le_trans h6 h3.size) (by rw [e1]; exact hk) hM (by rw [← hdl] at hb; omega) (it_room hC.1 hC.2.1 h5 h2)).mono ?_
  rintro e w' ⟨rfl, x', C', F', hs⟩
  rw [e2] at hs
  exact ⟨rfl, F', it_set h1 h2 ht hR hC h3 h4 h5 h6 hs⟩
theorem it_read (h : IT w bt bx bc bj bm bd nbl R F wr) {ino p m : Nat} (h1 : 1 ≤ ino) (h2 : ino ≤ 6) (hk : (R ino).1 ≠ 0) (hp : p < 4611686018427387904) (hm : m < 4611686018427387904) :
    Calls Tryz.prog 14 #[.pointer (some ⟨bt, 0, none⟩), .int .i64 ino, .int .i64 p, .int .i64 m] wr fun e w' => ∃ v, e = .returned (.tuple #[v, .nilIface]) ∧ Sl w' v (readAt (R ino).2 p m) ∧ Kp (fun _ => False) wr w' := by
  obtain ⟨⟨C, T, ht, hR, hC⟩, h3, h4, h5, h6⟩ := h
  obtain ⟨e1, e2⟩ := hR ino h1 h2
  have := inode_Read_ok ht h1 h2 (by rw [e1]; exact hk) hp hm
  rw [e2] at this
  exact this
theorem it_size (h : IT w bt bx bc bj bm bd nbl R F wr) {ino : Nat} (h1 : 1 ≤ ino) (h2 : ino ≤ 6) (hk : (R ino).1 ≠ 0) :
    Calls Tryz.prog 15 #[.pointer (some ⟨bt, 0, none⟩), .int .i64 ino] wr fun e w' => e = .returned (.tuple #[.int .i64 (R ino).2.length, .nilIface]) ∧ Kp (fun _ => False) wr w' := by
  obtain ⟨⟨C, T, ht, hR, hC⟩, h3, h4, h5, h6⟩ := h
  obtain ⟨e1, e2⟩ := hR ino h1 h2
  have := inode_Size_ok ht h1 h2 (by rw [e1]; exact hk)
  rw [← data_len ht h1 h2, e2] at this
  exact this
theorem it_free (h : IT w bt bx bc bj bm bd nbl R F wr) :
    Calls Tryz.prog 18 #[.pointer (some ⟨bx, 0, none⟩)] wr fun e w' => e = .returned (.tuple #[.int .i64 ((nbl : Int) - (usedR R 6 : Nat)), .nilIface]) ∧ Kp (fun _ => False) wr w' := by
  obtain ⟨⟨C, T, ht, hR, hC⟩, h3, h4, h5, h6⟩ := h
  have hu := it_used ht hR
  have hf := frees_taken C 0 20 nbl
  have := alloc_Free_ok ht.map
  rw [show (((taken C 0 20 nbl).length : Nat) : Int) = ((usedR R 6 : Nat) : Int) by omega] at this
  exact this
theorem it_make (h : IT w bt bx bc bj bm bd nbl R F wr) {i kd : Nat} (h1 : 1 ≤ i) (h2 : i ≤ 6) (h0 : (R i).1 = 0) (hl : ∀ j, 1 ≤ j → j < i → (R j).1 ≠ 0) (hk : kd = 1 ∨ kd = 2) :
    Calls Tryz.prog 9 #[.pointer (some ⟨bt, 0, none⟩), .int .i64 kd] wr fun e w' => e = .returned (.tuple #[.int .i64 i, .nilIface]) ∧ ∃ F', IT w bt bx bc bj bm bd nbl (setR R i (kd, [])) F' w' ∧ Kp F wr w' ∧ Gr F F' wr.heap.size := by
  obtain ⟨⟨C, T, ht, hR, hC⟩, h3, h4, h5, h6⟩ := h
  have hT0 : (T i).kind = 0 := (hR i h1 h2).1.trans h0
  have ht1 := inode_take_ok ht h1 h2 hT0 (fun j j1 j2 => by rw [(hR j j1 (by omega)).1]; exact hl j j1 j2) (show 1 ≤ kd by omega) (by omega) (it_room hC.1 hC.2.1 h5 h2)
  refine (inode_Make_of (R := fun x y w' => x = .int .i64 i ∧ y = .nilIface ∧ ∃ F', Tab w' bt bx bc bj bm bd 5 6 0 20 nbl (C.nodeW 5 i ⟨kd, 0, [], 0⟩) F' (setT T i ⟨kd, 0, [], 0⟩) ∧ Kp F wr w' ∧ Gr F F' wr.heap.size) (kd := (kd : Int)) (by omega) (ht1.mono ?_)).mono ?_
  · rintro e w' ⟨rfl, F', a, b, c⟩
    exact ⟨_, _, rfl, rfl, rfl, F', a, b, c⟩
  · rintro e w' ⟨x, y, rfl, rfl, rfl, F', a, b, c⟩
    refine ⟨rfl, F', ⟨⟨_, _, a, fun k k1 k2 => ?_, fun x hx => ?_, hC.2⟩, h3.over b h4, c.over h4 h3.size, h5, h6⟩, b, c⟩
    · by_cases e : k = i
      · subst e
        rw [setT_same, setR_same]
        exact ⟨rfl, rfl⟩
      · rw [setT_other _ _ e, setR_other _ _ e]
        have hb := blks_empty (ht.ti.ok i h1 h2) hT0
        have hcs : CS (fun no => no = 5 + i - 1 ∨ no ∈ (⟨kd, 0, [], 0⟩ : Nd).blks) C (C.nodeW 5 i ⟨kd, 0, [], 0⟩) := (nodeW_cs C 5 i ⟨kd, 0, [], 0⟩).mono (fun no h => by rcases h with h | ⟨h8, _⟩; exact .inl h; exact absurd h8 (by simp))
        rw [ht.ti.data ht.geo h1 h2 (fit_same (x' := ⟨kd, 0, [], 0⟩) hb rfl) (CS.refl _ _) hcs k1 k2 e]
        exact hR k k1 k2
    · have hx' := (nodeW_cs C 5 i ⟨kd, 0, [], 0⟩).ch x hx
      rcases hx' with h | h | ⟨h8, _⟩
      · exact hC.1 x h
      · omega
      · exact absurd h8 (by simp)
theorem it_flush (h : IT w bt bx bc bj bm bd nbl R F wr) :
    Calls Tryz.prog 13 #[.pointer (some ⟨bc, 0, none⟩)] wr fun e w' => e = .returned .nilIface ∧ ∃ F', IT w bt bx bc bj bm bd nbl R F' w' ∧ Kp F wr w' ∧ Gr F F' wr.heap.size := by
  obtain ⟨⟨C, T, ht, hR, hC1, c6, c7, c8, c9, c10⟩, h3, h4, h5, h6⟩ := h
  have c1 := ht.map
  have hz : C.D.Fz := by unfold DSt.Fz; rw [c10]; omega
  have hf : C.D.fuse ≤ 0 := by rw [c10]; omega
  have hca := C.commit_alive c1.live hf
  have hfa := C.flush_alive c1.live hf
  have hrow : ∀ k, k < 120 → C.commit.2.row k = C.view k := fun k hk => C.flush_row c1.live hf c1.rep.nd k (by rw [c7]; exact hk)
  have hview : ∀ k, k < 120 → C.flush.view k = C.view k := fun k hk => by rw [hfa]; simp [CSt.view, hrow k hk]
  have hblk : C.flush.blocks = C.blocks := by rw [hfa]
  have hvw : ∀ no, no < C.blocks → C.flush.view no = C.view no := fun no hno => hview no (by rw [← c8]; exact hno)
  refine (cache_Flush c1.rep hz (by rw [c7, c8]; omega) (by rw [c7, c6, c9]; decide)).mono ?_
  rintro e w' ⟨u, rfl, hu, F', hr, hk, hg⟩
  rw [hca.1] at hu
  have hu' : u = .nilIface := hu
  subst hu'
  refine ⟨rfl, F', ⟨⟨C.flush, T, ⟨hk.blk ht.blk ht.out, hg.not ht.out (lt_blk ht.blk), c1.step hr hk hg hblk (by rw [hfa]; exact hca.2.1) (fun no hno => by rw [hvw no (by rw [hblk] at hno; exact hno)]; exact c1.vb no (by rw [hblk] at hno; exact hno)), by rw [hblk]; exact ht.geo, ht.ti.congr ht.geo hvw⟩, fun k k1 k2 => ?_, fun x hx => ?_, by rw [hfa]; exact c6, by rw [hfa]; exact c7, by rw [hfa]; exact c8, by rw [hfa]; exact hca.2.2.2.trans c9, by rw [hfa]; exact hca.2.2.1.trans c10⟩, h3.over hk h4, hg.over h4 h3.size, h5, h6⟩, hk, hg⟩
  · rw [dataOf_congr ht.ti ht.geo hvw k1 k2]
    exact hR k k1 k2
  · rw [hfa] at hx; cases hx
end Go.Proofs.YtdmmlkkemceifaaGreatDoor
