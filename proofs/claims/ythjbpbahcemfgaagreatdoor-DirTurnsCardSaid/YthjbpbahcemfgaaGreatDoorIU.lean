/- Six inodes over a map of 80 blocks over a new cache that is never flushed, as the statements of layer 10 have them. -/
import Derived.Test.YthjbpbahcemfgaaGreatDoorITL
namespace Go.Proofs.YthjbpbahcemfgaaGreatDoor
open Go.RowKit
set_option maxHeartbeats 1000000
set_option maxRecDepth 20000

theorem nodup_sub : ∀ (B l : List Nat), l.Nodup → (∀ x ∈ l, x ∈ B) → l.length ≤ B.length
  | [], l, _, h => by
    cases l with
    | nil => exact Nat.le_refl _
    | cons a l => exact absurd (h a List.mem_cons_self) (by simp)
  | b :: B, l, hn, h => by
    by_cases hb : b ∈ l
    · have h1 := nodup_sub B (l.erase b) (hn.erase _) (fun x hx => by
        have hx' := (List.Nodup.mem_erase_iff hn).1 hx
        rcases List.mem_cons.1 (h x hx'.2) with e | e
        · exact absurd e hx'.1
        · exact e)
      rw [List.length_erase_of_mem hb] at h1
      have := List.length_pos_of_mem hb
      rw [List.length_cons]; omega
    · have h1 := nodup_sub B l hn (fun x hx => by
        rcases List.mem_cons.1 (h x hx) with e | e
        · exact absurd (e ▸ hx) hb
        · exact e)
      rw [List.length_cons]; omega
theorem nodup_11 {B l : List Nat} (hn : l.Nodup) (h : ∀ x ∈ l, x < 11 ∨ x ∈ B) : l.length ≤ 11 + B.length := by
  have := nodup_sub (List.range 11 ++ B) l hn (fun x hx => by
    rcases h x hx with h | h
    · exact List.mem_append_left _ (List.mem_range.2 h)
    · exact List.mem_append_right _ h)
  simpa using this

/-- R: of each inode the kind and the bytes; no more than q blocks of the data's were ever had. -/
structure IU (w : World) (bt bx bc bj bm bd : Nat) (R : Nat → Nat × List Int) (q : Nat) (F : Nat → Prop) (wr : World) : Prop where
  ex : ∃ (C : CSt) (T : Nat → Nd) (A : List Nat), Tab wr bt bx bc bj bm bd 5 6 0 20 80 C F T ∧ (∀ k, 1 ≤ k → k ≤ 6 → (T k).kind = (R k).1 ∧ dataOf C.view (T k) = (R k).2) ∧ ((∀ x ∈ C.ch, x < 11 ∨ x ∈ A) ∧ (∀ k, 1 ≤ k → k ≤ 6 → ∀ b ∈ (T k).blks, b ∈ A) ∧ A.length ≤ q) ∧ C.most = 80
  kp : Kp (fun _ => False) w wr
  hi : ∀ k, F k → w.heap.size ≤ k
  ng : NG ≤ w.heap.size
variable {w wr : World} {bt bx bc bj bm bd : Nat} {R : Nat → Nat × List Int} {q q' : Nat} {F : Nat → Prop}
theorem IU.kp0 {w' : World} (h : IU w bt bx bc bj bm bd R q F wr) (k : Kp (fun _ => False) wr w') : IU w bt bx bc bj bm bd R q F w' := by
  obtain ⟨⟨C, T, A, h1, h2⟩, h3, h4, h5⟩ := h
  exact ⟨⟨C, T, A, h1.kp0 k, h2⟩, h3.trans k (Gr.refl _ _), h4, h5⟩
theorem IU.le (h : IU w bt bx bc bj bm bd R q F wr) (hq : q ≤ q') : IU w bt bx bc bj bm bd R q' F wr := by
  obtain ⟨⟨C, T, A, h1, h2, ⟨h3, h4, h5⟩, h6⟩, h7, h8, h9⟩ := h
  exact ⟨⟨C, T, A, h1, h2, ⟨h3, h4, Nat.le_trans h5 hq⟩, h6⟩, h7, h8, h9⟩
theorem IU.ngr (h : IU w bt bx bc bj bm bd R q F wr) : NG ≤ wr.heap.size := Nat.le_trans h.ng h.kp.size
theorem IU.fresh (h : IU w bt bx bc bj bm bd R q F wr) : ∀ k, F k → k < wr.heap.size := by
  obtain ⟨⟨C, T, A, h1, h2⟩, h3, h4, h5⟩ := h
  exact h1.map.rep.disk.lt
theorem IU.gl (h : IU w bt bx bc bj bm bd R q F wr) : Gl wr := by
  obtain ⟨⟨C, T, A, h1, h2⟩, h3, h4, h5⟩ := h
  exact h1.gl
theorem IU.blk (h : IU w bt bx bc bj bm bd R q F wr) : TBlk wr bt bc bx 5 6 := by
  obtain ⟨⟨C, T, A, h1, h2⟩, h3, h4, h5⟩ := h
  exact h1.blk
theorem iu_room {C : CSt} {A : List Nat} (h : ∀ x ∈ C.ch, x < 11 ∨ x ∈ A) (hA : A.length ≤ q) (hq : q ≤ 36) (hm : C.most = 80) {ino : Nat} (h2 : ino ≤ 6) : Rm C.ch (mapW 0 80 ++ [5 + ino - 1]) C.most 20 (20 + 80) := by
  rw [hm]
  intro X h33 _ l hn hl
  have := nodup_11 (B := A ++ X) hn (fun x hx => by
    rcases hl x hx with h1 | h1 | h1
    · exact (h x h1).imp id (fun h => List.mem_append_left _ h)
    · left
      rcases List.mem_append.1 h1 with h1 | h1
      · have := mem_mapW.1 h1; unfold IsM nb at this; omega
      · simp at h1; omega
    · exact .inr (List.mem_append_right _ h1))
  rw [List.length_append] at this
  omega
theorem iu_used {wr : World} {C : CSt} {T : Nat → Nd} {F : Nat → Prop} (h : Tab wr bt bx bc bj bm bd 5 6 0 20 80 C F T) (hR : ∀ k, 1 ≤ k → k ≤ 6 → (T k).kind = (R k).1 ∧ dataOf C.view (T k) = (R k).2) : frees (bitC C 0) 80 + usedR R 6 = 80 := it_used h hR
theorem iu_set {w' : World} {ino : Nat} {ys : List Int} {C : CSt} {T : Nat → Nd} {A : List Nat} (h1 : 1 ≤ ino) (h2 : ino ≤ 6) (ht : Tab wr bt bx bc bj bm bd 5 6 0 20 80 C F T) (hR : ∀ k, 1 ≤ k → k ≤ 6 → (T k).kind = (R k).1 ∧ dataOf C.view (T k) = (R k).2)
    (hA : (∀ x ∈ C.ch, x < 11 ∨ x ∈ A) ∧ (∀ k, 1 ≤ k → k ≤ 6 → ∀ b ∈ (T k).blks, b ∈ A) ∧ A.length ≤ q) (hC : C.most = 80) (h3 : Kp (fun _ => False) w wr) (h4 : ∀ k, F k → w.heap.size ≤ k) (h6 : NG ≤ w.heap.size)
    (hq' : q + (bks ys.length - bks (R ino).2.length) ≤ q')
    {x' : Nd} {C' : CSt} {F' : Nat → Prop} (hs : SetR wr bt bx bc bj bm bd 5 6 0 20 80 C F T none ino ys x' C' F' w') : IU w bt bx bc bj bm bd (setR R ino ((R ino).1, ys)) q' F' w' ∧ Kp F wr w' ∧ Gr F F' wr.heap.size := by
  have hkp : Kp F wr w' := hs.kp.mono (fun k hk => by rcases hk with hk | hk; exact hk; cases hk)
  obtain ⟨L, hL, hN⟩ := hs.nw
  have ho := hs.tab.ti.ok ino h1 h2
  rw [setT_same] at ho
  have hnew : ∀ b ∈ x'.blks, b ∈ A ++ L := fun b hb => by
    rcases hN b hb with h | h
    · exact List.mem_append_left _ (hA.2.1 ino h1 h2 b h)
    · exact List.mem_append_right _ h
  have hb1 := bks_of (ht.ti.ok ino h1 h2)
  have hb2 := bks_of ho
  have hdl := data_len ht h1 h2
  rw [(hR ino h1 h2).2] at hdl
  refine ⟨⟨⟨C', setT T ino x', A ++ L, hs.tab, fun k k1 k2 => ?_, ⟨fun x hx => ?_, fun k k1 k2 b hb => ?_, ?_⟩, by rw [hs.cs.mo]; exact hC⟩, h3.over hkp h4, hs.gr.over h4 h3.size, h6⟩, hkp, hs.gr⟩
  · by_cases e : k = ino
    · subst e
      rw [setT_same, setR_same]
      exact ⟨hs.kd.trans (hR k k1 k2).1, hs.data⟩
    · rw [setT_other _ _ e, setR_other _ _ e, hs.rest k k1 k2 e]
      exact hR k k1 k2
  · rcases hs.cs.ch x hx with h | h | h | h
    · exact (hA.1 x h).imp id (fun h => List.mem_append_left _ h)
    · unfold IsM nb at h; omega
    · omega
    · exact .inr (hnew x h)
  · by_cases e : k = ino
    · subst e
      rw [setT_same] at hb
      exact hnew b hb
    · rw [setT_other _ _ e] at hb
      exact List.mem_append_left _ (hA.2.1 k k1 k2 b hb)
  · rw [List.length_append]
    have := hA.2.2
    have := hs.sz
    rw [hb1, hb2, this, ← hdl] at hL
    omega
theorem iu_write (h : IU w bt bx bc bj bm bd R q F wr) {ino p : Nat} (h1 : 1 ≤ ino) (h2 : ino ≤ 6) (hk : (R ino).1 ≠ 0) (v : Value) (ys : List Int) (hv : Sl wr v ys) (hyb : Byt ys) (hy0 : ys ≠ []) (hp : p + ys.length ≤ 4000) (hroom : usedR R 6 + bks (max (R ino).2.length (p + ys.length)) ≤ 80 + bks (R ino).2.length)
    (hq : q ≤ 36) (hq' : q + (bks (wrAt (R ino).2 p ys).length - bks (R ino).2.length) ≤ q') :
    Calls Tryz.prog 23 #[.pointer (some ⟨bt, 0, none⟩), .int .i64 ino, .int .i64 p, v] wr fun e w' => e = .returned .nilIface ∧ ∃ F', IU w bt bx bc bj bm bd (setR R ino ((R ino).1, wrAt (R ino).2 p ys)) q' F' w' ∧ Kp F wr w' ∧ Gr F F' wr.heap.size := by
  obtain ⟨⟨C, T, A, ht, hR, hA, hC⟩, h3, h4, h6⟩ := h
  obtain ⟨e1, e2⟩ := hR ino h1 h2
  have hdl := data_len ht h1 h2
  have hu := iu_used ht hR
  have hb := bks_of (ht.ti.ok ino h1 h2)
  rw [e2] at hdl
  refine (inode_Write_ok ht h1 h2 (Nat.le_trans h6 h3.size) (by rw [e1]; exact hk) v ys hv hyb hy0 hp (by rw [← hdl]; rw [← hdl] at hb; omega) (iu_room hA.1 hA.2.2 hq hC h2)).mono ?_
  rintro e w' ⟨rfl, x', C', F', hs⟩
  rw [e2] at hs
  exact ⟨rfl, F', iu_set h1 h2 ht hR hA hC h3 h4 h6 hq' hs⟩
theorem iu_cut (h : IU w bt bx bc bj bm bd R q F wr) {ino M : Nat} (h1 : 1 ≤ ino) (h2 : ino ≤ 6) (hk : (R ino).1 ≠ 0) (hM : M ≤ 4000) (hroom : usedR R 6 + bks M ≤ 80 + bks (R ino).2.length) (hq : q ≤ 36) (hq' : q + (bks (cutAt (R ino).2 M).length - bks (R ino).2.length) ≤ q') :
    Calls Tryz.prog 25 #[.pointer (some ⟨bt, 0, none⟩), .int .i64 ino, .int .i64 M] wr fun e w' => e = .returned .nilIface ∧ ∃ F', IU w bt bx bc bj bm bd (setR R ino ((R ino).1, cutAt (R ino).2 M)) q' F' w' ∧ Kp F wr w' ∧ Gr F F' wr.heap.size := by
  obtain ⟨⟨C, T, A, ht, hR, hA, hC⟩, h3, h4, h6⟩ := h
  obtain ⟨e1, e2⟩ := hR ino h1 h2
  have hdl := data_len ht h1 h2
  have hu := iu_used ht hR
  have hb := bks_of (ht.ti.ok ino h1 h2)
  rw [e2] at hdl
  refine (inode_Cut_ok ht h1 h2 (Nat.le_trans h6 h3.size) (by rw [e1]; exact hk) hM (by rw [← hdl] at hb; omega) (iu_room hA.1 hA.2.2 hq hC h2)).mono ?_
  rintro e w' ⟨rfl, x', C', F', hs⟩
  rw [e2] at hs
  exact ⟨rfl, F', iu_set h1 h2 ht hR hA hC h3 h4 h6 hq' hs⟩
theorem iu_readNew (h : IU w bt bx bc bj bm bd R q F wr) {ino p m : Nat} (h1 : 1 ≤ ino) (h2 : ino ≤ 6) (hk : (R ino).1 ≠ 0) (hp : p ≤ 9223372036854775807) (hm : m ≤ 9223372036854775807) :
    Calls Tryz.prog 27 #[.pointer (some ⟨bt, 0, none⟩), .int .i64 ino, .int .i64 p, .int .i64 m] wr fun e w' => ∃ v, e = .returned (.tuple #[v, .nilIface]) ∧ Sl w' v (readAt (R ino).2 p m) ∧ Kp (fun _ => False) wr w' ∧ ∀ b, blockOf v = some b → wr.heap.size ≤ b := by
  obtain ⟨⟨C, T, A, ht, hR, hC⟩, h3, h4, h6⟩ := h
  obtain ⟨e1, e2⟩ := hR ino h1 h2
  have := inode_Read_new ht h1 h2 (by rw [e1]; exact hk) hp hm
  rw [e2] at this
  exact this
theorem iu_size (h : IU w bt bx bc bj bm bd R q F wr) {ino : Nat} (h1 : 1 ≤ ino) (h2 : ino ≤ 6) (hk : (R ino).1 ≠ 0) :
    Calls Tryz.prog 13 #[.pointer (some ⟨bt, 0, none⟩), .int .i64 ino] wr fun e w' => e = .returned (.tuple #[.int .i64 (R ino).2.length, .nilIface]) ∧ Kp (fun _ => False) wr w' := by
  obtain ⟨⟨C, T, A, ht, hR, hC⟩, h3, h4, h6⟩ := h
  obtain ⟨e1, e2⟩ := hR ino h1 h2
  have := inode_Size_ok ht h1 h2 (by rw [e1]; exact hk)
  rw [← data_len ht h1 h2, e2] at this
  exact this
theorem iu_kind (h : IU w bt bx bc bj bm bd R q F wr) {ino : Nat} (h1 : 1 ≤ ino) (h2 : ino ≤ 6) :
    Calls Tryz.prog 60 #[.pointer (some ⟨bt, 0, none⟩), .int .i64 ino] wr fun e w' => e = .returned (.tuple #[.int .i64 (R ino).1, .nilIface]) ∧ Kp (fun _ => False) wr w' := by
  obtain ⟨⟨C, T, A, ht, hR, hC⟩, h3, h4, h6⟩ := h
  have := inode_Kind_ok ht h1 h2
  rw [(hR ino h1 h2).1] at this
  exact this
theorem iu_kindNo (h : IU w bt bx bc bj bm bd R q F wr) {ino : Int} (hno : ino < 1 ∨ (6 : Int) < ino) (h0 : -9223372036854775808 ≤ ino) (h9 : ino ≤ 9223372036854775807) :
    Calls Tryz.prog 60 #[.pointer (some ⟨bt, 0, none⟩), .int .i64 ino] wr fun e w' => ∃ v, e = .returned (.tuple #[.int .i64 0, v]) ∧ IsErr w' v [(tx [105, 110, 111, 100, 101], tx (Lib.itoa ino))] 1 ∧ Kp (fun _ => False) wr w' := by
  obtain ⟨⟨C, T, A, ht, hR, hC⟩, h3, h4, h6⟩ := h
  exact inode_Kind_arg ht hno h0 h9
theorem iu_make (h : IU w bt bx bc bj bm bd R q F wr) {i kd : Nat} (h1 : 1 ≤ i) (h2 : i ≤ 6) (h0 : (R i).1 = 0) (hl : ∀ j, 1 ≤ j → j < i → (R j).1 ≠ 0) (hk : kd = 1 ∨ kd = 2) (hq : q ≤ 36) :
    Calls Tryz.prog 19 #[.pointer (some ⟨bt, 0, none⟩), .int .i64 kd] wr fun e w' => e = .returned (.tuple #[.int .i64 i, .nilIface]) ∧ ∃ F', IU w bt bx bc bj bm bd (setR R i (kd, [])) q F' w' ∧ Kp F wr w' ∧ Gr F F' wr.heap.size := by
  obtain ⟨⟨C, T, A, ht, hR, hA, hC⟩, h3, h4, h6⟩ := h
  have hT0 : (T i).kind = 0 := (hR i h1 h2).1.trans h0
  have ht1 := inode_take_ok ht h1 h2 hT0 (fun j j1 j2 => by rw [(hR j j1 (by omega)).1]; exact hl j j1 j2) (show 1 ≤ kd by omega) (by omega) (iu_room hA.1 hA.2.2 hq hC h2)
  refine (inode_Make_of (R := fun x y w' => x = .int .i64 i ∧ y = .nilIface ∧ ∃ F', Tab w' bt bx bc bj bm bd 5 6 0 20 80 (C.nodeW 5 i ⟨kd, 0, [], 0⟩) F' (setT T i ⟨kd, 0, [], 0⟩) ∧ Kp F wr w' ∧ Gr F F' wr.heap.size) (kd := (kd : Int)) (by omega) (ht1.mono ?_)).mono ?_
  · rintro e w' ⟨rfl, F', a, b, c⟩
    exact ⟨_, _, rfl, rfl, rfl, F', a, b, c⟩
  · rintro e w' ⟨x, y, rfl, rfl, rfl, F', a, b, c⟩
    refine ⟨rfl, F', ⟨⟨_, _, A, a, fun k k1 k2 => ?_, ⟨fun x hx => ?_, fun k k1 k2 b hb => ?_, hA.2.2⟩, hC⟩, h3.over b h4, c.over h4 h3.size, h6⟩, b, c⟩
    · by_cases e : k = i
      · subst e
        rw [setT_same, setR_same]
        exact ⟨rfl, rfl⟩
      · rw [setT_other _ _ e, setR_other _ _ e]
        have hb := blks_empty (ht.ti.ok i h1 h2) hT0
        have hcs : CS (fun no => no = 5 + i - 1 ∨ no ∈ (⟨kd, 0, [], 0⟩ : Nd).blks) C (C.nodeW 5 i ⟨kd, 0, [], 0⟩) := (nodeW_cs C 5 i ⟨kd, 0, [], 0⟩).mono (fun no h => by rcases h with h | ⟨h8, _⟩; exact .inl h; exact absurd h8 (by simp))
        rw [ht.ti.data ht.geo h1 h2 (fit_same (x' := ⟨kd, 0, [], 0⟩) hb rfl) (CS.refl _ _) hcs k1 k2 e]
        exact hR k k1 k2
    · have hx' := (nodeW_cs C 5 i ⟨kd, 0, [], 0⟩).ch x hx
      rcases hx' with h | h | ⟨h8, _⟩
      · exact hA.1 x h
      · omega
      · exact absurd h8 (by simp)
    · by_cases e : k = i
      · subst e
        rw [setT_same] at hb
        simp [Nd.blks] at hb
      · rw [setT_other _ _ e] at hb
        exact hA.2.1 k k1 k2 b hb
theorem iu_new {w w1 w2 w3 : World} {bt bx bc bj bm bd : Nat} {F : Nat → Prop} (hr : CRep w1 bc bj bm bd (CSt.made 120) F) (hk1 : Kp (fun _ => False) w w1) (hf : ∀ k, F k → w.heap.size ≤ k) (hk2 : Kp (fun _ => False) w1 w2) (hb : MBlk w2 bx bc 0 20 80) (hbx : w1.heap.size ≤ bx)
    (hk3 : Kp (fun _ => False) w2 w3) (ht : TBlk w3 bt bc bx 5 6) (hbt : w2.heap.size ≤ bt) (hng : NG ≤ w.heap.size) : IU w bt bx bc bj bm bd (fun _ => (0, [])) 0 F w3 := by
  have hlt := hr.disk.lt
  have s2 := hk2.size
  have hnb : nb 80 = 1 := by decide
  have hm : MapOn w2 bx bc bj bm bd 0 20 80 (CSt.made 120) F := made_map hr hk2 hb hbx (by omega) (by omega) (by rw [hnb]; omega) (by omega)
  refine ⟨⟨CSt.made 120, fun _ => Nd.zero, [], ⟨ht, fun hF => by have := hlt _ hF; omega, hm.step (hm.rep.kp0 hk3) (hk3.mono (fun _ h => h.elim)) (Gr.refl _ _) rfl hm.live hm.vb, ⟨by rw [hnb]; decide, by decide, by show 20 + 80 ≤ 120; omega, by show (120 : Nat) ≤ 2048; decide, by decide, by decide⟩, ?_⟩, fun k _ _ => ⟨rfl, rfl⟩, ⟨(fun x hx => by cases hx), fun k _ _ b hb => by simp [Nd.blks, Nd.zero] at hb, Nat.le_refl _⟩, rfl⟩, (hk1.trans hk2 (Gr.refl _ _)).trans hk3 (Gr.refl _ _), hf, hng⟩
  refine ⟨fun k _ _ => by rw [nodeRow_zero]; exact new_view _, fun k _ _ h8 => absurd h8 (by simp [Nd.zero]), fun k _ _ => NdOk.zero' _ _, fun j _ => ?_, fun k k' _ _ _ _ _ b hb => by simp [Nd.blks, Nd.zero] at hb⟩
  constructor
  · intro h
    rw [CSt.made, new_bit] at h
    cases h
  · rintro ⟨k, _, _, h⟩
    simp [Nd.blks, Nd.zero] at h
end Go.Proofs.YthjbpbahcemfgaaGreatDoor
