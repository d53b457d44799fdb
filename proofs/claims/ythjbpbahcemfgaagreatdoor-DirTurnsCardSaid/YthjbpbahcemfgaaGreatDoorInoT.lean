/- Inodes: an inode of a table is written; one is made. -/
import Derived.Test.YthjbpbahcemfgaaGreatDoorInoK
namespace Go.Proofs.YthjbpbahcemfgaaGreatDoor
open Go.RowKit
set_option maxHeartbeats 4000000
set_option maxRecDepth 20000
variable {w : World} {bt bx bc bj bm bd at_ n mat lo nbl : Nat} {C C1 : CSt} {F F1 : Nat → Prop} {T : Nat → Nd}

theorem moreW_eq (C : CSt) (x : Nd) : (C.moreW x).blocks = C.blocks ∧ (C.moreW x).D = C.D ∧ (C.moreW x).most = C.most ∧ (C.moreW x).jat = C.jat := by unfold CSt.moreW; split <;> exact ⟨rfl, rfl, rfl, rfl⟩
theorem moreW_cs {C : CSt} {x : Nd} (P : Nat → Prop) (h : 8 < x.l.length → P x.more) : CS P C (C.moreW x) := by
  unfold CSt.moreW
  split
  · rename_i h8; exact CS.wr (h h8)
  · exact CS.refl _ _
theorem nodup_wr {C : CSt} {no off : Nat} {ys : List Int} (h : C.ch.Nodup) : (C.wr no off ys).ch.Nodup := by
  simp only [CSt.wr]
  split
  · exact h
  · rename_i hin
    rw [List.nodup_append]
    refine ⟨h, by simp, ?_⟩
    intro a ha b hb e
    simp at hb
    exact hin (hb ▸ e ▸ ha)
/-- An inode is written, whose blocks are as Fit has them. -/
theorem tab_write (hb : TBlk w bt bc bx at_ n) (hbt : ¬ F1 bt) (hm : MapOn w bx bc bj bm bd mat lo nbl C1 F1) (g : Geo at_ n mat lo nbl C.blocks) (ti : TI C at_ n mat lo nbl T) {ino : Nat} (h1 : 1 ≤ ino) (h2 : ino ≤ n)
    {x' : Nd} (hf : Fit C C1 mat lo nbl (T ino) x') (hok : NdOk lo nbl x') (hs : CS (fun no => IsM mat nbl no ∨ no ∈ x'.blks) C C1) (hr : Rm C.ch (mapW mat nbl ++ [at_ + ino - 1]) C.most lo (lo + nbl)) (lv : Value) (hl : SlI w lv (natI x'.l)) :
    Calls Tryz.prog 53 #[.pointer (some ⟨bt, 0, none⟩), .int .i64 ino, .agg #[.int .i64 x'.kind, .int .i64 x'.size, lv, .int .i64 x'.more]] w fun e w' => e = .returned .nilIface ∧ ∃ F', Tab w' bt bx bc bj bm bd at_ n mat lo nbl (C1.nodeW at_ ino x') F' (setT T ino x') ∧ Kp F1 w w' ∧ Gr F1 F' w.heap.size := by
  have g1 := g.g1
  have g2 := g.g2
  have g3 := g.g3
  have g4 := g.g4
  have g5 := g.g5
  have g6 := g.g6
  have hl32 := hok.len32
  have hbl : C1.blocks = C.blocks := hs.bl
  have hm0 : 8 < x'.l.length → x'.more ≠ 0 := fun h8 h0 => by have := hok.more.1 h0; omega
  have hmb : 8 < x'.l.length → x'.more ∈ x'.blks := fun h8 => Nd.mem_more (hm0 h8)
  have hx33 : x'.blks.length ≤ 33 := by rw [Nd.blks_len]; split <;> omega
  have hroom : ∀ (C2 : CSt) (no : Nat), C2.ch.Nodup → CS (fun no => IsM mat nbl no ∨ no ∈ x'.blks) C C2 → (no ∈ mapW mat nbl ++ [at_ + ino - 1] ∨ no ∈ x'.blks) → no ∈ C2.ch ∨ C2.ch.length < C.most := fun C2 no hn hcs hno =>
    hr.room hx33 (fun b hb => by have := hok.rng b hb; omega) hn (fun x hx => by
      rcases hcs.ch x hx with h | h | h
      · exact .inl h
      · exact .inr (.inl (List.mem_append_left _ (mem_mapW.2 h)))
      · exact .inr (.inr h)) hno
  have hcm : CS (fun no => IsM mat nbl no ∨ no ∈ x'.blks) C (C1.moreW x') := hs.trans (moreW_cs _ (fun h8 => .inr (hmb h8)))
  have hnm : (C1.moreW x').ch.Nodup := by unfold CSt.moreW; split; exact nodup_wr hm.rep.nd; exact hm.rep.nd
  have hin : at_ + ino - 1 < C1.blocks := by omega
  refine (inode_write hb hbt hm.rep hm.live ino h1 hin x' (by have := hok.kind; omega) (by have := hok.size; omega) lv hl (by omega) (fun b hb => by have := hok.rng b (Nd.mem_l hb); omega) (fun h8 => by have := hok.rng _ (hmb h8); omega)
    (fun h8 => by rw [hs.mo]; exact hroom C1 _ hm.rep.nd hs (.inr (hmb h8))) (by rw [hs.mo]; exact hroom _ _ hnm hcm (.inl (by simp)))).mono ?_
  rintro e w' ⟨rfl, F', hr', hk, hg⟩
  have hvl : ∀ no, no < C1.blocks → (C1.view no).length = 128 := fun no hno => hm.rep.viewlen hno
  have hvm : ((C1.moreW x').view (at_ + ino - 1)).length = 128 := by
    unfold CSt.moreW
    split
    · rename_i h8
      rw [view_full (moreRow_len x' (by omega)) (hvl _ (by have := hok.rng _ (hmb h8); omega))]
      split
      · exact moreRow_len x' (by omega)
      · exact hvl _ hin
    · exact hvl _ hin
  have hv1 : ∀ k, (C1.nodeW at_ ino x').view k = if k = at_ + ino - 1 then nodeRow x' else (C1.moreW x').view k := fun k => view_full (nodeRow_len x') hvm k
  have hnot : ∀ b ∈ x'.blks, b ≠ at_ + ino - 1 := fun b hb => by have := hok.rng b hb; omega
  refine ⟨rfl, F', ⟨hk.blk hb hbt, hg.not hbt (lt_blk hb), ?_, ?_, ?_⟩, hk, hg⟩
  · refine hm.step hr' hk hg (moreW_eq C1 x').1 ?_ ?_
    · show (C1.moreW x').D.dead = false
      rw [(moreW_eq C1 x').2.1]; exact hm.live
    · refine wr_vb ?_ (nodeRow_byt x' (by have := hok.kind; omega)) (by rw [(moreW_eq C1 x').1]; exact hin)
      unfold CSt.moreW
      split
      · rename_i h8
        exact wr_vb hm.vb (moreRow_byt x') (by have := hok.rng _ (hmb h8); omega)
      · exact hm.vb
  · show Geo at_ n mat lo nbl (C1.moreW x').blocks
    rw [(moreW_eq C1 x').1, hbl]; exact g
  · refine ti.fit g h1 h2 hf hok hs ?_ (by rw [hv1, if_pos rfl]) (fun h8 => ?_)
    · exact (moreW_cs _ (fun h8 => .inr (hmb h8))).trans (CS.wr (.inl rfl))
    · rw [hv1, if_neg (hnot _ (hmb h8))]
      unfold CSt.moreW
      rw [if_pos h8, view_full (moreRow_len x' (by omega)) (hvl _ (by have := hok.rng _ (hmb h8); omega)), if_pos rfl]

/-- An inode without blocks. -/
theorem blks_empty {lo nbl : Nat} {x : Nd} (h : NdOk lo nbl x) (hk : x.kind = 0) : x.blks = [] := by
  have hs := h.zero hk
  have hl : x.l = [] := List.eq_nil_of_length_eq_zero (by rw [h.len, hs]; rfl)
  have hm := h.more.2 (by rw [hl]; exact Nat.zero_le _)
  unfold Nd.blks; rw [hl, hm]; rfl
theorem fit_same {x x' : Nd} (hx : x.blks = []) (hx' : x'.blks = []) : Fit C C mat lo nbl x x' :=
  ⟨fun j _ => by rw [hx, hx']; simp, fun b hb => by rw [hx'] at hb; simp at hb, by rw [hx']; exact List.nodup_nil, fun b hb => by rw [hx'] at hb; simp at hb⟩
theorem ndOk_empty (k : Nat) (hk : k ≤ 2) : NdOk lo nbl ⟨k, 0, [], 0⟩ := ⟨hk, Nat.zero_le _, by simp [dat], (fun b hb => by simp [Nd.blks] at hb), by simp, by simp [Nd.blks], fun _ => rfl⟩
theorem slI_nil (w : World) : SlI w (.slice none 0 0) (natI []) := ⟨none, 0, rfl, Nat.le_refl _, by simp [maxLen], fun h => absurd rfl h⟩
theorem inode_take_ok (h : Tab w bt bx bc bj bm bd at_ n mat lo nbl C F T) {i kd : Nat} (h1 : 1 ≤ i) (h2 : i ≤ n) (h0 : (T i).kind = 0) (hl : ∀ j, 1 ≤ j → j < i → (T j).kind ≠ 0) (_hk1 : 1 ≤ kd) (hk2 : kd ≤ 2)
    (hr : Rm C.ch (mapW mat nbl ++ [at_ + i - 1]) C.most lo (lo + nbl)) :
    Calls Tryz.prog 47 #[.pointer (some ⟨bt, 0, none⟩), .int .i64 kd] w fun e w' => e = .returned (.tuple #[.int .i64 i, .nilIface]) ∧ ∃ F', Tab w' bt bx bc bj bm bd at_ n mat lo nbl (C.nodeW at_ i ⟨kd, 0, [], 0⟩) F' (setT T i ⟨kd, 0, [], 0⟩) ∧ Kp F w w' ∧ Gr F F' w.heap.size := by
  have HR := Lib.hid (fun (W : World) (hk : Kp (fun _ => False) w W) (ino : Nat) (h1 : 1 ≤ ino) (h2 : ino ≤ n) => tab_read (h.kp0 hk) h1 h2)
  have HW := Lib.hid (fun (W : World) (hk : Kp (fun _ => False) w W) => (fun hT : Tab W bt bx bc bj bm bd at_ n mat lo nbl C F T => tab_write hT.blk hT.out hT.map hT.geo hT.ti h1 h2 (x' := ⟨kd, 0, [], 0⟩) (fit_same (blks_empty (hT.ti.ok i h1 h2) h0) rfl) (ndOk_empty kd hk2) (CS.refl _ _) hr (.slice none 0 0) (slI_nil W)) (h.kp0 hk))
  have c3 := cell_blk h.blk 3
  simp at c3
  have C3 := Lib.hid c3
  have hn := h.geo.g5
  have H0 := Lib.hid h0
  have HL := Lib.hid hl
  clear h c3 h0 hl
  go_enter Tryz.func47, Tryz.ntmps47
  go_wp2_with fail
  go_loopw [6] (fun c wr => ∃ k : Nat, k + 1 ≤ i ∧ c = .int .i64 ((k : Int) + 1) ∧ Kp (fun _ => False) w wr) (fun c _ => n + 1 - (intOf c).toNat)
  case atStart => exact ⟨0, by omega, rfl, Kp.refl _ _⟩
  case round =>
    obtain ⟨k, hk, rfl, hkp⟩ := hrel
    have c3 := hkp.cell C3.out (fun h => h)
    have Hkp := Lib.hid hkp
    clear hkp
    have hlt' : (k : Int) < (n : Int) := by omega
    have HR1 := Lib.hid (show Calls Tryz.prog 77 #[.pointer (some ⟨bt, 0, none⟩), .int .i64 ((k : Int) + 1)] wr fun e w' => ∃ A c, e = .returned (.tuple #[.agg #[.int .i64 (T (k + 1)).kind, .int .i64 (T (k + 1)).size, .slice A (T (k + 1)).l.length c, .int .i64 (T (k + 1)).more], .nilIface]) ∧ w'.ownsRow wr.heap.size 3 1 (.slice A (T (k + 1)).l.length c) (T (k + 1)).l.length (ints (natI (T (k + 1)).l)) ∧ Kp (fun _ => False) wr w' from by have := HR.out wr Hkp.out (k + 1) (by omega) (by omega); simpa only [Int.natCast_add, Int.cast_ofNat_Int] using this)
    by_cases hlt : k + 1 < i
    · have hkd := HL.out (k + 1) (by omega) hlt
      generalize hx : T (k + 1) = x at *
      have hzi : ¬ (x.kind : Int) = 0 := by omega
      have hzb : ((x.kind : Int) == 0) = false := by simpa using hzi
      clear hx hkd hzi
      go_wp2_with fail
      refine HR1.out.mono ?_
      rintro e w3 ⟨A, c, rfl, hown, hk3⟩
      have Hk3 := Lib.hid (Kp.alloc (Hkp.out.trans hk3 (Gr.refl _ _)) (.cells #[.int .i64 x.kind, .int .i64 x.size, .slice A x.l.length c, .int .i64 x.more] 94))
      clear hown hk3
      go_wp2_with fail
      go_roundw
      case rel => exact ⟨k + 1, by omega, by go_num, Hk3.out⟩
      case measure => simp [intOf]; omega
    · obtain rfl : i = k + 1 := by omega
      have hz := H0.out
      have HW' := Lib.hid (fun (W : World) (hk : Kp (fun _ => False) w W) => (show Calls Tryz.prog 53 #[.pointer (some ⟨bt, 0, none⟩), .int .i64 ((k : Int) + 1), .agg #[.int .i64 kd, .int .i64 0, .slice none 0 0, .int .i64 0]] W fun e w' => e = .returned .nilIface ∧ ∃ F', Tab w' bt bx bc bj bm bd at_ n mat lo nbl (C.nodeW at_ (k + 1) ⟨kd, 0, [], 0⟩) F' (setT T (k + 1) ⟨kd, 0, [], 0⟩) ∧ Kp F W w' ∧ Gr F F' W.heap.size from by have := HW.out W hk; simpa only [Int.natCast_add, Int.cast_ofNat_Int] using this))
      clear HW HR
      generalize hx : T (k + 1) = x at *
      have Hz := Lib.hid (show (x.kind : Int) = 0 by omega)
      clear hx hz
      go_wp2_with fail
      refine HR1.out.mono ?_
      rintro e w3 ⟨A, c, rfl, hown, hk3⟩
      rw [Hz.out]
      have Hk3 := Lib.hid (Kp.alloc (Hkp.out.trans hk3 (Gr.refl _ _)) (.cells #[.int .i64 0, .int .i64 x.size, .slice A x.l.length c, .int .i64 x.more] 94))
      clear hown hk3
      go_upto_region 5 with fail
      have Hp := Lib.hid (new_blk w3 (.cells #[.int .i64 0, .int .i64 x.size, .slice A x.l.length c, .int .i64 x.more] 94))
      generalize w3.alloc (.cells #[.int .i64 0, .int .i64 x.size, .slice A x.l.length c, .int .i64 x.more] 94) = w4 at *
      generalize w3.heap.size = p at *
      have c0 := cell_blk Hp.out 0
      simp at c0
      go_wp2_with fail
      refine (HW'.out _ Hk3.out).mono ?_
      rintro e w5 ⟨rfl, F5, hT5, hk5, hg5⟩
      have HT5 := Lib.hid hT5
      have Hk5 := Lib.hid (Kp.trans (F1 := F) (Hk3.out.mono (fun _ h => h.elim)) hk5 (Gr.refl _ _))
      have Hg5 := Lib.hid (hg5.mono Hk3.out.size)
      clear hT5 hk5 hg5 c0
      go_wp2_with fail
      go_ret2
      exact ⟨by simp, F5, HT5.out, Hk5.out, Hg5.out⟩
theorem inode_take_full (h : Tab w bt bx bc bj bm bd at_ n mat lo nbl C F T) {kd : Nat} (hl : ∀ j, 1 ≤ j → j ≤ n → (T j).kind ≠ 0) :
    Calls Tryz.prog 47 #[.pointer (some ⟨bt, 0, none⟩), .int .i64 kd] w fun e w' => ∃ v, e = .returned (.tuple #[.int .i64 0, v]) ∧ IsErr w' v [(tx [105, 110, 111, 100, 101], tx [])] 16 ∧ Kp (fun _ => False) w w' := by
  have HR := Lib.hid (fun (W : World) (hk : Kp (fun _ => False) w W) (ino : Nat) (h1 : 1 ≤ ino) (h2 : ino ≤ n) => tab_read (h.kp0 hk) h1 h2)
  have c3 := cell_blk h.blk 3
  simp at c3
  have C3 := Lib.hid c3
  have hn := h.geo.g5
  have HL := Lib.hid hl
  clear h c3 hl
  go_enter Tryz.func47, Tryz.ntmps47
  go_wp2_with fail
  go_loopw [6] (fun c wr => ∃ k : Nat, k ≤ n ∧ c = .int .i64 ((k : Int) + 1) ∧ Kp (fun _ => False) w wr) (fun c _ => n + 1 - (intOf c).toNat)
  case atStart => exact ⟨0, by omega, rfl, Kp.refl _ _⟩
  case round =>
    obtain ⟨k, hk, rfl, hkp⟩ := hrel
    have c3 := hkp.cell C3.out (fun h => h)
    have Hkp := Lib.hid hkp
    clear hkp
    by_cases hlt : k < n
    · have hlt' : (k : Int) < (n : Int) := by omega
      have HR1 := Lib.hid (show Calls Tryz.prog 77 #[.pointer (some ⟨bt, 0, none⟩), .int .i64 ((k : Int) + 1)] wr fun e w' => ∃ A c, e = .returned (.tuple #[.agg #[.int .i64 (T (k + 1)).kind, .int .i64 (T (k + 1)).size, .slice A (T (k + 1)).l.length c, .int .i64 (T (k + 1)).more], .nilIface]) ∧ w'.ownsRow wr.heap.size 3 1 (.slice A (T (k + 1)).l.length c) (T (k + 1)).l.length (ints (natI (T (k + 1)).l)) ∧ Kp (fun _ => False) wr w' from by have := HR.out wr Hkp.out (k + 1) (by omega) (by omega); simpa only [Int.natCast_add, Int.cast_ofNat_Int] using this)
      have hkd := HL.out (k + 1) (by omega) (by omega)
      generalize hx : T (k + 1) = x at *
      have hzi : ¬ (x.kind : Int) = 0 := by omega
      have hzb : ((x.kind : Int) == 0) = false := by simpa using hzi
      clear hx hkd hzi
      go_wp2_with fail
      refine HR1.out.mono ?_
      rintro e w3 ⟨A, c, rfl, hown, hk3⟩
      have Hk3 := Lib.hid (Kp.alloc (Hkp.out.trans hk3 (Gr.refl _ _)) (.cells #[.int .i64 x.kind, .int .i64 x.size, .slice A x.l.length c, .int .i64 x.more] 94))
      clear hown hk3
      go_wp2_with fail
      go_roundw
      case rel => exact ⟨k + 1, by omega, by go_num, Hk3.out⟩
      case measure => simp [intOf]; omega
    · have hkn : k = n := by omega
      have hnlt : ¬ (k : Int) < (n : Int) := by omega
      subst hkn
      go_wp2_with fail
      refine (fault_New _ _ _ _ (by decide)).mono ?_
      rintro e w4 ⟨v, rfl, hv, hk4⟩
      have Hv := Lib.hid hv
      have Hk4 := Lib.hid (Hkp.out.trans hk4 (Gr.refl _ _))
      clear hv hk4
      go_wp2_with fail
      go_ret2
      exact ⟨v, rfl, Hv.out, Hk4.out⟩
theorem inode_Make_arg (kd : Int) (h1 : kd ≠ 1) (h2 : kd ≠ 2) :
    Calls Tryz.prog 19 #[.pointer (some ⟨bt, 0, none⟩), .int .i64 kd] w fun e w' => ∃ v, e = .returned (.tuple #[.int .i64 0, v]) ∧ IsErr w' v [(tx [105, 110, 111, 100, 101], tx [])] 1 ∧ Kp (fun _ => False) w w' := by
  have e1 : (kd == 1) = false := by simpa using h1
  have e2 : (kd == 2) = false := by simpa using h2
  go_enter Tryz.func19, Tryz.ntmps19
  go_wp2_with fail
  refine (fault_New _ _ _ _ (by decide)).mono ?_
  rintro e w4 ⟨v, rfl, hv, hk4⟩
  have Hv := Lib.hid hv
  have Hk4 := Lib.hid hk4
  clear hv hk4
  go_wp2_with fail
  go_ret2
  exact ⟨v, rfl, Hv.out, Hk4.out⟩
theorem inode_Make_of {kd : Int} (hk : kd = 1 ∨ kd = 2) {R : Value → Value → World → Prop} (h : Calls Tryz.prog 47 #[.pointer (some ⟨bt, 0, none⟩), .int .i64 kd] w fun e w' => ∃ x y, e = .returned (.tuple #[x, y]) ∧ R x y w') :
    Calls Tryz.prog 19 #[.pointer (some ⟨bt, 0, none⟩), .int .i64 kd] w fun e w' => ∃ x y, e = .returned (.tuple #[x, y]) ∧ R x y w' := by
  have H := Lib.hid h
  clear h
  rcases hk with rfl | rfl
  all_goals
    go_enter Tryz.func19, Tryz.ntmps19
    go_wp2_with fail
    refine H.out.mono ?_
    rintro e w4 ⟨x, y, rfl, hv⟩
    have Hv := Lib.hid hv
    clear hv
    go_wp2_with fail
    go_ret2
    exact ⟨x, y, rfl, Hv.out⟩
end Go.Proofs.YthjbpbahcemfgaaGreatDoor
