/- Inodes: Free; what Write refuses for want of blocks. -/
/- Inodes: what Write and Cut refuse for want of blocks. -/
import Derived.Test.YtdmmlkkemceifaaGreatDoorInoN
namespace Go.Proofs.YtdmmlkkemceifaaGreatDoor
open Go.RowKit
set_option maxHeartbeats 4000000
set_option maxRecDepth 20000
variable {w : World} {bt bx bc bj bm bd at_ n mat lo nbl : Nat} {C : CSt} {F : Nat → Prop} {T : Nat → Nd}

structure FreeR (w : World) (bt bx bc bj bm bd at_ n mat lo nbl : Nat) (C : CSt) (F : Nat → Prop) (T : Nat → Nd) (ino : Nat) (C' : CSt) (F' : Nat → Prop) (w' : World) : Prop where
  tab : Tab w' bt bx bc bj bm bd at_ n mat lo nbl C' F' (setT T ino Nd.zero)
  rest : ∀ k, 1 ≤ k → k ≤ n → k ≠ ino → dataOf C'.view (T k) = dataOf C.view (T k)
  cs : CS (fun no => IsM mat nbl no ∨ no = at_ + ino - 1) C C'
  kp : Kp F w w'
  gr : Gr F F' w.heap.size
def FreePost (w : World) (bt bx bc bj bm bd at_ n mat lo nbl : Nat) (C : CSt) (F : Nat → Prop) (T : Nat → Nd) (ino : Nat) (e : Ending) (w' : World) : Prop :=
  e = .returned .nilIface ∧ ∃ C' F', FreeR w bt bx bc bj bm bd at_ n mat lo nbl C F T ino C' F' w'
theorem zero_blks : Nd.zero.blks = [] := rfl
theorem inode_Free_ok (h : Tab w bt bx bc bj bm bd at_ n mat lo nbl C F T) {ino : Nat} (h1 : 1 ≤ ino) (h2 : ino ≤ n) (hN : NG ≤ w.heap.size) (hkd : (T ino).kind ≠ 0) (hr : Rm C.ch (mapW mat nbl ++ [at_ + ino - 1]) C.most lo (lo + nbl)) :
    Calls Tryz.prog 23 #[.pointer (some ⟨bt, 0, none⟩), .int .i64 ino] w (FreePost w bt bx bc bj bm bd at_ n mat lo nbl C F T ino) := by
  have hg5 := h.geo.g5
  have hg3 := h.geo.g3
  have ho := h.ti.ok ino h1 h2
  have HH := Lib.hid (inode_had_ok h h1 h2 hkd)
  have hbitx : ∀ b ∈ (T ino).blks, bitC C mat (b - lo) = true := fun b hb => by
    have hr := ho.rng b hb
    exact (h.ti.bit (b - lo) (by omega)).2 ⟨ino, h1, h2, by rw [show lo + (b - lo) = b by omega]; exact hb⟩
  have HFit := Lib.hid (fun (W : World) (hk : Kp (fun _ => False) w W) (A : Option Addr) (c : Nat) (hown : W.ownsRow w.heap.size 3 1 (.slice A (T ino).l.length c) (T ino).l.length (ints (natI (T ino).l))) =>
    inode_fit (x := T ino) (hk.blk h.blk (fun h => h)) h.out ((h.kp0 hk).map) (Nat.le_trans hN hk.size) hN hk.size h.geo hown (fun g hg hF => by have := (hown.lt g hg).1; have := h.map.rep.disk.lt g hF; omega) ho hbitx 0 (by omega) (fun _ => rfl) (by show bks 0 ≤ _; exact Nat.zero_le _) hr (fun b hb => List.mem_append_left _ (mem_mapW.2 hb)))
  have HH0 := Lib.hid h
  have HR := Lib.hid hr
  have hbt := h.out
  have hbtl := lt_blk h.blk
  clear h ho hkd hr hbitx
  generalize hxx : T ino = x at *
  have Hxx := Lib.hid hxx
  clear hxx
  go_enter Tryz.func23, Tryz.ntmps23
  go_wp2_with fail
  refine HH.out.mono ?_
  rintro e w3 ⟨A, c, rfl, hown, hk3⟩
  have hka := (Kp.refl (fun _ => False) w3).alloc (.cells #[.int .i64 x.kind, .int .i64 x.size, .slice A x.l.length c, .int .i64 x.more] 70)
  have Hown4 := Lib.hid (own_kp0 hown hka)
  have HK := Lib.hid (hk3.trans hka (Gr.refl _ _))
  have Hp := Lib.hid (new_blk w3 (.cells #[.int .i64 x.kind, .int .i64 x.size, .slice A x.l.length c, .int .i64 x.more] 70))
  have hqw := hk3.size
  have Hq4 := Lib.hid (size_alloc w3 (.cells #[.int .i64 x.kind, .int .i64 x.size, .slice A x.l.length c, .int .i64 x.more] 70))
  clear hown hk3 HH hka
  go_upto_region 2 with fail
  generalize w3.alloc (.cells #[.int .i64 x.kind, .int .i64 x.size, .slice A x.l.length c, .int .i64 x.more] 70) = w4 at *
  generalize w3.heap.size = q at *
  have c0 := cell_blk Hp.out 0
  have c1 := cell_blk Hp.out 1
  have c2 := cell_blk Hp.out 2
  have c3 := cell_blk Hp.out 3
  simp at c0 c1 c2 c3
  go_wp2_with fail
  refine (HFit.out _ HK.out A c Hown4.out).mono ?_
  rintro e w5 ⟨x', A', c', C1, F1, rfl, hR⟩
  have hqF : ¬ F q := fun hF => by have := HH0.out.map.rep.disk.lt q hF; omega
  have hq4 : q < w4.heap.size := by rw [Hq4.out]; omega
  have Hp5 := Lib.hid (hR.kp.blk Hp.out (fun h => by rcases h with h | h; exact hqF h; exact own_ne Hown4.out Hp.out (by decide) _ h rfl))
  have Hn0 := Lib.hid (hR.gr.not hqF hq4)
  have HRR := Lib.hid hR
  clear hR c0 c1 c2 c3 HFit
  have c0 := cell_blk Hp5.out 0
  have c1 := cell_blk Hp5.out 1
  have c2 := cell_blk Hp5.out 2
  have c3 := cell_blk Hp5.out 3
  have f0 := frozen_blk Hp5.out 0
  have f1 := frozen_blk Hp5.out 1
  have f2 := frozen_blk Hp5.out 2
  have f3 := frozen_blk Hp5.out 3
  simp at c0 c1 c2 c3
  go_upto_region 5 with fail
  have hk6 := set4_kp (a' := .int .i64 x'.kind) (b' := .int .i64 x'.size) (c' := .slice A' x'.l.length c') (d' := .int .i64 x'.more) (Kp.refl (fun k => k = q) w5) (.inl rfl)
  have Hk6 := Lib.hid hk6
  clear hk6 c0 c1 c2 c3 f0 f1 f2 f3
  generalize ((((w5.setCell ⟨q, 0, none⟩ (.int .i64 x'.kind)).setCell ⟨q, 1, none⟩ (.int .i64 x'.size)).setCell ⟨q, 2, none⟩ (.slice A' x'.l.length c')).setCell ⟨q, 3, none⟩ (.int .i64 x'.more)) = w6 at *
  have hN1 : NG ≤ w.heap.size := hN
  have hqw' : w.heap.size ≤ q := hqw
  have Hm6 := Lib.hid (show MapOn w6 bx bc bj bm bd mat lo nbl C1 F1 from by
    have hm := HRR.out.map
    have hbxl := lt_blk HH0.out.map.blk
    exact ⟨Hk6.out.blk hm.blk (by omega), hm.out, hm.rep.kp Hk6.out (fun i hi e => Hn0.out (by have : i = q := e; exact this ▸ hi)) (fun i e => by have : i = q := e; omega), hm.live, hm.vb, hm.n1, hm.n2, hm.inb, hm.far⟩)
  have Hkk := Lib.hid (show Kp F w w6 from by
    have h5 : Kp F w w5 := Kp.trans (F1 := fun k => F k ∨ (Value.slice A x.l.length c).ownBlock = some k) (HK.out.mono (fun _ h => h.elim)) HRR.out.kp (fun k hk => by rcases hk with h | h; exact .inl h; exact .inr (Hown4.out.lt k h).1)
    exact h5.trans Hk6.out (fun i e => .inr (by have : i = q := e; omega)))
  have Hgg := Lib.hid (show Gr F F1 w.heap.size from HRR.out.gr.mono HK.out.size)
  have hsz0 : x'.l = [] ∧ x'.more = 0 := by
    have hl := HRR.out.ok.len
    rw [HRR.out.sz] at hl
    have hl0 : x'.l.length = 0 := hl
    exact ⟨List.eq_nil_of_length_eq_zero hl0, HRR.out.ok.more.2 (by omega)⟩
  have hb0 : x'.blks = [] := by unfold Nd.blks; rw [hsz0.1, hsz0.2]; rfl
  have Hfit0 := Lib.hid (show Fit C C1 mat lo nbl x Nd.zero from ⟨fun j hj => by have := HRR.out.fit.bit j hj; rw [hb0] at this; exact this, (fun b hb => by rw [zero_blks] at hb; cases hb), (by rw [zero_blks]; exact List.nodup_nil), (fun b hb => by rw [zero_blks] at hb; cases hb)⟩)
  have Hcs0 := Lib.hid (show CS (fun no => IsM mat nbl no ∨ no ∈ Nd.zero.blks) C C1 from HRR.out.cs.mono (fun no h => by rcases h with h | ⟨h, _⟩; exact .inl h; rw [hb0] at h; cases h))
  have hbtF : ¬ (fun k => F k) bt := hbt
  have HTW := Lib.hid (tab_write (w := w6) (F1 := F1) (x' := Nd.zero) (Hkk.out.blk HH0.out.blk hbt) (Hgg.out.not hbt hbtl) Hm6.out HH0.out.geo HH0.out.ti h1 h2 (by rw [Hxx.out]; exact Hfit0.out) (NdOk.zero' _ _) Hcs0.out HR.out (.slice none 0 0) (slI_nil w6))
  clear hsz0 hb0
  go_wp2_with fail
  refine HTW.out.mono ?_
  rintro e w7 ⟨rfl, F7, hT7, hk7, hg7⟩
  have HT7 := Lib.hid hT7
  have Hk7 := Lib.hid hk7
  have Hg7 := Lib.hid hg7
  clear hT7 hk7 hg7
  go_wp2_with fail
  refine (inode_told (ino : Int) .nilIface none _ HT7.out.gl (by omega) (by omega) rfl).mono ?_
  rintro e w8 ⟨v8, rfl, hv8, hk8⟩
  obtain rfl : v8 = .nilIface := hv8
  have Hk8 := Lib.hid hk8
  clear hk8
  go_wp2_with fail
  go_ret
  have hcn : CS (fun no => no = at_ + ino - 1 ∨ no ∈ Nd.zero.blks) C1 (C1.nodeW at_ ino Nd.zero) := (nodeW_cs C1 at_ ino Nd.zero).mono (fun no h => by rcases h with h | ⟨h8, _⟩; exact .inl h; exact absurd h8 (by simp [Nd.zero]))
  refine ⟨rfl, _, F7, HT7.out.kp0 Hk8.out, fun k k1 k2 hne => ?_, ?_, ?_, ?_⟩
  · exact HH0.out.ti.data HH0.out.geo h1 h2 (by rw [Hxx.out]; exact Hfit0.out) Hcs0.out hcn k1 k2 hne
  · exact (Hcs0.out.mono (fun no h => by rcases h with h | h; exact .inl h; rw [zero_blks] at h; cases h)).trans (hcn.mono (fun no h => by rcases h with h | h; exact .inr h; rw [zero_blks] at h; cases h))
  · exact (Hkk.out.trans Hk7.out Hgg.out).trans (F1 := fun _ => False) Hk8.out (fun _ h => h.elim)
  · exact Hgg.out.trans Hg7.out Hkk.out.size
end Go.Proofs.YtdmmlkkemceifaaGreatDoor
namespace Go.Proofs.YtdmmlkkemceifaaGreatDoor
open Go.RowKit
set_option maxHeartbeats 4000000
set_option maxRecDepth 20000
variable {w : World} {bt bx bc bj bm bd at_ n mat lo nbl : Nat} {C : CSt} {F : Nat → Prop} {T : Nat → Nd}

theorem inode_Write_full (h : Tab w bt bx bc bj bm bd at_ n mat lo nbl C F T) {ino p : Nat} (h1 : 1 ≤ ino) (h2 : ino ≤ n) (hkd : (T ino).kind ≠ 0) (v : Value) (ys : List Int) (hv : Sl w v ys) (hyb : Byt ys) (hy0 : ys ≠ []) (hp : p + ys.length ≤ 4000) (hfull : frees (bitC C mat) nbl < bks (max (T ino).size (p + ys.length)) - bks (T ino).size) :
    Calls Tryz.prog 10 #[.pointer (some ⟨bt, 0, none⟩), .int .i64 ino, .int .i64 p, v] w fun e w' => ∃ u, e = .returned u ∧ IsErr w' u [(tx [105, 110, 111, 100, 101], tx (Lib.itoa ino))] 15 ∧ Kp (fun _ => False) w w' := by
  have hg5 := h.geo.g5
  have hdl := data_len h h1 h2
  have hdb := data_byt h h1 h2
  have ho := h.ti.ok ino h1 h2
  have hg3 := h.geo.g3
  have HH := Lib.hid (inode_had_ok h h1 h2 hkd)
  have HB := Lib.hid (fun (W : World) (hk : Kp (fun _ => False) w W) (lv : Value) (hl : SlI W lv (natI (T ino).l)) => inode_bytes (hk.blk h.blk (fun h => h)) (h.map.rep.kp0 hk) h.map.live (T ino) lv hl (by have := ho.len32; omega) (fun b hb => by have := ho.rng b (Nd.mem_l hb); omega) (by rw [ho.len]; unfold dat; omega))
  have hsz := ho.size
  obtain ⟨Av, cv, rfl, hv1, hv2, hv3⟩ := id hv
  have hylen : 0 < ys.length := List.length_pos_iff.2 hy0
  have HT := Lib.hid (fun (W : World) (hk : Kp (fun _ => False) w W) (A : Option Addr) (c N fr : Nat) (R : List Int) (hRow : RowE W N R) (hRl : R.length = (max (T ino).size (p + ys.length))) =>
    inode_set_full (h.kp0 hk) (T ino) (.slice A (T ino).l.length c) (.slice (some ⟨N, 0, none⟩) R.length R.length) R (ino := (ino : Int)) (fr := (fr : Int)) ho.size ⟨_, _, _, rfl⟩ (hRow.sl (by unfold maxLen; omega)) (by omega) (by rw [hRl]; exact hfull))
  have Hdl := Lib.hid hdl
  have HG := Lib.hid h.gl
  clear h ho hkd hdl hdb hv3 hfull hyb hy0 hg3
  generalize hd : dataOf C.view (T ino) = d at *
  clear hd
  generalize hxx : T ino = x at *
  clear hxx
  obtain ⟨m, hm⟩ : ∃ m, m = ys.length := ⟨_, rfl⟩
  rw [← hm] at hv1 hp hylen HT hv ⊢
  have Hv := Lib.hid hv
  clear hv
  have Hm := Lib.hid hm
  clear hm
  have hp0 : (0 : Int) ≤ (p : Int) := by omega
  have hp4 : ¬ (4000 : Int) < (p : Int) := by omega
  have hp5 : ¬ (4000 : Int) - (p : Int) < (m : Int) := by omega
  have hm0 : ¬ (m : Int) = 0 := by omega
  have hmb : ((m : Int) == 0) = false := by simpa using hm0
  go_enter Tryz.func10, Tryz.ntmps10
  go_wp2_with fail
  refine HH.out.mono ?_
  rintro e w3 ⟨A, c, rfl, hown, hk3⟩
  have hka := (Kp.refl (fun _ => False) w3).alloc (.cells #[.int .i64 x.kind, .int .i64 x.size, .slice A x.l.length c, .int .i64 x.more] 70)
  have Hown4 := Lib.hid (own_kp0 hown hka)
  have HK := Lib.hid (hk3.trans hka (Gr.refl _ _))
  have Hp := Lib.hid (new_blk w3 (.cells #[.int .i64 x.kind, .int .i64 x.size, .slice A x.l.length c, .int .i64 x.more] 70))
  clear hown hk3 HH hka
  go_upto_region 2 with fail
  generalize w3.alloc (.cells #[.int .i64 x.kind, .int .i64 x.size, .slice A x.l.length c, .int .i64 x.more] 70) = w4 at *
  generalize w3.heap.size = q at *
  have c0 := cell_blk Hp.out 0
  have c1 := cell_blk Hp.out 1
  have c2 := cell_blk Hp.out 2
  have c3 := cell_blk Hp.out 3
  simp at c0 c1 c2 c3
  go_wp2_with fail
  refine (HB.out _ HK.out _ (own_slI Hown4.out).1).mono ?_
  rintro e w5 ⟨A5, c5, rfl, hsl, hk5, hb5⟩
  have Hsl := Lib.hid hsl
  have Hk5 := Lib.hid (HK.out.trans hk5 (Gr.refl _ _))
  have Hp5 := Lib.hid (hk5.blk Hp.out (fun h => h))
  have Hown5 := Lib.hid (own_kp0 Hown4.out hk5)
  clear hsl hk5 hb5 c0 c1 c2 c3 Hp HK Hown4 HB
  obtain ⟨M, hM⟩ : ∃ M, M = max x.size (p + m) := ⟨_, rfl⟩
  have e1 : max (x.size : Int) ((p : Int) + (m : Int)) = (M : Int) := by omega
  have hM4 : M ≤ 4000 := by omega
  have hMx : x.size ≤ M ∧ p + m ≤ M := by omega
  rw [← hM] at HT
  have HM := Lib.hid hM
  clear hM
  have c0 := cell_blk Hp5.out 0
  have c1 := cell_blk Hp5.out 1
  have c2 := cell_blk Hp5.out 2
  have c3 := cell_blk Hp5.out 3
  simp at c0 c1 c2 c3
  have e2 : (min (p : Int) (x.size : Int)) = ((min p x.size : Nat) : Int) := by omega
  have E2 := Lib.hid e2
  obtain ⟨N, hNw⟩ : ∃ N, N = w5.heap.size := ⟨_, rfl⟩
  have HNw := Lib.hid hNw
  have hlN : w.heap.size ≤ N := by rw [hNw]; exact Hk5.out.size
  clear hNw e2
  have B0 := Lib.hid c0
  have B1 := Lib.hid c1
  have B2 := Lib.hid c2
  have B3 := Lib.hid c3
  have e2 := E2.out
  have Hl1 := Lib.hid (grow_len d M (by rw [Hdl.out]; omega))
  go_wp2_with (first
    | (at_make; refine wpList_makeNg rfl _ _ rfl M rfl rfl (by omega) N HNw.out.symm ?_; intro w6 hk6 hr6 hz6; have Hr6 := Lib.hid hr6; have Hk6 := Lib.hid hk6; replace c0 := hk6.cell c0 (fun h => h); replace c1 := hk6.cell c1 (fun h => h); replace c2 := hk6.cell c2 (fun h => h); replace c3 := hk6.cell c3 (fun h => h); clear hr6 hk6 hz6 e1)
    | ((with_reducible refine at_slice rfl ?_); refine wpList_slice_run rfl _ _ _ _ _ rfl _ _ _ _ _ rfl rfl rfl rfl (run_slice_b (k := p) rfl (by omega) (by omega) (by omega)) ?_; rw [add0])
    | ((with_reducible refine at_copy rfl ?_); (refine wpList_copyB rfl _ _ rfl _ _ _ rfl _ rfl N 0 (zs M) d Hr6.out (Hsl.out.kp Hk6.out (fun _ _ h => h)) (fun _ => rfl) (by rw [zs_length, Nat.zero_add]; exact Nat.min_le_right _ _) ?_); intro w7 hk7 hz7 hr7; rw [List.take_of_length_le (by rw [Hdl.out]; omega)] at hr7; have Hr7 := Lib.hid hr7; have hkn7 : Kp (fun _ => False) w5 w7 := Hk6.out.over hk7 (fun i e => by have e' : i = N := e; have := HNw.out; omega); have Hk7 := Lib.hid hkn7; have hqN : q < N := by have := HNw.out; have := lt_blk Hp5.out; omega)
    | ((with_reducible refine at_copy rfl ?_); (refine wpList_copyB rfl _ _ rfl _ _ _ rfl _ rfl N p (splice (zs M) 0 d) ys Hr7.out (Hv.out.kp (Hk5.out.trans Hk7.out (Gr.refl _ _)) (fun _ _ h => h)) (fun _ => rfl) (by rw [Hl1.out]; have := nmin_l ys.length (M - p); have := Hm.out; omega) ?_); intro w8 hk8 hz8 hr8; rw [List.take_of_length_le (by have := Hm.out; omega)] at hr8; have Hr8 := Lib.hid hr8; have hkn8 : Kp (fun _ => False) w5 w8 := Hk7.out.over hk8 (fun i e => by have e' : i = N := e; have := HNw.out; omega); have Hk8 := Lib.hid hkn8; have c0 := hkn8.cell B0.out (fun h => h); have c1 := hkn8.cell B1.out (fun h => h); have c2 := hkn8.cell B2.out (fun h => h); have c3 := hkn8.cell B3.out (fun h => h); clear hk8 hz8 hr8 hkn8))
  have Hown8 := Lib.hid (own_kp0 Hown5.out Hk8.out)
  have Hw8 := Lib.hid (Hk5.out.trans Hk8.out (Gr.refl _ _))
  have HRl := Lib.hid (show (splice (splice (zs M) 0 d) p ys).length = M by rw [splice_len _ _ _ (by rw [Hl1.out]; have := Hm.out; omega), Hl1.out])
  have HRe := Lib.hid (show splice (splice (zs M) 0 d) p ys = wrAt d p ys by unfold wrAt; rw [Hdl.out, ← Hm.out, ← HM.out])
  have HS := Lib.hid (show Calls Tryz.prog 37 #[.pointer (some ⟨bt, 0, none⟩), .int .i64 ino, .agg #[.int .i64 x.kind, .int .i64 x.size, .slice A x.l.length c, .int .i64 x.more], .int .i64 ((min p x.size : Nat) : Int), .slice (some ⟨N, 0, none⟩) M M] w8 (fun e w' => ∃ u, e = .returned u ∧ IsErr w' u [] 15 ∧ Kp (fun _ => False) w8 w') from by
    have h := HT.out w8 Hw8.out A c N (min p x.size) _ Hr8.out (by rw [HRl.out])
    rw [HRl.out] at h
    exact h)
  refine HS.out.mono ?_
  rintro e w9 ⟨u9, rfl, hu9, hk9⟩
  have Hu9 := Lib.hid hu9
  have Hk9 := Lib.hid (Hw8.out.trans hk9 (Gr.refl _ _))
  obtain ⟨t9, x9, rfl⟩ := hu9.iface
  clear hu9 hk9
  go_wp2_with fail
  refine (inode_told (ino : Int) _ (some ([], 15)) _ (HG.out.kp Hk9.out Hi.none) (by omega) (by omega) Hu9.out).mono ?_
  rintro e w10 ⟨v10, rfl, hv10, hk10⟩
  have Hv10 := Lib.hid hv10
  have Hk10 := Lib.hid (Hk9.out.trans hk10 (Gr.refl _ _))
  clear hk10 hv10
  go_wp2_with fail
  go_ret
  exact ⟨v10, rfl, Hv10.out, Hk10.out⟩
theorem inode_Cut_full (h : Tab w bt bx bc bj bm bd at_ n mat lo nbl C F T) {ino M : Nat} (h1 : 1 ≤ ino) (h2 : ino ≤ n) (hkd : (T ino).kind ≠ 0) (hM4 : M ≤ 4000) (hfull : frees (bitC C mat) nbl < bks M - bks (T ino).size) :
    Calls Tryz.prog 17 #[.pointer (some ⟨bt, 0, none⟩), .int .i64 ino, .int .i64 M] w fun e w' => ∃ u, e = .returned u ∧ IsErr w' u [(tx [105, 110, 111, 100, 101], tx (Lib.itoa ino))] 15 ∧ Kp (fun _ => False) w w' := by
  have hg5 := h.geo.g5
  have hdl := data_len h h1 h2
  have hdb := data_byt h h1 h2
  have ho := h.ti.ok ino h1 h2
  have hg3 := h.geo.g3
  have HH := Lib.hid (inode_had_ok h h1 h2 hkd)
  have HB := Lib.hid (fun (W : World) (hk : Kp (fun _ => False) w W) (lv : Value) (hl : SlI W lv (natI (T ino).l)) => inode_bytes (hk.blk h.blk (fun h => h)) (h.map.rep.kp0 hk) h.map.live (T ino) lv hl (by have := ho.len32; omega) (fun b hb => by have := ho.rng b (Nd.mem_l hb); omega) (by rw [ho.len]; unfold dat; omega))
  have hsz := ho.size
  have HT := Lib.hid (fun (W : World) (hk : Kp (fun _ => False) w W) (A : Option Addr) (c N fr : Nat) (R : List Int) (hRow : RowE W N R) (hRl : R.length = M) =>
    inode_set_full (h.kp0 hk) (T ino) (.slice A (T ino).l.length c) (.slice (some ⟨N, 0, none⟩) R.length R.length) R (ino := (ino : Int)) (fr := (fr : Int)) ho.size ⟨_, _, _, rfl⟩ (hRow.sl (by unfold maxLen; omega)) (by omega) (by rw [hRl]; exact hfull))
  have Hdl := Lib.hid hdl
  have HG := Lib.hid h.gl
  clear h ho hkd hdl hdb hfull hg3
  generalize hd : dataOf C.view (T ino) = d at *
  clear hd
  generalize hxx : T ino = x at *
  clear hxx
  have hp0 : (0 : Int) ≤ (M : Int) := by omega
  have hp4 : ¬ (4000 : Int) < (M : Int) := by omega
  go_enter Tryz.func17, Tryz.ntmps17
  go_wp2_with fail
  refine HH.out.mono ?_
  rintro e w3 ⟨A, c, rfl, hown, hk3⟩
  have hka := (Kp.refl (fun _ => False) w3).alloc (.cells #[.int .i64 x.kind, .int .i64 x.size, .slice A x.l.length c, .int .i64 x.more] 70)
  have Hown4 := Lib.hid (own_kp0 hown hka)
  have HK := Lib.hid (hk3.trans hka (Gr.refl _ _))
  have Hp := Lib.hid (new_blk w3 (.cells #[.int .i64 x.kind, .int .i64 x.size, .slice A x.l.length c, .int .i64 x.more] 70))
  clear hown hk3 HH hka
  go_upto_region 2 with fail
  generalize w3.alloc (.cells #[.int .i64 x.kind, .int .i64 x.size, .slice A x.l.length c, .int .i64 x.more] 70) = w4 at *
  generalize w3.heap.size = q at *
  have c0 := cell_blk Hp.out 0
  have c1 := cell_blk Hp.out 1
  have c2 := cell_blk Hp.out 2
  have c3 := cell_blk Hp.out 3
  simp at c0 c1 c2 c3
  go_wp2_with fail
  refine (HB.out _ HK.out _ (own_slI Hown4.out).1).mono ?_
  rintro e w5 ⟨A5, c5, rfl, hsl, hk5, hb5⟩
  have Hsl := Lib.hid hsl
  have Hk5 := Lib.hid (HK.out.trans hk5 (Gr.refl _ _))
  have Hp5 := Lib.hid (hk5.blk Hp.out (fun h => h))
  have Hown5 := Lib.hid (own_kp0 Hown4.out hk5)
  clear hsl hk5 hb5 c0 c1 c2 c3 Hp HK Hown4 HB
  have c0 := cell_blk Hp5.out 0
  have c1 := cell_blk Hp5.out 1
  have c2 := cell_blk Hp5.out 2
  have c3 := cell_blk Hp5.out 3
  simp at c0 c1 c2 c3
  have e2 : (min (M : Int) (x.size : Int)) = ((min M x.size : Nat) : Int) := by omega
  have E2 := Lib.hid e2
  obtain ⟨N, hNw⟩ : ∃ N, N = w5.heap.size := ⟨_, rfl⟩
  have HNw := Lib.hid hNw
  have hlN : w.heap.size ≤ N := by rw [hNw]; exact Hk5.out.size
  clear hNw e2
  have B0 := Lib.hid c0
  have B1 := Lib.hid c1
  have B2 := Lib.hid c2
  have B3 := Lib.hid c3
  have e2 := E2.out
  go_wp2_with (first
    | (at_make; refine wpList_makeNg rfl _ _ rfl M rfl rfl (by omega) N HNw.out.symm ?_; intro w6 hk6 hr6 hz6; have Hr6 := Lib.hid hr6; have Hk6 := Lib.hid hk6; replace c0 := hk6.cell c0 (fun h => h); replace c1 := hk6.cell c1 (fun h => h); replace c2 := hk6.cell c2 (fun h => h); replace c3 := hk6.cell c3 (fun h => h); clear hr6 hk6 hz6)
    | ((with_reducible refine at_copy rfl ?_); (refine wpList_copyB rfl _ _ rfl _ _ _ rfl _ rfl N 0 (zs M) d Hr6.out (Hsl.out.kp Hk6.out (fun _ _ h => h)) (fun _ => rfl) (by rw [zs_length, Nat.zero_add]; exact Nat.min_le_right _ _) ?_); intro w8 hk8 hz8 hr8; have Hr8 := Lib.hid hr8; have hkn8 : Kp (fun _ => False) w5 w8 := Hk6.out.over hk8 (fun i e => by have e' : i = N := e; have := HNw.out; omega); have Hk8 := Lib.hid hkn8; have c0 := hkn8.cell B0.out (fun h => h); have c1 := hkn8.cell B1.out (fun h => h); have c2 := hkn8.cell B2.out (fun h => h); have c3 := hkn8.cell B3.out (fun h => h); clear hk8 hz8 hr8 hkn8))
  have Hown8 := Lib.hid (own_kp0 Hown5.out Hk8.out)
  have Hw8 := Lib.hid (Hk5.out.trans Hk8.out (Gr.refl _ _))
  have HRl := Lib.hid (show (splice (zs M) 0 (d.take M)).length = M from cutAt_len d M)
  have HRe := Lib.hid (show splice (zs M) 0 (d.take M) = cutAt d M from rfl)
  have HS := Lib.hid (show Calls Tryz.prog 37 #[.pointer (some ⟨bt, 0, none⟩), .int .i64 ino, .agg #[.int .i64 x.kind, .int .i64 x.size, .slice A x.l.length c, .int .i64 x.more], .int .i64 ((min M x.size : Nat) : Int), .slice (some ⟨N, 0, none⟩) M M] w8 (fun e w' => ∃ u, e = .returned u ∧ IsErr w' u [] 15 ∧ Kp (fun _ => False) w8 w') from by
    have h := HT.out w8 Hw8.out A c N (min M x.size) _ Hr8.out HRl.out
    rw [HRl.out] at h
    exact h)
  refine HS.out.mono ?_
  rintro e w9 ⟨u9, rfl, hu9, hk9⟩
  have Hu9 := Lib.hid hu9
  have Hk9 := Lib.hid (Hw8.out.trans hk9 (Gr.refl _ _))
  obtain ⟨t9, x9, rfl⟩ := hu9.iface
  clear hu9 hk9
  go_wp2_with fail
  refine (inode_told (ino : Int) _ (some ([], 15)) _ (HG.out.kp Hk9.out Hi.none) (by omega) (by omega) Hu9.out).mono ?_
  rintro e w10 ⟨v10, rfl, hv10, hk10⟩
  have Hv10 := Lib.hid hv10
  have Hk10 := Lib.hid (Hk9.out.trans hk10 (Gr.refl _ _))
  clear hk10 hv10
  go_wp2_with fail
  go_ret
  exact ⟨v10, rfl, Hv10.out, Hk10.out⟩
end Go.Proofs.YtdmmlkkemceifaaGreatDoor
