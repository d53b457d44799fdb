/- Inodes: Free; what Write refuses for want of blocks. -/
/- Inodes: what Write and Cut refuse for want of blocks. -/
/- The state of six inodes: Free, Free of what is free, Make of a seventh. -/
/- The state of six inodes: no room (error 15), a Flush and a Drop behind it. -/
/- Calls of inode that are refused ahead of anything: no such inode, a free one, a place below 0, too many bytes. -/
/- The blocks of an inode, in their order. -/
import Derived.Test.YthjbpbahcemfgaaGreatDoorShelfC
import Derived.Test.YthjbpbahcemfgaaGreatDoorInoN
import Derived.Test.YthjbpbahcemfgaaGreatDoorSizesL
import Derived.Sort.OwnSortedInts
namespace Go.Proofs.YthjbpbahcemfgaaGreatDoor
set_option linter.unusedVariables false
set_option linter.unusedSimpArgs false
open Go.RowKit
set_option maxHeartbeats 4000000
set_option maxRecDepth 20000
variable {w : World} {bt bx bc bj bm bd at_ n mat lo nbl : Nat} {C : CSt} {F : Nat → Prop} {T : Nat → Nd}

structure FreeR (w : World) (bt bx bc bj bm bd at_ n mat lo nbl : Nat) (C : CSt) (F : Nat → Prop) (T : Nat → Nd) (ino : Nat) (C' : CSt) (F' : Nat → Prop) (w' : World) : Prop where
  tab : Tab w' bt bx bc bj bm bd at_ n mat lo nbl C' F' (setT T ino Nd.zero)
  rest : ∀ k, 1 ≤ k → k ≤ n → k ≠ ino → dataOf C'.view (T k) = dataOf C.view (T k)
  cs : CS (fun no => IsM mat nbl no ∨ no = at_ + ino - 1) C C'
  kp : Kp F w w'
  gr : Gr F F' w.heap.size
def FreePost (w : World) (bt bx bc bj bm bd at_ n mat lo nbl : Nat) (C : CSt) (F : Nat → Prop) (T : Nat → Nd) (ino : Nat) (e : Ending) (w' : World) : Prop :=
  e = .returned .nilIface ∧ ∃ C' F', FreeR w bt bx bc bj bm bd at_ n mat lo nbl C F T ino C' F' w'
theorem zero_blks : Nd.zero.blks = [] := rfl
theorem inode_Free_ok (h : Tab w bt bx bc bj bm bd at_ n mat lo nbl C F T) {ino : Nat} (h1 : 1 ≤ ino) (h2 : ino ≤ n) (hN : NG ≤ w.heap.size) (hkd : (T ino).kind ≠ 0) (hr : Rm C.ch (mapW mat nbl ++ [at_ + ino - 1]) C.most lo (lo + nbl)) :
    Calls Tryz.prog 21 #[.pointer (some ⟨bt, 0, none⟩), .int .i64 ino] w (FreePost w bt bx bc bj bm bd at_ n mat lo nbl C F T ino) := by
  have hg5 := h.geo.g5
  have hg3 := h.geo.g3
  have ho := h.ti.ok ino h1 h2
  have HH := Lib.hid (inode_had_ok h h1 h2 hkd)
  have hbitx : ∀ b ∈ (T ino).blks, bitC C mat (b - lo) = true := fun b hb => by
    have hr := ho.rng b hb
    exact (h.ti.bit (b - lo) (by omega)).2 ⟨ino, h1, h2, by rw [show lo + (b - lo) = b by omega]; exact hb⟩
  have HFit := Lib.hid (fun (W : World) (hk : Kp (fun _ => False) w W) (A : Option Addr) (c : Nat) (hown : W.ownsRow w.heap.size 3 1 (.slice A (T ino).l.length c) (T ino).l.length (ints (natI (T ino).l))) =>
    inode_fit (x := T ino) (hk.blk h.blk (fun h => h)) h.out ((h.kp0 hk).map) (Nat.le_trans hN hk.size) hN hk.size h.geo hown (fun g hg hF => by have := (hown.lt g hg).1; have := h.map.rep.disk.lt g hF; omega) ho hbitx 0 (by omega) (fun _ => rfl) (by show bks 0 ≤ _; exact Nat.zero_le _) hr (fun b hb => List.mem_append_left _ (mem_mapW.2 hb)))
  have HH0 := Lib.hid h
  have HR := Lib.hid hr
  have hbt := h.out
  have hbtl := lt_blk h.blk
  clear h ho hkd hr hbitx
  generalize hxx : T ino = x at *
  have Hxx := Lib.hid hxx
  clear hxx
  go_enter Tryz.func21, Tryz.ntmps21
  go_wp2_with fail
  refine HH.out.mono ?_
  rintro e w3 ⟨A, c, rfl, hown, hk3⟩
  have hka := (Kp.refl (fun _ => False) w3).alloc (.cells #[.int .i64 x.kind, .int .i64 x.size, .slice A x.l.length c, .int .i64 x.more] 94)
  have Hown4 := Lib.hid (own_kp0 hown hka)
  have HK := Lib.hid (hk3.trans hka (Gr.refl _ _))
  have Hp := Lib.hid (new_blk w3 (.cells #[.int .i64 x.kind, .int .i64 x.size, .slice A x.l.length c, .int .i64 x.more] 94))
  have hqw := hk3.size
  have Hq4 := Lib.hid (size_alloc w3 (.cells #[.int .i64 x.kind, .int .i64 x.size, .slice A x.l.length c, .int .i64 x.more] 94))
  clear hown hk3 HH hka
  go_upto_region 2 with fail
  generalize w3.alloc (.cells #[.int .i64 x.kind, .int .i64 x.size, .slice A x.l.length c, .int .i64 x.more] 94) = w4 at *
  generalize w3.heap.size = q at *
  have c0 := cell_blk Hp.out 0
  have c1 := cell_blk Hp.out 1
  have c2 := cell_blk Hp.out 2
  have c3 := cell_blk Hp.out 3
  simp at c0 c1 c2 c3
  go_wp2_with fail
  refine (HFit.out _ HK.out A c Hown4.out).mono ?_
  rintro e w5 ⟨x', A', c', C1, F1, rfl, hR⟩
  have hqF : ¬ F q := fun hF => by have := HH0.out.map.rep.disk.lt q hF; omega
  have hq4 : q < w4.heap.size := by rw [Hq4.out]; omega
  have Hp5 := Lib.hid (hR.kp.blk Hp.out (fun h => by rcases h with h | h; exact hqF h; exact own_ne Hown4.out Hp.out (by decide) _ h rfl))
  have Hn0 := Lib.hid (hR.gr.not hqF hq4)
  have HRR := Lib.hid hR
  clear hR c0 c1 c2 c3 HFit
  have c0 := cell_blk Hp5.out 0
  have c1 := cell_blk Hp5.out 1
  have c2 := cell_blk Hp5.out 2
  have c3 := cell_blk Hp5.out 3
  have f0 := frozen_blk Hp5.out 0
  have f1 := frozen_blk Hp5.out 1
  have f2 := frozen_blk Hp5.out 2
  have f3 := frozen_blk Hp5.out 3
  simp at c0 c1 c2 c3
  go_upto_region 5 with fail
  have hk6 := set4_kp (a' := .int .i64 x'.kind) (b' := .int .i64 x'.size) (c' := .slice A' x'.l.length c') (d' := .int .i64 x'.more) (Kp.refl (fun k => k = q) w5) (.inl rfl)
  have Hk6 := Lib.hid hk6
  clear hk6 c0 c1 c2 c3 f0 f1 f2 f3
  generalize ((((w5.setCell ⟨q, 0, none⟩ (.int .i64 x'.kind)).setCell ⟨q, 1, none⟩ (.int .i64 x'.size)).setCell ⟨q, 2, none⟩ (.slice A' x'.l.length c')).setCell ⟨q, 3, none⟩ (.int .i64 x'.more)) = w6 at *
  have hN1 : NG ≤ w.heap.size := hN
  have hqw' : w.heap.size ≤ q := hqw
  have Hm6 := Lib.hid (show MapOn w6 bx bc bj bm bd mat lo nbl C1 F1 from by
    have hm := HRR.out.map
    have hbxl := lt_blk HH0.out.map.blk
    exact ⟨Hk6.out.blk hm.blk (by omega), hm.out, hm.rep.kp Hk6.out (fun i hi e => Hn0.out (by have : i = q := e; exact this ▸ hi)) (fun i e => by have : i = q := e; omega), hm.live, hm.vb, hm.n1, hm.n2, hm.inb, hm.far⟩)
  have Hkk := Lib.hid (show Kp F w w6 from by
    have h5 : Kp F w w5 := Kp.trans (F1 := fun k => F k ∨ (Value.slice A x.l.length c).ownBlock = some k) (HK.out.mono (fun _ h => h.elim)) HRR.out.kp (fun k hk => by rcases hk with h | h; exact .inl h; exact .inr (Hown4.out.lt k h).1)
    exact h5.trans Hk6.out (fun i e => .inr (by have : i = q := e; omega)))
  have Hgg := Lib.hid (show Gr F F1 w.heap.size from HRR.out.gr.mono HK.out.size)
  have hsz0 : x'.l = [] ∧ x'.more = 0 := by
    have hl := HRR.out.ok.len
    rw [HRR.out.sz] at hl
    have hl0 : x'.l.length = 0 := hl
    exact ⟨List.eq_nil_of_length_eq_zero hl0, HRR.out.ok.more.2 (by omega)⟩
  have hb0 : x'.blks = [] := by unfold Nd.blks; rw [hsz0.1, hsz0.2]; rfl
  have Hfit0 := Lib.hid (show Fit C C1 mat lo nbl x Nd.zero from ⟨fun j hj => by have := HRR.out.fit.bit j hj; rw [hb0] at this; exact this, (fun b hb => by rw [zero_blks] at hb; cases hb), (by rw [zero_blks]; exact List.nodup_nil), (fun b hb => by rw [zero_blks] at hb; cases hb)⟩)
  have Hcs0 := Lib.hid (show CS (fun no => IsM mat nbl no ∨ no ∈ Nd.zero.blks) C C1 from HRR.out.cs.mono (fun no h => by rcases h with h | ⟨h, _⟩; exact .inl h; rw [hb0] at h; cases h))
  have hbtF : ¬ (fun k => F k) bt := hbt
  have HTW := Lib.hid (tab_write (w := w6) (F1 := F1) (x' := Nd.zero) (Hkk.out.blk HH0.out.blk hbt) (Hgg.out.not hbt hbtl) Hm6.out HH0.out.geo HH0.out.ti h1 h2 (by rw [Hxx.out]; exact Hfit0.out) (NdOk.zero' _ _) Hcs0.out HR.out (.slice none 0 0) (slI_nil w6))
  clear hsz0 hb0
  go_wp2_with fail
  refine HTW.out.mono ?_
  rintro e w7 ⟨rfl, F7, hT7, hk7, hg7⟩
  have HT7 := Lib.hid hT7
  have Hk7 := Lib.hid hk7
  have Hg7 := Lib.hid hg7
  clear hT7 hk7 hg7
  go_wp2_with fail
  refine (inode_told (ino : Int) .nilIface none _ HT7.out.gl (by omega) (by omega) rfl).mono ?_
  rintro e w8 ⟨v8, rfl, hv8, hk8⟩
  obtain rfl : v8 = .nilIface := hv8
  have Hk8 := Lib.hid hk8
  clear hk8
  go_wp2_with fail
  go_ret
  have hcn : CS (fun no => no = at_ + ino - 1 ∨ no ∈ Nd.zero.blks) C1 (C1.nodeW at_ ino Nd.zero) := (nodeW_cs C1 at_ ino Nd.zero).mono (fun no h => by rcases h with h | ⟨h8, _⟩; exact .inl h; exact absurd h8 (by simp [Nd.zero]))
  refine ⟨rfl, _, F7, HT7.out.kp0 Hk8.out, fun k k1 k2 hne => ?_, ?_, ?_, ?_⟩
  · exact HH0.out.ti.data HH0.out.geo h1 h2 (by rw [Hxx.out]; exact Hfit0.out) Hcs0.out hcn k1 k2 hne
  · exact (Hcs0.out.mono (fun no h => by rcases h with h | h; exact .inl h; rw [zero_blks] at h; cases h)).trans (hcn.mono (fun no h => by rcases h with h | h; exact .inr h; rw [zero_blks] at h; cases h))
  · exact (Hkk.out.trans Hk7.out Hgg.out).trans (F1 := fun _ => False) Hk8.out (fun _ h => h.elim)
  · exact Hgg.out.trans Hg7.out Hkk.out.size
end Go.Proofs.YthjbpbahcemfgaaGreatDoor
namespace Go.Proofs.YthjbpbahcemfgaaGreatDoor
set_option linter.unusedVariables false
set_option linter.unusedSimpArgs false
open Go.RowKit
set_option maxHeartbeats 4000000
set_option maxRecDepth 20000
variable {w : World} {bt bx bc bj bm bd at_ n mat lo nbl : Nat} {C : CSt} {F : Nat → Prop} {T : Nat → Nd}

theorem inode_Write_full (h : Tab w bt bx bc bj bm bd at_ n mat lo nbl C F T) {ino p : Nat} (h1 : 1 ≤ ino) (h2 : ino ≤ n) (hkd : (T ino).kind ≠ 0) (v : Value) (ys : List Int) (hv : Sl w v ys) (hyb : Byt ys) (hy0 : ys ≠ []) (hp : p + ys.length ≤ 4000) (hfull : frees (bitC C mat) nbl < bks (max (T ino).size (p + ys.length)) - bks (T ino).size) :
    Calls Tryz.prog 23 #[.pointer (some ⟨bt, 0, none⟩), .int .i64 ino, .int .i64 p, v] w fun e w' => ∃ u, e = .returned u ∧ IsErr w' u [(tx [105, 110, 111, 100, 101], tx (Lib.itoa ino))] 15 ∧ Kp (fun _ => False) w w' := by
  have hg5 := h.geo.g5
  have hdl := data_len h h1 h2
  have hdb := data_byt h h1 h2
  have ho := h.ti.ok ino h1 h2
  have hg3 := h.geo.g3
  have HH := Lib.hid (inode_had_ok h h1 h2 hkd)
  have HB := Lib.hid (fun (W : World) (hk : Kp (fun _ => False) w W) (lv : Value) (hl : SlI W lv (natI (T ino).l)) => inode_bytes (hk.blk h.blk (fun h => h)) (h.map.rep.kp0 hk) h.map.live (T ino) lv hl (by have := ho.len32; omega) (fun b hb => by have := ho.rng b (Nd.mem_l hb); omega) (by rw [ho.len]; unfold dat; omega))
  have hsz := ho.size
  obtain ⟨Av, cv, rfl, hv1, hv2, hv3⟩ := id hv
  have hylen : 0 < ys.length := List.length_pos_iff.2 hy0
  have HT := Lib.hid (fun (W : World) (hk : Kp (fun _ => False) w W) (A : Option Addr) (c N fr : Nat) (R : List Int) (hRow : RowE W N R) (hRl : R.length = (max (T ino).size (p + ys.length))) =>
    inode_set_full (h.kp0 hk) (T ino) (.slice A (T ino).l.length c) (.slice (some ⟨N, 0, none⟩) R.length R.length) R (ino := (ino : Int)) (fr := (fr : Int)) ho.size ⟨_, _, _, rfl⟩ (hRow.sl (by unfold maxLen; omega)) (by omega) (by rw [hRl]; exact hfull))
  have Hdl := Lib.hid hdl
  have HG := Lib.hid h.gl
  clear h ho hkd hdl hdb hv3 hfull hyb hy0 hg3
  generalize hd : dataOf C.view (T ino) = d at *
  clear hd
  generalize hxx : T ino = x at *
  clear hxx
  obtain ⟨m, hm⟩ : ∃ m, m = ys.length := ⟨_, rfl⟩
  rw [← hm] at hv1 hp hylen HT hv ⊢
  have Hv := Lib.hid hv
  clear hv
  have Hm := Lib.hid hm
  clear hm
  have hp0 : (0 : Int) ≤ (p : Int) := by omega
  have hp4 : ¬ (4000 : Int) < (p : Int) := by omega
  have hp5 : ¬ (4000 : Int) - (p : Int) < (m : Int) := by omega
  have hm0 : ¬ (m : Int) = 0 := by omega
  have hmb : ((m : Int) == 0) = false := by simpa using hm0
  go_enter Tryz.func23, Tryz.ntmps23
  go_wp2_with fail
  refine HH.out.mono ?_
  rintro e w3 ⟨A, c, rfl, hown, hk3⟩
  have hka := (Kp.refl (fun _ => False) w3).alloc (.cells #[.int .i64 x.kind, .int .i64 x.size, .slice A x.l.length c, .int .i64 x.more] 94)
  have Hown4 := Lib.hid (own_kp0 hown hka)
  have HK := Lib.hid (hk3.trans hka (Gr.refl _ _))
  have Hp := Lib.hid (new_blk w3 (.cells #[.int .i64 x.kind, .int .i64 x.size, .slice A x.l.length c, .int .i64 x.more] 94))
  clear hown hk3 HH hka
  go_upto_region 2 with fail
  generalize w3.alloc (.cells #[.int .i64 x.kind, .int .i64 x.size, .slice A x.l.length c, .int .i64 x.more] 94) = w4 at *
  generalize w3.heap.size = q at *
  have c0 := cell_blk Hp.out 0
  have c1 := cell_blk Hp.out 1
  have c2 := cell_blk Hp.out 2
  have c3 := cell_blk Hp.out 3
  simp at c0 c1 c2 c3
  go_wp2_with fail
  refine (HB.out _ HK.out _ (own_slI Hown4.out).1).mono ?_
  rintro e w5 ⟨A5, c5, rfl, hsl, hk5, hb5⟩
  have Hsl := Lib.hid hsl
  have Hk5 := Lib.hid (HK.out.trans hk5 (Gr.refl _ _))
  have Hp5 := Lib.hid (hk5.blk Hp.out (fun h => h))
  have Hown5 := Lib.hid (own_kp0 Hown4.out hk5)
  clear hsl hk5 hb5 c0 c1 c2 c3 Hp HK Hown4 HB
  obtain ⟨M, hM⟩ : ∃ M, M = max x.size (p + m) := ⟨_, rfl⟩
  have e1 : max (x.size : Int) ((p : Int) + (m : Int)) = (M : Int) := by omega
  have hM4 : M ≤ 4000 := by omega
  have hMx : x.size ≤ M ∧ p + m ≤ M := by omega
  rw [← hM] at HT
  have HM := Lib.hid hM
  clear hM
  have c0 := cell_blk Hp5.out 0
  have c1 := cell_blk Hp5.out 1
  have c2 := cell_blk Hp5.out 2
  have c3 := cell_blk Hp5.out 3
  simp at c0 c1 c2 c3
  have e2 : (min (p : Int) (x.size : Int)) = ((min p x.size : Nat) : Int) := by omega
  have E2 := Lib.hid e2
  obtain ⟨N, hNw⟩ : ∃ N, N = w5.heap.size := ⟨_, rfl⟩
  have HNw := Lib.hid hNw
  have hlN : w.heap.size ≤ N := by rw [hNw]; exact Hk5.out.size
  clear hNw e2
  have B0 := Lib.hid c0
  have B1 := Lib.hid c1
  have B2 := Lib.hid c2
  have B3 := Lib.hid c3
  have e2 := E2.out
  have Hl1 := Lib.hid (grow_len d M (by rw [Hdl.out]; omega))
  go_wp2_with (first
    | (at_make; refine wpList_makeNg rfl _ _ rfl M rfl rfl (by omega) N HNw.out.symm ?_; intro w6 hk6 hr6 hz6; have Hr6 := Lib.hid hr6; have Hk6 := Lib.hid hk6; replace c0 := hk6.cell c0 (fun h => h); replace c1 := hk6.cell c1 (fun h => h); replace c2 := hk6.cell c2 (fun h => h); replace c3 := hk6.cell c3 (fun h => h); clear hr6 hk6 hz6 e1)
    | ((with_reducible refine at_slice rfl ?_); refine wpList_slice_run rfl _ _ _ _ _ rfl _ _ _ _ _ rfl rfl rfl rfl (run_slice_b (k := p) rfl (by omega) (by omega) (by omega)) ?_; rw [add0])
    | ((with_reducible refine at_copy rfl ?_); (refine wpList_copyB rfl _ _ rfl _ _ _ rfl _ rfl N 0 (zs M) d Hr6.out (Hsl.out.kp Hk6.out (fun _ _ h => h)) (fun _ => rfl) (by rw [zs_length, Nat.zero_add]; exact Nat.min_le_right _ _) ?_); intro w7 hk7 hz7 hr7; rw [List.take_of_length_le (by rw [Hdl.out]; omega)] at hr7; have Hr7 := Lib.hid hr7; have hkn7 : Kp (fun _ => False) w5 w7 := Hk6.out.over hk7 (fun i e => by have e' : i = N := e; have := HNw.out; omega); have Hk7 := Lib.hid hkn7; have hqN : q < N := by have := HNw.out; have := lt_blk Hp5.out; omega)
    | ((with_reducible refine at_copy rfl ?_); (refine wpList_copyB rfl _ _ rfl _ _ _ rfl _ rfl N p (splice (zs M) 0 d) ys Hr7.out (Hv.out.kp (Hk5.out.trans Hk7.out (Gr.refl _ _)) (fun _ _ h => h)) (fun _ => rfl) (by rw [Hl1.out]; have := nmin_l ys.length (M - p); have := Hm.out; omega) ?_); intro w8 hk8 hz8 hr8; rw [List.take_of_length_le (by have := Hm.out; omega)] at hr8; have Hr8 := Lib.hid hr8; have hkn8 : Kp (fun _ => False) w5 w8 := Hk7.out.over hk8 (fun i e => by have e' : i = N := e; have := HNw.out; omega); have Hk8 := Lib.hid hkn8; have c0 := hkn8.cell B0.out (fun h => h); have c1 := hkn8.cell B1.out (fun h => h); have c2 := hkn8.cell B2.out (fun h => h); have c3 := hkn8.cell B3.out (fun h => h); clear hk8 hz8 hr8 hkn8))
  have Hown8 := Lib.hid (own_kp0 Hown5.out Hk8.out)
  have Hw8 := Lib.hid (Hk5.out.trans Hk8.out (Gr.refl _ _))
  have HRl := Lib.hid (show (splice (splice (zs M) 0 d) p ys).length = M by rw [splice_len _ _ _ (by rw [Hl1.out]; have := Hm.out; omega), Hl1.out])
  have HRe := Lib.hid (show splice (splice (zs M) 0 d) p ys = wrAt d p ys by unfold wrAt; rw [Hdl.out, ← Hm.out, ← HM.out])
  have HS := Lib.hid (show Calls Tryz.prog 57 #[.pointer (some ⟨bt, 0, none⟩), .int .i64 ino, .agg #[.int .i64 x.kind, .int .i64 x.size, .slice A x.l.length c, .int .i64 x.more], .int .i64 ((min p x.size : Nat) : Int), .slice (some ⟨N, 0, none⟩) M M] w8 (fun e w' => ∃ u, e = .returned u ∧ IsErr w' u [] 15 ∧ Kp (fun _ => False) w8 w') from by
    have h := HT.out w8 Hw8.out A c N (min p x.size) _ Hr8.out (by rw [HRl.out])
    rw [HRl.out] at h
    exact h)
  refine HS.out.mono ?_
  rintro e w9 ⟨u9, rfl, hu9, hk9⟩
  have Hu9 := Lib.hid hu9
  have Hk9 := Lib.hid (Hw8.out.trans hk9 (Gr.refl _ _))
  obtain ⟨t9, x9, rfl⟩ := hu9.iface
  clear hu9 hk9
  go_wp2_with fail
  refine (inode_told (ino : Int) _ (some ([], 15)) _ (HG.out.kp Hk9.out Hi.none) (by omega) (by omega) Hu9.out).mono ?_
  rintro e w10 ⟨v10, rfl, hv10, hk10⟩
  have Hv10 := Lib.hid hv10
  have Hk10 := Lib.hid (Hk9.out.trans hk10 (Gr.refl _ _))
  clear hk10 hv10
  go_wp2_with fail
  go_ret
  exact ⟨v10, rfl, Hv10.out, Hk10.out⟩
theorem inode_Cut_full (h : Tab w bt bx bc bj bm bd at_ n mat lo nbl C F T) {ino M : Nat} (h1 : 1 ≤ ino) (h2 : ino ≤ n) (hkd : (T ino).kind ≠ 0) (hM4 : M ≤ 4000) (hfull : frees (bitC C mat) nbl < bks M - bks (T ino).size) :
    Calls Tryz.prog 25 #[.pointer (some ⟨bt, 0, none⟩), .int .i64 ino, .int .i64 M] w fun e w' => ∃ u, e = .returned u ∧ IsErr w' u [(tx [105, 110, 111, 100, 101], tx (Lib.itoa ino))] 15 ∧ Kp (fun _ => False) w w' := by
  have hg5 := h.geo.g5
  have hdl := data_len h h1 h2
  have hdb := data_byt h h1 h2
  have ho := h.ti.ok ino h1 h2
  have hg3 := h.geo.g3
  have HH := Lib.hid (inode_had_ok h h1 h2 hkd)
  have HB := Lib.hid (fun (W : World) (hk : Kp (fun _ => False) w W) (lv : Value) (hl : SlI W lv (natI (T ino).l)) => inode_bytes (hk.blk h.blk (fun h => h)) (h.map.rep.kp0 hk) h.map.live (T ino) lv hl (by have := ho.len32; omega) (fun b hb => by have := ho.rng b (Nd.mem_l hb); omega) (by rw [ho.len]; unfold dat; omega))
  have hsz := ho.size
  have HT := Lib.hid (fun (W : World) (hk : Kp (fun _ => False) w W) (A : Option Addr) (c N fr : Nat) (R : List Int) (hRow : RowE W N R) (hRl : R.length = M) =>
    inode_set_full (h.kp0 hk) (T ino) (.slice A (T ino).l.length c) (.slice (some ⟨N, 0, none⟩) R.length R.length) R (ino := (ino : Int)) (fr := (fr : Int)) ho.size ⟨_, _, _, rfl⟩ (hRow.sl (by unfold maxLen; omega)) (by omega) (by rw [hRl]; exact hfull))
  have Hdl := Lib.hid hdl
  have HG := Lib.hid h.gl
  clear h ho hkd hdl hdb hfull hg3
  generalize hd : dataOf C.view (T ino) = d at *
  clear hd
  generalize hxx : T ino = x at *
  clear hxx
  have hp0 : (0 : Int) ≤ (M : Int) := by omega
  have hp4 : ¬ (4000 : Int) < (M : Int) := by omega
  go_enter Tryz.func25, Tryz.ntmps25
  go_wp2_with fail
  refine HH.out.mono ?_
  rintro e w3 ⟨A, c, rfl, hown, hk3⟩
  have hka := (Kp.refl (fun _ => False) w3).alloc (.cells #[.int .i64 x.kind, .int .i64 x.size, .slice A x.l.length c, .int .i64 x.more] 94)
  have Hown4 := Lib.hid (own_kp0 hown hka)
  have HK := Lib.hid (hk3.trans hka (Gr.refl _ _))
  have Hp := Lib.hid (new_blk w3 (.cells #[.int .i64 x.kind, .int .i64 x.size, .slice A x.l.length c, .int .i64 x.more] 94))
  clear hown hk3 HH hka
  go_upto_region 2 with fail
  generalize w3.alloc (.cells #[.int .i64 x.kind, .int .i64 x.size, .slice A x.l.length c, .int .i64 x.more] 94) = w4 at *
  generalize w3.heap.size = q at *
  have c0 := cell_blk Hp.out 0
  have c1 := cell_blk Hp.out 1
  have c2 := cell_blk Hp.out 2
  have c3 := cell_blk Hp.out 3
  simp at c0 c1 c2 c3
  go_wp2_with fail
  refine (HB.out _ HK.out _ (own_slI Hown4.out).1).mono ?_
  rintro e w5 ⟨A5, c5, rfl, hsl, hk5, hb5⟩
  have Hsl := Lib.hid hsl
  have Hk5 := Lib.hid (HK.out.trans hk5 (Gr.refl _ _))
  have Hp5 := Lib.hid (hk5.blk Hp.out (fun h => h))
  have Hown5 := Lib.hid (own_kp0 Hown4.out hk5)
  clear hsl hk5 hb5 c0 c1 c2 c3 Hp HK Hown4 HB
  have c0 := cell_blk Hp5.out 0
  have c1 := cell_blk Hp5.out 1
  have c2 := cell_blk Hp5.out 2
  have c3 := cell_blk Hp5.out 3
  simp at c0 c1 c2 c3
  have e2 : (min (M : Int) (x.size : Int)) = ((min M x.size : Nat) : Int) := by omega
  have E2 := Lib.hid e2
  obtain ⟨N, hNw⟩ : ∃ N, N = w5.heap.size := ⟨_, rfl⟩
  have HNw := Lib.hid hNw
  have hlN : w.heap.size ≤ N := by rw [hNw]; exact Hk5.out.size
  clear hNw e2
  have B0 := Lib.hid c0
  have B1 := Lib.hid c1
  have B2 := Lib.hid c2
  have B3 := Lib.hid c3
  have e2 := E2.out
  go_wp2_with (first
    | (at_make; refine wpList_makeNg rfl _ _ rfl M rfl rfl (by omega) N HNw.out.symm ?_; intro w6 hk6 hr6 hz6; have Hr6 := Lib.hid hr6; have Hk6 := Lib.hid hk6; replace c0 := hk6.cell c0 (fun h => h); replace c1 := hk6.cell c1 (fun h => h); replace c2 := hk6.cell c2 (fun h => h); replace c3 := hk6.cell c3 (fun h => h); clear hr6 hk6 hz6)
    | ((with_reducible refine at_copy rfl ?_); (refine wpList_copyB rfl _ _ rfl _ _ _ rfl _ rfl N 0 (zs M) d Hr6.out (Hsl.out.kp Hk6.out (fun _ _ h => h)) (fun _ => rfl) (by rw [zs_length, Nat.zero_add]; exact Nat.min_le_right _ _) ?_); intro w8 hk8 hz8 hr8; have Hr8 := Lib.hid hr8; have hkn8 : Kp (fun _ => False) w5 w8 := Hk6.out.over hk8 (fun i e => by have e' : i = N := e; have := HNw.out; omega); have Hk8 := Lib.hid hkn8; have c0 := hkn8.cell B0.out (fun h => h); have c1 := hkn8.cell B1.out (fun h => h); have c2 := hkn8.cell B2.out (fun h => h); have c3 := hkn8.cell B3.out (fun h => h); clear hk8 hz8 hr8 hkn8))
  have Hown8 := Lib.hid (own_kp0 Hown5.out Hk8.out)
  have Hw8 := Lib.hid (Hk5.out.trans Hk8.out (Gr.refl _ _))
  have HRl := Lib.hid (show (splice (zs M) 0 (d.take M)).length = M from cutAt_len d M)
  have HRe := Lib.hid (show splice (zs M) 0 (d.take M) = cutAt d M from rfl)
  have HS := Lib.hid (show Calls Tryz.prog 57 #[.pointer (some ⟨bt, 0, none⟩), .int .i64 ino, .agg #[.int .i64 x.kind, .int .i64 x.size, .slice A x.l.length c, .int .i64 x.more], .int .i64 ((min M x.size : Nat) : Int), .slice (some ⟨N, 0, none⟩) M M] w8 (fun e w' => ∃ u, e = .returned u ∧ IsErr w' u [] 15 ∧ Kp (fun _ => False) w8 w') from by
    have h := HT.out w8 Hw8.out A c N (min M x.size) _ Hr8.out HRl.out
    rw [HRl.out] at h
    exact h)
  refine HS.out.mono ?_
  rintro e w9 ⟨u9, rfl, hu9, hk9⟩
  have Hu9 := Lib.hid hu9
  have Hk9 := Lib.hid (Hw8.out.trans hk9 (Gr.refl _ _))
  obtain ⟨t9, x9, rfl⟩ := hu9.iface
  clear hu9 hk9
  go_wp2_with fail
  refine (inode_told (ino : Int) _ (some ([], 15)) _ (HG.out.kp Hk9.out Hi.none) (by omega) (by omega) Hu9.out).mono ?_
  rintro e w10 ⟨v10, rfl, hv10, hk10⟩
  have Hv10 := Lib.hid hv10
  have Hk10 := Lib.hid (Hk9.out.trans hk10 (Gr.refl _ _))
  clear hk10 hv10
  go_wp2_with fail
  go_ret
  exact ⟨v10, rfl, Hv10.out, Hk10.out⟩
end Go.Proofs.YthjbpbahcemfgaaGreatDoor
namespace Go.Proofs.YthjbpbahcemfgaaGreatDoor
set_option linter.unusedVariables false
set_option linter.unusedSimpArgs false
open Go.RowKit
set_option maxHeartbeats 2000000
set_option maxRecDepth 20000
variable {w wr : World} {bt bx bc bj bm bd at_ n mat lo nbl : Nat} {C : CSt} {F : Nat → Prop} {T : Nat → Nd} {R : Nat → Nat × List Int}

theorem inode_Free_err {ino k : Int} (h : Calls Tryz.prog 43 #[.pointer (some ⟨bt, 0, none⟩), .int .i64 ino, .bool true] w fun e w' => ∃ v, e = .returned (.tuple #[.agg #[.int .i64 0, .int .i64 0, .slice none 0 0, .int .i64 0], v]) ∧ IsErr w' v [(tx [105, 110, 111, 100, 101], tx (Lib.itoa ino))] k ∧ Kp (fun _ => False) w w') :
    Calls Tryz.prog 21 #[.pointer (some ⟨bt, 0, none⟩), .int .i64 ino] w fun e w' => ∃ v, e = .returned v ∧ IsErr w' v [(tx [105, 110, 111, 100, 101], tx (Lib.itoa ino))] k ∧ Kp (fun _ => False) w w' := by
  have HR := Lib.hid h
  clear h
  go_enter Tryz.func21, Tryz.ntmps21
  go_wp2_with fail
  refine HR.out.mono ?_
  rintro e w3 ⟨v, rfl, hv, hk3⟩
  obtain ⟨t, x, rfl⟩ := hv.iface
  have hka := (Kp.refl (fun _ => False) w3).alloc (.cells #[.int .i64 0, .int .i64 0, .slice none 0 0, .int .i64 0] 94)
  have Hk3 := Lib.hid (hk3.trans hka (Gr.refl _ _))
  have Hv := Lib.hid (hv.kp hka (FCl.none _))
  clear hv hk3 HR hka
  go_wp2_with fail
  go_ret
  exact ⟨_, rfl, Hv.out, Hk3.out⟩
theorem inode_Free_none (h : Tab w bt bx bc bj bm bd at_ n mat lo nbl C F T) {ino : Nat} (h1 : 1 ≤ ino) (h2 : ino ≤ n) (hkd : (T ino).kind = 0) :
    Calls Tryz.prog 21 #[.pointer (some ⟨bt, 0, none⟩), .int .i64 ino] w fun e w' => ∃ v, e = .returned v ∧ IsErr w' v [(tx [105, 110, 111, 100, 101], tx (Lib.itoa ino))] 11 ∧ Kp (fun _ => False) w w' :=
  inode_Free_err (inode_had_none h h1 h2 hkd)
theorem it_freeNone (h : IT w bt bx bc bj bm bd nbl R F wr) {ino : Nat} (h1 : 1 ≤ ino) (h2 : ino ≤ 6) (hk : (R ino).1 = 0) :
    Calls Tryz.prog 21 #[.pointer (some ⟨bt, 0, none⟩), .int .i64 ino] wr fun e w' => ∃ v, e = .returned v ∧ IsErr w' v [(tx [105, 110, 111, 100, 101], tx (Lib.itoa ino))] 11 ∧ Kp (fun _ => False) wr w' := by
  obtain ⟨⟨C, T, ht, hR, hC⟩, h3, h4, h5, h6⟩ := h
  exact inode_Free_none ht h1 h2 (by rw [(hR ino h1 h2).1]; exact hk)
theorem it_freeIno (h : IT w bt bx bc bj bm bd nbl R F wr) {ino : Nat} (h1 : 1 ≤ ino) (h2 : ino ≤ 6) (hk : (R ino).1 ≠ 0) :
    Calls Tryz.prog 21 #[.pointer (some ⟨bt, 0, none⟩), .int .i64 ino] wr fun e w' => e = .returned .nilIface ∧ ∃ F', IT w bt bx bc bj bm bd nbl (setR R ino (0, [])) F' w' ∧ Kp F wr w' ∧ Gr F F' wr.heap.size := by
  obtain ⟨⟨C, T, ht, hR, hC⟩, h3, h4, h5, h6⟩ := h
  refine (inode_Free_ok ht h1 h2 (Nat.le_trans h6 h3.size) (by rw [(hR ino h1 h2).1]; exact hk) (it_room hC.1 hC.2.1 h5 h2)).mono ?_
  rintro e w' ⟨rfl, C', F', hs⟩
  refine ⟨rfl, F', ⟨⟨C', setT T ino Nd.zero, hs.tab, fun k k1 k2 => ?_, fun x hx => ?_, by rw [hs.cs.mo]; exact hC.2.1, by rw [hs.cs.ja]; exact hC.2.2.1, by rw [hs.cs.bl]; exact hC.2.2.2.1, by rw [hs.cs.D]; exact hC.2.2.2.2.1, by rw [hs.cs.D]; exact hC.2.2.2.2.2⟩, h3.over hs.kp h4, hs.gr.over h4 h3.size, h5, h6⟩, hs.kp, hs.gr⟩
  · by_cases e : k = ino
    · subst e
      rw [setT_same, setR_same]
      exact ⟨rfl, rfl⟩
    · rw [setT_other _ _ e, setR_other _ _ e, hs.rest k k1 k2 e]
      exact hR k k1 k2
  · rcases hs.cs.ch x hx with h | h | h
    · exact hC.1 x h
    · unfold IsM nb at h; omega
    · omega
theorem it_makeFull (h : IT w bt bx bc bj bm bd nbl R F wr) {kd : Nat} (hl : ∀ j, 1 ≤ j → j ≤ 6 → (R j).1 ≠ 0) (hk : kd = 1 ∨ kd = 2) :
    Calls Tryz.prog 19 #[.pointer (some ⟨bt, 0, none⟩), .int .i64 kd] wr fun e w' => ∃ v, e = .returned (.tuple #[.int .i64 0, v]) ∧ IsErr w' v [(tx [105, 110, 111, 100, 101], tx [])] 16 ∧ Kp (fun _ => False) wr w' := by
  obtain ⟨⟨C, T, ht, hR, hC⟩, h3, h4, h5, h6⟩ := h
  refine (inode_Make_of (R := fun x y w' => x = .int .i64 0 ∧ IsErr w' y [(tx [105, 110, 111, 100, 101], tx [])] 16 ∧ Kp (fun _ => False) wr w') (kd := (kd : Int)) (by omega) ((inode_take_full ht (fun j j1 j2 => by rw [(hR j j1 j2).1]; exact hl j j1 j2)).mono ?_)).mono ?_
  · rintro e w' ⟨v, rfl, a, b⟩
    exact ⟨_, v, rfl, rfl, a, b⟩
  · rintro e w' ⟨x, y, rfl, rfl, a, b⟩
    exact ⟨y, rfl, a, b⟩
end Go.Proofs.YthjbpbahcemfgaaGreatDoor
namespace Go.Proofs.YthjbpbahcemfgaaGreatDoor
set_option linter.unusedVariables false
set_option linter.unusedSimpArgs false
open Go.RowKit
set_option maxHeartbeats 2000000
set_option maxRecDepth 20000
variable {w wr : World} {bt bx bc bj bm bd nbl : Nat} {F : Nat → Prop} {R : Nat → Nat × List Int}

theorem it_writeFull (h : IT w bt bx bc bj bm bd nbl R F wr) {ino p : Nat} (h1 : 1 ≤ ino) (h2 : ino ≤ 6) (hk : (R ino).1 ≠ 0) (v : Value) (ys : List Int) (hv : Sl wr v ys) (hyb : Byt ys) (hy0 : ys ≠ []) (hp : p + ys.length ≤ 4000) (hfull : nbl + bks (R ino).2.length < usedR R 6 + bks (max (R ino).2.length (p + ys.length))) :
    Calls Tryz.prog 23 #[.pointer (some ⟨bt, 0, none⟩), .int .i64 ino, .int .i64 p, v] wr fun e w' => ∃ u, e = .returned u ∧ IsErr w' u [(tx [105, 110, 111, 100, 101], tx (Lib.itoa ino))] 15 ∧ Kp (fun _ => False) wr w' := by
  obtain ⟨⟨C, T, ht, hR, hC⟩, h3, h4, h5, h6⟩ := h
  obtain ⟨e1, e2⟩ := hR ino h1 h2
  have hdl := data_len ht h1 h2
  have hu := it_used ht hR
  rw [e2] at hdl
  rw [hdl] at hfull
  exact inode_Write_full ht h1 h2 (by rw [e1]; exact hk) v ys hv hyb hy0 hp (by omega)
theorem it_cutFull (h : IT w bt bx bc bj bm bd nbl R F wr) {ino M : Nat} (h1 : 1 ≤ ino) (h2 : ino ≤ 6) (hk : (R ino).1 ≠ 0) (hM : M ≤ 4000) (hfull : nbl + bks (R ino).2.length < usedR R 6 + bks M) :
    Calls Tryz.prog 25 #[.pointer (some ⟨bt, 0, none⟩), .int .i64 ino, .int .i64 M] wr fun e w' => ∃ u, e = .returned u ∧ IsErr w' u [(tx [105, 110, 111, 100, 101], tx (Lib.itoa ino))] 15 ∧ Kp (fun _ => False) wr w' := by
  obtain ⟨⟨C, T, ht, hR, hC⟩, h3, h4, h5, h6⟩ := h
  obtain ⟨e1, e2⟩ := hR ino h1 h2
  have hdl := data_len ht h1 h2
  have hu := it_used ht hR
  rw [e2] at hdl
  rw [hdl] at hfull
  exact inode_Cut_full ht h1 h2 (by rw [e1]; exact hk) hM (by omega)

/-- The same where nothing is changed behind the last Flush. -/
structure ITc (w : World) (bt bx bc bj bm bd nbl : Nat) (R : Nat → Nat × List Int) (F : Nat → Prop) (wr : World) : Prop where
  ex : ∃ C T, Tab wr bt bx bc bj bm bd 5 6 0 20 nbl C F T ∧ (∀ k, 1 ≤ k → k ≤ 6 → (T k).kind = (R k).1 ∧ dataOf C.view (T k) = (R k).2) ∧ C.ch = [] ∧ C.most = 80 ∧ C.jat = 120 ∧ C.blocks = 120 ∧ C.D.n = 220 ∧ C.D.fuse = -1
  kp : Kp (fun _ => False) w wr
  hi : ∀ k, F k → w.heap.size ≤ k
  few : nbl ≤ 60
  ng : NG ≤ w.heap.size
theorem ITc.kp0 {w' : World} (h : ITc w bt bx bc bj bm bd nbl R F wr) (k : Kp (fun _ => False) wr w') : ITc w bt bx bc bj bm bd nbl R F w' := by
  obtain ⟨⟨C, T, h1, h2⟩, h3, h4, h5, h6⟩ := h
  exact ⟨⟨C, T, h1.kp0 k, h2⟩, h3.trans k (Gr.refl _ _), h4, h5, h6⟩
theorem ITc.it (h : ITc w bt bx bc bj bm bd nbl R F wr) : IT w bt bx bc bj bm bd nbl R F wr := by
  obtain ⟨⟨C, T, h1, h2, hc, h7⟩, h3, h4, h5, h6⟩ := h
  exact ⟨⟨C, T, h1, h2, fun x hx => (by rw [hc] at hx; cases hx), h7⟩, h3, h4, h5, h6⟩
theorem it_flushC (h : IT w bt bx bc bj bm bd nbl R F wr) :
    Calls Tryz.prog 29 #[.pointer (some ⟨bc, 0, none⟩)] wr fun e w' => e = .returned .nilIface ∧ ∃ F', ITc w bt bx bc bj bm bd nbl R F' w' := by
  obtain ⟨⟨C, T, ht, hR, hC1, c6, c7, c8, c9, c10⟩, h3, h4, h5, h6⟩ := h
  have c1 := ht.map
  have hz : C.D.Fz := by unfold DSt.Fz; rw [c10]; omega
  have hf : C.D.fuse ≤ 0 := by rw [c10]; omega
  have hca := C.commit_alive c1.live hf
  have hfa := C.flush_alive c1.live hf
  have hrow : ∀ k, k < 120 → C.commit.2.row k = C.view k := fun k hk => C.flush_row c1.live hf c1.rep.nd k (by rw [c7]; exact hk)
  have hview : ∀ k, k < 120 → C.flush.view k = C.view k := fun k hk => by rw [hfa]; simp [CSt.view, hrow k hk]
  have hblk : C.flush.blocks = C.blocks := by rw [hfa]
  have hvw : ∀ no, no < C.blocks → C.flush.view no = C.view no := fun no hno => hview no (by rw [← c8]; exact hno)
  refine (cache_Flush c1.rep hz (by rw [c7, c8]; omega) (by rw [c7, c6, c9]; decide)).mono ?_
  rintro e w' ⟨u, rfl, hu, F', hr, hk, hg⟩
  rw [hca.1] at hu
  have hu' : u = .nilIface := hu
  subst hu'
  refine ⟨rfl, F', ⟨⟨C.flush, T, ⟨hk.blk ht.blk ht.out, hg.not ht.out (lt_blk ht.blk), c1.step hr hk hg hblk (by rw [hfa]; exact hca.2.1) (fun no hno => by rw [hvw no (by rw [hblk] at hno; exact hno)]; exact c1.vb no (by rw [hblk] at hno; exact hno)), by rw [hblk]; exact ht.geo, ht.ti.congr ht.geo hvw⟩, fun k k1 k2 => ?_, by rw [hfa], by rw [hfa]; exact c6, by rw [hfa]; exact c7, by rw [hfa]; exact c8, by rw [hfa]; exact hca.2.2.2.trans c9, by rw [hfa]; exact hca.2.2.1.trans c10⟩, h3.over hk h4, hg.over h4 h3.size, h5, h6⟩⟩
  rw [dataOf_congr ht.ti ht.geo hvw k1 k2]
  exact hR k k1 k2
theorem it_write_new {w wr : World} {bt bx bc bj bm bd nbl : Nat} {R : Nat → Nat × List Int} {F : Nat → Prop} (h : IT w bt bx bc bj bm bd nbl R F wr) {ino kd : Nat} (h1 : 1 ≤ ino) (h2 : ino ≤ 6) (hR : R ino = (kd, [])) (hk : kd ≠ 0) (v : Value) (ys : List Int) (hv : Sl wr v ys) (hyb : Byt ys) (hl : ys.length ≤ 4000) (hroom : usedR R 6 + bks ys.length ≤ nbl) :
    Calls Tryz.prog 23 #[.pointer (some ⟨bt, 0, none⟩), .int .i64 ino, .int .i64 0, v] wr fun e w' => e = .returned .nilIface ∧ ∃ F', IT w bt bx bc bj bm bd nbl (setR R ino (kd, ys)) F' w' ∧ Kp F wr w' := by
  by_cases h0 : ys = []
  · subst h0
    refine (it_write0 h (ino := ino) (p := 0) h1 h2 (by rw [hR]; exact hk) v hv (by omega)).mono ?_
    rintro e w' ⟨rfl, k⟩
    refine ⟨rfl, F, ?_⟩
    have e1 : setR R ino (kd, []) = R := by
      funext j; unfold setR; split
      · rename_i e; rw [e, hR]
      · rfl
    rw [e1]
    exact ⟨h.kp0 k, k.mono (fun _ h => h.elim)⟩
  · have e1 : max ([] : List Int).length (0 + ys.length) = ys.length := by simp
    have e2 : usedR R 6 + bks (max (R ino).2.length (0 + ys.length)) ≤ nbl + bks (R ino).2.length := by
      rw [hR]
      show usedR R 6 + bks (max ([] : List Int).length (0 + ys.length)) ≤ nbl + bks ([] : List Int).length
      rw [e1]; omega
    refine (it_write h (ino := ino) (p := 0) h1 h2 (by rw [hR]; exact hk) v ys hv hyb h0 (by omega) e2).mono ?_
    rintro e w' ⟨rfl, F', hit, hkk, -⟩
    rw [hR, show ((kd, ([] : List Int)) : Nat × List Int).2 = [] from rfl, show ((kd, ([] : List Int)) : Nat × List Int).1 = kd from rfl, wrAt_nil] at hit
    exact ⟨rfl, F', hit, hkk⟩
theorem it_readNew {w wr : World} {bt bx bc bj bm bd nbl : Nat} {R : Nat → Nat × List Int} {F : Nat → Prop} (h : IT w bt bx bc bj bm bd nbl R F wr) {ino p m : Nat} (h1 : 1 ≤ ino) (h2 : ino ≤ 6) (hk : (R ino).1 ≠ 0) (hp : p ≤ 9223372036854775807) (hm : m ≤ 9223372036854775807) :
    Calls Tryz.prog 27 #[.pointer (some ⟨bt, 0, none⟩), .int .i64 ino, .int .i64 p, .int .i64 m] wr fun e w' => ∃ v, e = .returned (.tuple #[v, .nilIface]) ∧ Sl w' v (readAt (R ino).2 p m) ∧ Kp (fun _ => False) wr w' ∧ ∀ b, blockOf v = some b → ¬ F b := by
  have hfr := h.fresh
  obtain ⟨⟨C, T, ht, hR, hC⟩, h3, h4, h5, h6⟩ := h
  obtain ⟨e1, e2⟩ := hR ino h1 h2
  have := inode_Read_new ht h1 h2 (by rw [e1]; exact hk) hp hm
  rw [e2] at this
  refine this.mono ?_
  rintro e w' ⟨v, a, b, c, d⟩
  exact ⟨v, a, b, c, fun k hk hF => by have := d k hk; have := hfr k hF; omega⟩
end Go.Proofs.YthjbpbahcemfgaaGreatDoor
namespace Go.Proofs.YthjbpbahcemfgaaGreatDoor
set_option linter.unusedVariables false
set_option linter.unusedSimpArgs false
open Go.RowKit
set_option maxHeartbeats 1000000
set_option maxRecDepth 20000
variable {w wr : World} {bt bx bc bj bm bd at_ n mat lo nbl : Nat} {C : CSt} {F : Nat → Prop} {T : Nat → Nd} {R : Nat → Nat × List Int}

/-- What had answers where it refuses. -/
def HadNo (bt : Nat) (ino : Int) (good : Bool) (k : Int) (w : World) : Prop :=
  Calls Tryz.prog 43 #[.pointer (some ⟨bt, 0, none⟩), .int .i64 ino, .bool good] w fun e w' => ∃ v, e = .returned (.tuple #[.agg #[.int .i64 0, .int .i64 0, .slice none 0 0, .int .i64 0], v]) ∧ IsErr w' v [(tx [105, 110, 111, 100, 101], tx (Lib.itoa ino))] k ∧ Kp (fun _ => False) w w'
theorem inode_Write_err {ino k p : Int} (v : Value) {b : Bool} (hb : decide (0 ≤ p) = b) (h : HadNo bt ino b k w) :
    Calls Tryz.prog 23 #[.pointer (some ⟨bt, 0, none⟩), .int .i64 ino, .int .i64 p, v] w fun e w' => ∃ u, e = .returned u ∧ IsErr w' u [(tx [105, 110, 111, 100, 101], tx (Lib.itoa ino))] k ∧ Kp (fun _ => False) w w' := by
  have HR := Lib.hid h
  clear h
  go_enter Tryz.func23, Tryz.ntmps23
  go_wp2_with fail
  refine HR.out.mono ?_
  rintro e w3 ⟨v, rfl, hv, hk3⟩
  obtain ⟨t, x, rfl⟩ := hv.iface
  have hka := (Kp.refl (fun _ => False) w3).alloc (.cells #[.int .i64 0, .int .i64 0, .slice none 0 0, .int .i64 0] 94)
  have Hk3 := Lib.hid (hk3.trans hka (Gr.refl _ _))
  have Hv := Lib.hid (hv.kp hka (FCl.none _))
  clear hv hk3 HR hka
  go_wp2_with fail
  go_ret
  exact ⟨_, rfl, Hv.out, Hk3.out⟩
theorem inode_Cut_err {ino k p : Int} {b : Bool} (hb : decide (0 ≤ p) = b) (h : HadNo bt ino b k w) :
    Calls Tryz.prog 25 #[.pointer (some ⟨bt, 0, none⟩), .int .i64 ino, .int .i64 p] w fun e w' => ∃ u, e = .returned u ∧ IsErr w' u [(tx [105, 110, 111, 100, 101], tx (Lib.itoa ino))] k ∧ Kp (fun _ => False) w w' := by
  have HR := Lib.hid h
  clear h
  go_enter Tryz.func25, Tryz.ntmps25
  go_wp2_with fail
  refine HR.out.mono ?_
  rintro e w3 ⟨v, rfl, hv, hk3⟩
  obtain ⟨t, x, rfl⟩ := hv.iface
  have hka := (Kp.refl (fun _ => False) w3).alloc (.cells #[.int .i64 0, .int .i64 0, .slice none 0 0, .int .i64 0] 94)
  have Hk3 := Lib.hid (hk3.trans hka (Gr.refl _ _))
  have Hv := Lib.hid (hv.kp hka (FCl.none _))
  clear hv hk3 HR hka
  go_wp2_with fail
  go_ret
  exact ⟨_, rfl, Hv.out, Hk3.out⟩
theorem inode_Read_err {ino k p m : Int} {b : Bool} (hb : (decide (0 ≤ p) && decide (0 ≤ m)) = b) (h : HadNo bt ino b k w) :
    Calls Tryz.prog 27 #[.pointer (some ⟨bt, 0, none⟩), .int .i64 ino, .int .i64 p, .int .i64 m] w fun e w' => ∃ u, e = .returned (.tuple #[.slice none 0 0, u]) ∧ IsErr w' u [(tx [105, 110, 111, 100, 101], tx (Lib.itoa ino))] k ∧ Kp (fun _ => False) w w' := by
  have HR := Lib.hid h
  clear h
  by_cases h0 : 0 ≤ p
  all_goals
    by_cases h1 : 0 ≤ m
    all_goals
      first | (have d0 : decide (0 ≤ p) = true := decide_eq_true h0) | (have d0 : decide (0 ≤ p) = false := decide_eq_false h0)
      first | (have d1 : decide (0 ≤ m) = true := decide_eq_true h1) | (have d1 : decide (0 ≤ m) = false := decide_eq_false h1)
      rw [d0, d1] at hb
      simp only [Bool.and_true, Bool.and_false] at hb
      subst hb
      go_enter Tryz.func27, Tryz.ntmps27
      go_wp2_with fail
      refine HR.out.mono ?_
      rintro e w3 ⟨v, rfl, hv, hk3⟩
      obtain ⟨t, x, rfl⟩ := hv.iface
      have hka := (Kp.refl (fun _ => False) w3).alloc (.cells #[.int .i64 0, .int .i64 0, .slice none 0 0, .int .i64 0] 94)
      have Hk3 := Lib.hid (hk3.trans hka (Gr.refl _ _))
      have Hv := Lib.hid (hv.kp hka (FCl.none _))
      clear hv hk3 HR hka
      go_wp2_with fail
      go_ret2
      exact ⟨_, rfl, Hv.out, Hk3.out⟩
theorem inode_Write_big (h : Tab w bt bx bc bj bm bd at_ n mat lo nbl C F T) {ino p l : Nat} (h1 : 1 ≤ ino) (h2 : ino ≤ n) (hkd : (T ino).kind ≠ 0) (A : Option Addr) (c : Nat) (hp : 4000 < p + l) (hp9 : (p : Int) ≤ 9223372036854775807) :
    Calls Tryz.prog 23 #[.pointer (some ⟨bt, 0, none⟩), .int .i64 ino, .int .i64 p, .slice A l c] w fun e w' => ∃ u, e = .returned u ∧ IsErr w' u [(tx [105, 110, 111, 100, 101], tx (Lib.itoa ino))] 5 ∧ Kp (fun _ => False) w w' := by
  have hg5 := h.geo.g5
  have HH := Lib.hid (inode_had_ok h h1 h2 hkd)
  have HW := Lib.hid (fun (W : World) (hk : Kp (fun _ => False) w W) => inode_wrong (ino : Int) 5 W (h.gl.kp hk Hi.none) (by omega) (by omega) (by decide))
  clear h hkd
  generalize T ino = x at *
  have hp0 : (0 : Int) ≤ (p : Int) := by omega
  by_cases hp4 : (4000 : Int) < (p : Int)
  · go_enter Tryz.func23, Tryz.ntmps23
    go_wp2_with fail
    refine HH.out.mono ?_
    rintro e w3 ⟨A, c, rfl, hown, hk3⟩
    have HK := Lib.hid (hk3.alloc (.cells #[.int .i64 x.kind, .int .i64 x.size, .slice A x.l.length c, .int .i64 x.more] 94))
    clear hown hk3 HH
    go_wp2_with fail
    refine (HW.out _ HK.out).mono ?_
    rintro e w4 ⟨v, rfl, hv, hk4⟩
    obtain ⟨t, y, rfl⟩ := hv.iface
    have Hv := Lib.hid hv
    have Hk4 := Lib.hid (HK.out.trans hk4 (Gr.refl _ _))
    clear hv hk4
    go_wp2_with fail
    go_ret
    exact ⟨_, rfl, Hv.out, Hk4.out⟩
  · have hp5 : (4000 : Int) - (p : Int) < (l : Int) := by omega
    have hp6 : IntKind.i64.wrap ((4000 : Int) - (p : Int)) = 4000 - (p : Int) := IntWalk.i64_in _ (by omega)
    go_enter Tryz.func23, Tryz.ntmps23
    go_wp2_with fail
    refine HH.out.mono ?_
    rintro e w3 ⟨A, c, rfl, hown, hk3⟩
    have HK := Lib.hid (hk3.alloc (.cells #[.int .i64 x.kind, .int .i64 x.size, .slice A x.l.length c, .int .i64 x.more] 94))
    clear hown hk3 HH
    go_wp2_with fail
    refine (HW.out _ HK.out).mono ?_
    rintro e w4 ⟨v, rfl, hv, hk4⟩
    obtain ⟨t, y, rfl⟩ := hv.iface
    have Hv := Lib.hid hv
    have Hk4 := Lib.hid (HK.out.trans hk4 (Gr.refl _ _))
    clear hv hk4
    go_wp2_with fail
    go_ret
    exact ⟨_, rfl, Hv.out, Hk4.out⟩
theorem inode_Cut_big (h : Tab w bt bx bc bj bm bd at_ n mat lo nbl C F T) {ino : Nat} {p : Int} (h1 : 1 ≤ ino) (h2 : ino ≤ n) (hkd : (T ino).kind ≠ 0) (hp : 4000 < p) :
    Calls Tryz.prog 25 #[.pointer (some ⟨bt, 0, none⟩), .int .i64 ino, .int .i64 p] w fun e w' => ∃ u, e = .returned u ∧ IsErr w' u [(tx [105, 110, 111, 100, 101], tx (Lib.itoa ino))] 5 ∧ Kp (fun _ => False) w w' := by
  have hg5 := h.geo.g5
  have HH := Lib.hid (inode_had_ok h h1 h2 hkd)
  have HW := Lib.hid (fun (W : World) (hk : Kp (fun _ => False) w W) => inode_wrong (ino : Int) 5 W (h.gl.kp hk Hi.none) (by omega) (by omega) (by decide))
  clear h hkd
  generalize T ino = x at *
  have hp0 : (0 : Int) ≤ p := by omega
  go_enter Tryz.func25, Tryz.ntmps25
  go_wp2_with fail
  refine HH.out.mono ?_
  rintro e w3 ⟨A, c, rfl, hown, hk3⟩
  have HK := Lib.hid (hk3.alloc (.cells #[.int .i64 x.kind, .int .i64 x.size, .slice A x.l.length c, .int .i64 x.more] 94))
  clear hown hk3 HH
  go_wp2_with fail
  refine (HW.out _ HK.out).mono ?_
  rintro e w4 ⟨v, rfl, hv, hk4⟩
  obtain ⟨t, y, rfl⟩ := hv.iface
  have Hv := Lib.hid hv
  have Hk4 := Lib.hid (HK.out.trans hk4 (Gr.refl _ _))
  clear hv hk4
  go_wp2_with fail
  go_ret
  exact ⟨_, rfl, Hv.out, Hk4.out⟩
end Go.Proofs.YthjbpbahcemfgaaGreatDoor
namespace Go.Proofs.YthjbpbahcemfgaaGreatDoor
set_option linter.unusedVariables false
set_option linter.unusedSimpArgs false
open Go.RowKit Go.Sort
set_option maxHeartbeats 2000000
set_option maxRecDepth 20000
variable {w wr : World} {bt bx bc bj bm bd at_ n mat lo nbl : Nat} {C : CSt} {F : Nat → Prop} {T : Nat → Nd} {R : Nat → Nat × List Int}

/-- slices.Clone of ints of the call's own. -/
theorem clone_own {w : World} {base n : Nat} {v : Value} {ys : List Int} (hs : w.ownsRow base 3 1 v n (ints ys)) (hb : n ≤ 100000) :
    Calls Tryz.prog 98 #[v] w fun e w' => ∃ v', e = .returned v' ∧ w'.ownsRow w.heap.size 3 1 v' n (ints ys) ∧ Kp (fun _ => False) w w' := by
  obtain ⟨h1, ⟨rfl, rfl⟩ | ⟨g, cap, cur, rfl, h3, h4, h5, h6, h7, h8⟩⟩ := hs
  · have : ys = [] := by simpa using h1
    subst this
    exact (Tryz.slices_Clone_int_nil 0 0 w).mono fun e w' ⟨a, b⟩ => ⟨_, a, by rw [b]; exact World.ownsRow_nil _ _ _ _, by rw [b]; exact Kp.refl _ _⟩
  · have hn : ys.length = n := by simpa using h1
    refine (Tryz.slices_Clone_int g 0 n cap ys w (by omega) (by omega) (fun j hj => ?_)).mono fun e w' ⟨v', a, b, _, d⟩ => ⟨v', a, ?_, Kp.of_below d⟩
    · rw [Nat.zero_add, cell_blk h4, ← Array.getElem?_toList]
      have h9 := congrArg (·[j]?) h8
      simp only [Nat.mul_one] at h9
      rw [List.getElem?_take_of_lt (by omega)] at h9
      rw [h9]
      simp [ints, List.getD_eq_getElem?_getD, hj]
    · rw [List.take_of_length_le (by omega)] at b
      exact b
/-- slices.Sort of ints of the call's own. -/
theorem sort_own {w : World} {base n : Nat} {v : Value} {ys : List Int} (hs : w.ownsRow base 3 1 v n (ints ys)) (hb : n ≤ 100000) :
    Calls Tryz.prog 99 #[v] w fun e w' => e = .returned (.tuple #[]) ∧ w'.ownsRow base 3 1 v n (ints (ys.mergeSort fun a b => decide (a ≤ b))) ∧ ∀ w0 : World, w0.heap.size ≤ base → Kp (fun _ => False) w0 w → Kp (fun _ => False) w0 w' := by
  have hs' := hs
  obtain ⟨h1, ⟨rfl, rfl⟩ | ⟨g, cap, cur, rfl, h3, h4, h5, h6, h7, h8⟩⟩ := hs
  · have : ys = [] := by simpa using h1
    subst this
    exact (Tryz.slices_Sort_int_none none 0 w).mono fun e w' ⟨a, b⟩ => ⟨a, by rw [b, List.mergeSort_nil]; exact hs', fun _ _ h => by rw [b]; exact h⟩
  · have hn : ys.length = n := by simpa using h1
    rw [Nat.mul_one] at h8
    subst hn
    refine (Tryz.slices_Sort_int g 0 cap ys w (holds_of_blockI h4 h8) (lt_blk h4) (by omega)).mono fun e w' ⟨a, k, os, b⟩ => ⟨a, ?_, fun w0 hw hk => ?_⟩
    · rw [b]
      exact ownsRow_sortedI (by rw [List.length_mergeSort]) h3 h4 h5 h6 h7
    · rw [b]
      exact hk.grown (grownBy_sortedI _) (fun r hr => .inr (by cases hr; omega))
theorem natI_sort (l : List Nat) : (natI l).mergeSort (fun a b => decide (a ≤ b)) = natI (l.mergeSort fun a b => decide (a ≤ b)) := by
  unfold natI
  exact (List.map_mergeSort fun a _ b _ => by simp).symm
/-- What comes back: sorted, and cut to its length. -/
theorem blocks_end {w0 w w' : World} {v : Value} {ns : List Nat} {n : Nat} (ho : w'.ownsRow w.heap.size 3 1 v n (ints ((natI ns).mergeSort fun a b => decide (a ≤ b)))) (hw : w0.heap.size ≤ w.heap.size) :
    ∃ A c, v = .slice A n c ∧ n ≤ c ∧ c ≤ maxLen ∧ SlN w0.heap.size w' (.slice A n n) (ns.mergeSort fun a b => decide (a ≤ b)) := by
  rw [natI_sort] at ho
  obtain ⟨A, c, rfl, h1, h2, h3, h4⟩ := own_ints (ns := ns.mergeSort fun a b => decide (a ≤ b)) ho
  refine ⟨A, c, rfl, h1, h2, A, by rw [h3], by omega, fun hn => ?_⟩
  obtain ⟨g, e1, e2, e3⟩ := h4 hn
  exact ⟨g, e1, by omega, e3⟩
theorem inode_Blocks_ok (h : Tab w bt bx bc bj bm bd at_ n mat lo nbl C F T) {ino : Nat} (h1 : 1 ≤ ino) (h2 : ino ≤ n) (hkd : (T ino).kind ≠ 0) :
    Calls Tryz.prog 61 #[.pointer (some ⟨bt, 0, none⟩), .int .i64 ino] w fun e w' => ∃ v, e = .returned (.tuple #[v, .nilIface]) ∧ SlN w.heap.size w' v ((T ino).blks.mergeSort fun a b => decide (a ≤ b)) ∧ Kp (fun _ => False) w w' := by
  have HH := Lib.hid (inode_had_ok h h1 h2 hkd)
  have hl := (h.ti.ok ino h1 h2).len32
  obtain ⟨ii, hii, hzi, hszi, hbyi⟩ := info_parts Tryz.infoInt
  clear h hkd
  generalize T ino = x at *
  have hbk : x.blks = x.l ++ if x.more = 0 then [] else [x.more] := rfl
  have Hbk := Lib.hid hbk
  have hnl : (natI x.l).length = x.l.length := by simp [natI]
  clear hbk
  go_enter Tryz.func61, Tryz.ntmps61
  go_wp2_with fail
  refine HH.out.mono ?_
  rintro e w3 ⟨A, c, rfl, hown, hk3⟩
  have hka := (Kp.refl (fun _ => False) w3).alloc (.cells #[.int .i64 x.kind, .int .i64 x.size, .slice A x.l.length c, .int .i64 x.more] 94)
  have Ho4 := Lib.hid (own_kp0 hown hka)
  have HK := Lib.hid (hk3.trans hka (Gr.refl _ _))
  have Hp := Lib.hid (new_blk w3 (.cells #[.int .i64 x.kind, .int .i64 x.size, .slice A x.l.length c, .int .i64 x.more] 94))
  clear hown hk3 HH hka
  go_upto_region 2 with fail
  generalize w3.alloc (.cells #[.int .i64 x.kind, .int .i64 x.size, .slice A x.l.length c, .int .i64 x.more] 94) = w4 at *
  generalize w3.heap.size = q at *
  have c2 := cell_blk Hp.out 2
  simp at c2
  go_wp2_with fail
  refine (clone_own Ho4.out (by omega)).mono ?_
  rintro e w5 ⟨v5, rfl, hown, hk5⟩
  have Ho5 := Lib.hid hown
  have HK5 := Lib.hid (HK.out.trans hk5 (Gr.refl _ _))
  have hz5 := Nat.le_trans HK.out.size (Nat.le_refl _)
  have c3 := cell_blk (hk5.blk Hp.out (fun h => h)) 3
  have HPp := Lib.hid (hk5.blk Hp.out (fun h => h))
  simp at c3
  clear hown c2
  by_cases hm : x.more = 0
  · have hm0 : ¬ (0 : Int) < (x.more : Int) := by omega
    have hbl : x.blks = x.l := by rw [Hbk.out, if_pos hm, List.append_nil]
    have Hbl := Lib.hid hbl
    clear hk5
    go_wp2_with fail
    refine (sort_own Ho5.out (by omega)).mono ?_
    rintro e w6 ⟨rfl, hown, hk⟩
    obtain ⟨A6, c6, rfl, q1, q2, q3⟩ := blocks_end (w0 := w) hown hz5
    have HK6 := Lib.hid (hk w hz5 HK5.out)
    have Hq3 := Lib.hid q3
    clear hown hk q3 c3 hm0 hbl
    go_wp2_with fail
    refine (clip_ints A6 _ c6 w6 q1 q2).mono ?_
    rintro e w7 ⟨rfl, rfl⟩
    go_wp2_with fail
    go_ret2
    exact ⟨_, rfl, by rw [Hbl.out]; exact Hq3.out, HK6.out⟩
  · have hm0 : (0 : Int) < (x.more : Int) := by omega
    have hbl : x.blks = x.l ++ [x.more] := by rw [Hbk.out, if_neg hm]
    have Hbl := Lib.hid hbl
    have hz54 := hk5.size
    clear hk5
    go_wp2_with (at_builtin; refine wpList_append_lies _ rfl _ _ 92 rfl w4.heap.size 3 ii (.int .i64 0) 1 8 Tryz.underlying92 hii hzi hszi hbyi rfl (by decide) _ _ _ rfl (Ho5.out.alloc _) ⟨w5.heap.size, 0, none⟩ 1 1 [.int .i64 (x.more : Int)] rfl rfl (fun j u hj => by rw [add0, cell_blk (new_blk w5 _)]; cases j with | zero => simpa using hj | succ j => simp at hj) (by simp [Value.oneCell']) (by omega) (by unfold maxLen; omega) (by omega) (by have := size_alloc w5 (.cells #[.int .i64 (x.more : Int)] 3); omega) _ rfl ?_; intro g2 cap2 w6 hown2 hgr2 hat2 hlt2)
    have Ho6 := Lib.hid (show w6.ownsRow w4.heap.size 3 1 (.slice (some ⟨g2, 0, none⟩) (x.l.length + 1) cap2) (x.l.length + 1) (ints (natI (x.l ++ [x.more]))) by
      have e1 : natI (x.l ++ [x.more]) = natI x.l ++ [(x.more : Int)] := by simp [natI]
      rw [e1, ints_app]; exact hown2)
    have HK6 := Lib.hid ((HK5.out.alloc _).grown hgr2 (fun r hr => .inr (Nat.le_trans hz5 (World.ownsRow.lt Ho5.out r hr).1)))
    clear hown2 hgr2 hat2 hlt2 c3 hm0 hbl
    go_wp2_with fail
    refine (sort_own Ho6.out (by omega)).mono ?_
    rintro e w7 ⟨rfl, hown, hk⟩
    obtain ⟨A6, c6, ev, q1, q2, q3⟩ := blocks_end (w0 := w) hown hz5
    simp only [Value.slice.injEq, true_and] at ev
    obtain ⟨rfl, rfl⟩ := ev
    have HK7 := Lib.hid (hk w hz5 HK6.out)
    have Hq3 := Lib.hid q3
    clear hown hk q3
    go_wp2_with fail
    refine (clip_ints _ _ _ _ q1 q2).mono ?_
    rintro e w8 ⟨rfl, rfl⟩
    go_wp2_with fail
    go_ret2
    exact ⟨_, rfl, by rw [Hbl.out]; exact Hq3.out, HK7.out⟩
end Go.Proofs.YthjbpbahcemfgaaGreatDoor
