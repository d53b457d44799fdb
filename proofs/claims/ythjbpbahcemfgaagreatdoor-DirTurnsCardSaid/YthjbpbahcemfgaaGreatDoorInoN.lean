/- Inodes: Write. -/
/- Inodes: Cut; what Write and Cut refuse. -/
import Derived.Test.YthjbpbahcemfgaaGreatDoorSet
namespace Go.Proofs.YthjbpbahcemfgaaGreatDoor
open Go.RowKit
set_option maxHeartbeats 4000000
set_option maxRecDepth 20000
variable {w : World} {bt bx bc bj bm bd at_ n mat lo nbl : Nat} {C : CSt} {F : Nat → Prop} {T : Nat → Nd}

/-- Bytes behind a write at a place; behind a cut. -/
def wrAt (d : List Int) (p : Nat) (ys : List Int) : List Int := splice (splice (zs (max d.length (p + ys.length))) 0 d) p ys
def cutAt (d : List Int) (k : Nat) : List Int := splice (zs k) 0 (d.take k)
theorem grow_len (d : List Int) (M : Nat) (h : d.length ≤ M) : (splice (zs M) 0 d).length = M := by rw [splice_len _ _ _ (by rw [zs_length]; omega), zs_length]
theorem wrAt_len (d : List Int) (p : Nat) (ys : List Int) : (wrAt d p ys).length = max d.length (p + ys.length) := by
  unfold wrAt
  rw [splice_len _ _ _ (by rw [grow_len _ _ (by omega)]; omega), grow_len _ _ (by omega)]
theorem cutAt_len (d : List Int) (k : Nat) : (cutAt d k).length = k := by
  unfold cutAt
  rw [splice_len _ _ _ (by rw [zs_length, List.length_take]; omega), zs_length]
theorem wrAt_byt {d ys : List Int} (h1 : Byt d) (h2 : Byt ys) (p : Nat) : Byt (wrAt d p ys) := splice_byt (splice_byt (zs_byt _) h1) h2
theorem cutAt_byt {d : List Int} (h1 : Byt d) (k : Nat) : Byt (cutAt d k) := splice_byt (zs_byt _) (fun x hx => h1 x (List.mem_of_mem_take hx))
theorem splice0_take (d : List Int) (M k : Nat) (_hd : d.length ≤ M) (hk : k ≤ d.length) : (splice (zs M) 0 d).take k = d.take k := by
  unfold splice
  rw [List.take_zero, List.nil_append, List.take_append_of_le_length hk]
theorem wrAt_pre (d : List Int) (p : Nat) (ys : List Int) : (wrAt d p ys).take (min p d.length) = d.take (min p d.length) := by
  unfold wrAt
  have h1 := grow_len d (max d.length (p + ys.length)) (by omega)
  have h2 : (splice (splice (zs (max d.length (p + ys.length))) 0 d) p ys).take (min p d.length) = (splice (zs (max d.length (p + ys.length))) 0 d).take (min p d.length) := by
    generalize splice (zs (max d.length (p + ys.length))) 0 d = R at *
    unfold splice
    rw [List.take_append_of_le_length (by rw [List.length_take]; omega), List.take_take]
    congr 1; omega
  rw [h2, splice0_take _ _ _ (by omega) (by omega)]
theorem cutAt_pre (d : List Int) (k : Nat) : (cutAt d k).take (min k d.length) = d.take (min k d.length) := by
  unfold cutAt
  rw [splice0_take _ _ _ (by rw [List.length_take]; omega) (by rw [List.length_take]; omega), List.take_take]
  congr 1; omega
theorem wpList_makeNg {ops : Array Oper} {rest : List Oper} {o : Oper} {a : Act} {Q : Exit → Act → World → Prop} {w : World} (hgd : o.guard = none) (x y : Operand) (ho : o.op = .makeSlice 52 x y) (M : Nat) (hx : a.eval x = .int .i64 (M : Int)) (hy : a.eval y = .int .i64 (M : Int)) (hM : M ≤ 100000) (N : Nat) (hN : w.heap.size = N)
    (h : ∀ w', Kp (fun _ => False) w w' → RowE w' N (zs M) → w'.heap.size = N + 1 → wpList Tryz.prog ops Q rest (a.put o.dst (.slice (some ⟨N, 0, none⟩) M M)) w') : wpList Tryz.prog ops Q (o :: rest) a w := by
  subst hN
  refine wpList_plain hgd fun K hK => ?_
  unfold Oper.wp execOp
  simp only [ho, hx, hy, Sem.run_bind, Sem.run_pure, Result.andThen_ok, make_bytes M (by omega) w]
  exact hK _ _ (h _ ((Kp.refl _ w).alloc _) (rowE_new w M) (size_alloc w _))
theorem data_byt (h : Tab w bt bx bc bj bm bd at_ n mat lo nbl C F T) {ino : Nat} (h1 : 1 ≤ ino) (h2 : ino ≤ n) : Byt (dataOf C.view (T ino)) := by
  intro x hx
  have hx' := List.mem_of_mem_take hx
  obtain ⟨b, hb, hxb⟩ := List.mem_flatMap.1 hx'
  have hr := (h.ti.ok ino h1 h2).rng b (Nd.mem_l hb)
  have := h.geo.g3
  exact h.map.vb b (by omega) x hxb
theorem data_len (h : Tab w bt bx bc bj bm bd at_ n mat lo nbl C F T) {ino : Nat} (h1 : 1 ≤ ino) (h2 : ino ≤ n) : (dataOf C.view (T ino)).length = (T ino).size := by
  have ho := h.ti.ok ino h1 h2
  have := h.geo.g3
  unfold dataOf
  rw [List.length_take, cat_len (fun b hb => h.map.rep.viewlen (by have := ho.rng b (Nd.mem_l hb); omega)), ho.len]
  unfold dat; omega
theorem SetR.out {own0 : Option Nat} {ino : Nat} {ys : List Int} {x' : Nd} {C' : CSt} {F' : Nat → Prop} {w0 w' w'' : World} (h : SetR w0 bt bx bc bj bm bd at_ n mat lo nbl C F T own0 ino ys x' C' F' w') (hk : Kp (fun _ => False) w w0) (ho : ∀ g, own0 = some g → w.heap.size ≤ g) (hk2 : Kp (fun _ => False) w' w'') :
    SetR w bt bx bc bj bm bd at_ n mat lo nbl C F T none ino ys x' C' F' w'' := by
  refine ⟨h.tab.kp0 hk2, h.kd, h.sz, h.data, h.rest, h.cs, ?_, h.gr.mono hk.size, h.nw⟩
  have h1 : Kp (fun k => F k ∨ none = some k) w w' := by
    refine Kp.trans (F1 := fun k => F k ∨ own0 = some k) (hk.mono (fun _ h => h.elim)) h.kp (fun k hk' => ?_)
    rcases hk' with h2 | h2
    · exact .inl (.inl h2)
    · exact .inr (ho k h2)
  exact h1.trans (F1 := fun _ => False) hk2 (fun _ h => h.elim)
theorem inode_Write_ok (h : Tab w bt bx bc bj bm bd at_ n mat lo nbl C F T) {ino p : Nat} (h1 : 1 ≤ ino) (h2 : ino ≤ n) (hN : NG ≤ w.heap.size) (hkd : (T ino).kind ≠ 0) (v : Value) (ys : List Int) (hv : Sl w v ys) (hyb : Byt ys) (hy0 : ys ≠ []) (hp : p + ys.length ≤ 4000)
    (hfree : bks (max (T ino).size (p + ys.length)) ≤ (T ino).blks.length + frees (bitC C mat) nbl) (hr : Rm C.ch (mapW mat nbl ++ [at_ + ino - 1]) C.most lo (lo + nbl)) :
    Calls Tryz.prog 23 #[.pointer (some ⟨bt, 0, none⟩), .int .i64 ino, .int .i64 p, v] w (SetPost w bt bx bc bj bm bd at_ n mat lo nbl C F T none ino (wrAt (dataOf C.view (T ino)) p ys)) := by
  have hg5 := h.geo.g5
  have hdl := data_len h h1 h2
  have hdb := data_byt h h1 h2
  have ho := h.ti.ok ino h1 h2
  have hg3 := h.geo.g3
  have HH := Lib.hid (inode_had_ok h h1 h2 hkd)
  have HB := Lib.hid (fun (W : World) (hk : Kp (fun _ => False) w W) (lv : Value) (hl : SlI W lv (natI (T ino).l)) => inode_bytes (hk.blk h.blk (fun h => h)) (h.map.rep.kp0 hk) h.map.live (T ino) lv hl (by have := ho.len32; omega) (fun b hb => by have := ho.rng b (Nd.mem_l hb); omega) (by rw [ho.len]; unfold dat; omega))
  have hsz := ho.size
  obtain ⟨Av, cv, rfl, hv1, hv2, hv3⟩ := id hv
  have hylen : 0 < ys.length := List.length_pos_iff.2 hy0
  have HT := Lib.hid (fun (W : World) (hk : Kp (fun _ => False) w W) (A : Option Addr) (c : Nat) (hown : W.ownsRow w.heap.size 3 1 (.slice A (T ino).l.length c) (T ino).l.length (ints (natI (T ino).l))) (N : Nat) (hN1 : w.heap.size ≤ N) (R : List Int) (hRow : RowE W N R) (hRl : R.length = max (T ino).size (p + ys.length)) (hRe : R = wrAt (dataOf C.view (T ino)) p ys) =>
    inode_set_ok (h.kp0 hk) h1 h2 (Nat.le_trans hN hk.size) hN hk.size hown (fun g hg hF => by have := (hown.lt g hg).1; have := h.map.rep.disk.lt g hF; omega) hkd (.slice (some ⟨N, 0, none⟩) R.length R.length) R (hRow.sl (by unfold maxLen; omega)) (fun b hb => by
      simp only [blockOf, Option.some.injEq] at hb
      subst hb
      exact ⟨hRow.lt, fun hF => by have := h.map.rep.disk.lt _ hF; omega, fun e => own_ne hown hRow (by decide) _ e rfl⟩) (by omega) (by rw [hRe]; exact wrAt_byt hdb hyb p) (min p (T ino).size) (Nat.min_le_right _ _) (by rw [hRl]; omega) (by rw [hRe, ← hdl]; exact wrAt_pre _ _ _) (by rw [hRl]; exact hfree) hr)
  have Hdl := Lib.hid hdl
  have HG := Lib.hid h.gl
  clear h ho hkd hdl hdb hv3 hfree hr hyb hy0 hg3
  generalize hd : dataOf C.view (T ino) = d at *
  clear hd
  generalize hxx : T ino = x at *
  clear hxx
  obtain ⟨m, hm⟩ : ∃ m, m = ys.length := ⟨_, rfl⟩
  rw [← hm] at hv1 hp hylen HT hv ⊢
  have Hv := Lib.hid hv
  clear hv
  have Hm := Lib.hid hm
  clear hm
  have hp0 : (0 : Int) ≤ (p : Int) := by omega
  have hp4 : ¬ (4000 : Int) < (p : Int) := by omega
  have hp5 : ¬ (4000 : Int) - (p : Int) < (m : Int) := by omega
  have hm0 : ¬ (m : Int) = 0 := by omega
  have hmb : ((m : Int) == 0) = false := by simpa using hm0
  go_enter Tryz.func23, Tryz.ntmps23
  go_wp2_with fail
  refine HH.out.mono ?_
  rintro e w3 ⟨A, c, rfl, hown, hk3⟩
  have hka := (Kp.refl (fun _ => False) w3).alloc (.cells #[.int .i64 x.kind, .int .i64 x.size, .slice A x.l.length c, .int .i64 x.more] 94)
  have Hown4 := Lib.hid (own_kp0 hown hka)
  have HK := Lib.hid (hk3.trans hka (Gr.refl _ _))
  have Hp := Lib.hid (new_blk w3 (.cells #[.int .i64 x.kind, .int .i64 x.size, .slice A x.l.length c, .int .i64 x.more] 94))
  clear hown hk3 HH hka
  go_upto_region 2 with fail
  generalize w3.alloc (.cells #[.int .i64 x.kind, .int .i64 x.size, .slice A x.l.length c, .int .i64 x.more] 94) = w4 at *
  generalize w3.heap.size = q at *
  have c0 := cell_blk Hp.out 0
  have c1 := cell_blk Hp.out 1
  have c2 := cell_blk Hp.out 2
  have c3 := cell_blk Hp.out 3
  simp at c0 c1 c2 c3
  go_wp2_with fail
  refine (HB.out _ HK.out _ (own_slI Hown4.out).1).mono ?_
  rintro e w5 ⟨A5, c5, rfl, hsl, hk5, hb5⟩
  have Hsl := Lib.hid hsl
  have Hk5 := Lib.hid (HK.out.trans hk5 (Gr.refl _ _))
  have Hp5 := Lib.hid (hk5.blk Hp.out (fun h => h))
  have Hown5 := Lib.hid (own_kp0 Hown4.out hk5)
  clear hsl hk5 hb5 c0 c1 c2 c3 Hp HK Hown4 HB
  obtain ⟨M, hM⟩ : ∃ M, M = max x.size (p + m) := ⟨_, rfl⟩
  have e1 : max (x.size : Int) ((p : Int) + (m : Int)) = (M : Int) := by omega
  have hM4 : M ≤ 4000 := by omega
  have hMx : x.size ≤ M ∧ p + m ≤ M := by omega
  rw [← hM] at HT
  have HM := Lib.hid hM
  clear hM
  have c0 := cell_blk Hp5.out 0
  have c1 := cell_blk Hp5.out 1
  have c2 := cell_blk Hp5.out 2
  have c3 := cell_blk Hp5.out 3
  simp at c0 c1 c2 c3
  have e2 : (min (p : Int) (x.size : Int)) = ((min p x.size : Nat) : Int) := by omega
  have E2 := Lib.hid e2
  obtain ⟨N, hNw⟩ : ∃ N, N = w5.heap.size := ⟨_, rfl⟩
  have HNw := Lib.hid hNw
  have hlN : w.heap.size ≤ N := by rw [hNw]; exact Hk5.out.size
  clear hNw e2
  have B0 := Lib.hid c0
  have B1 := Lib.hid c1
  have B2 := Lib.hid c2
  have B3 := Lib.hid c3
  have e2 := E2.out
  have Hl1 := Lib.hid (grow_len d M (by rw [Hdl.out]; omega))
  go_wp2_with (first
    | (at_make; refine wpList_makeNg rfl _ _ rfl M rfl rfl (by omega) N HNw.out.symm ?_; intro w6 hk6 hr6 hz6; have Hr6 := Lib.hid hr6; have Hk6 := Lib.hid hk6; replace c0 := hk6.cell c0 (fun h => h); replace c1 := hk6.cell c1 (fun h => h); replace c2 := hk6.cell c2 (fun h => h); replace c3 := hk6.cell c3 (fun h => h); clear hr6 hk6 hz6 e1)
    | ((with_reducible refine at_slice rfl ?_); refine wpList_slice_run rfl _ _ _ _ _ rfl _ _ _ _ _ rfl rfl rfl rfl (run_slice_b (k := p) rfl (by omega) (by omega) (by omega)) ?_; rw [add0])
    | ((with_reducible refine at_copy rfl ?_); (refine wpList_copyB rfl _ _ rfl _ _ _ rfl _ rfl N 0 (zs M) d Hr6.out (Hsl.out.kp Hk6.out (fun _ _ h => h)) (fun _ => rfl) (by rw [zs_length, Nat.zero_add]; exact Nat.min_le_right _ _) ?_); intro w7 hk7 hz7 hr7; rw [List.take_of_length_le (by rw [Hdl.out]; omega)] at hr7; have Hr7 := Lib.hid hr7; have hkn7 : Kp (fun _ => False) w5 w7 := Hk6.out.over hk7 (fun i e => by have e' : i = N := e; have := HNw.out; omega); have Hk7 := Lib.hid hkn7; have hqN : q < N := by have := HNw.out; have := lt_blk Hp5.out; omega)
    | ((with_reducible refine at_copy rfl ?_); (refine wpList_copyB rfl _ _ rfl _ _ _ rfl _ rfl N p (splice (zs M) 0 d) ys Hr7.out (Hv.out.kp (Hk5.out.trans Hk7.out (Gr.refl _ _)) (fun _ _ h => h)) (fun _ => rfl) (by rw [Hl1.out]; have := nmin_l ys.length (M - p); have := Hm.out; omega) ?_); intro w8 hk8 hz8 hr8; rw [List.take_of_length_le (by have := Hm.out; omega)] at hr8; have Hr8 := Lib.hid hr8; have hkn8 : Kp (fun _ => False) w5 w8 := Hk7.out.over hk8 (fun i e => by have e' : i = N := e; have := HNw.out; omega); have Hk8 := Lib.hid hkn8; have c0 := hkn8.cell B0.out (fun h => h); have c1 := hkn8.cell B1.out (fun h => h); have c2 := hkn8.cell B2.out (fun h => h); have c3 := hkn8.cell B3.out (fun h => h); clear hk8 hz8 hr8 hkn8))
  have Hown8 := Lib.hid (own_kp0 Hown5.out Hk8.out)
  have Hw8 := Lib.hid (Hk5.out.trans Hk8.out (Gr.refl _ _))
  have HRl := Lib.hid (show (splice (splice (zs M) 0 d) p ys).length = M by rw [splice_len _ _ _ (by rw [Hl1.out]; have := Hm.out; omega), Hl1.out])
  have HRe := Lib.hid (show splice (splice (zs M) 0 d) p ys = wrAt d p ys by unfold wrAt; rw [Hdl.out, ← Hm.out, ← HM.out])
  have HS := Lib.hid (show Calls Tryz.prog 57 #[.pointer (some ⟨bt, 0, none⟩), .int .i64 ino, .agg #[.int .i64 x.kind, .int .i64 x.size, .slice A x.l.length c, .int .i64 x.more], .int .i64 ((min p x.size : Nat) : Int), .slice (some ⟨N, 0, none⟩) M M] w8 (SetPost w8 bt bx bc bj bm bd at_ n mat lo nbl C F T (Value.slice A x.l.length c).ownBlock ino (wrAt d p ys)) from by
    have h := HT.out w8 Hw8.out A c Hown8.out N hlN _ Hr8.out (HRl.out.trans rfl) HRe.out
    rw [HRl.out, HRe.out] at h
    exact h)
  refine HS.out.mono ?_
  rintro e w9 ⟨rfl, x', C', F', hR⟩
  have HR := Lib.hid hR
  clear hR
  go_wp2_with fail
  refine (inode_told (ino : Int) .nilIface none _ HR.out.tab.gl (by omega) (by omega) rfl).mono ?_
  rintro e w10 ⟨v10, rfl, hv10, hk10⟩
  obtain rfl : v10 = .nilIface := hv10
  have Hk10 := Lib.hid hk10
  clear hk10
  go_wp2_with fail
  go_ret
  exact ⟨rfl, x', C', F', HR.out.out Hw8.out (fun g hg => (Hown8.out.lt g hg).1) Hk10.out⟩
end Go.Proofs.YthjbpbahcemfgaaGreatDoor
namespace Go.Proofs.YthjbpbahcemfgaaGreatDoor
open Go.RowKit
set_option maxHeartbeats 4000000
set_option maxRecDepth 20000
variable {w : World} {bt bx bc bj bm bd at_ n mat lo nbl : Nat} {C : CSt} {F : Nat → Prop} {T : Nat → Nd}

theorem inode_Cut_ok (h : Tab w bt bx bc bj bm bd at_ n mat lo nbl C F T) {ino M : Nat} (h1 : 1 ≤ ino) (h2 : ino ≤ n) (hN : NG ≤ w.heap.size) (hkd : (T ino).kind ≠ 0) (hM4 : M ≤ 4000) (hfree : bks M ≤ (T ino).blks.length + frees (bitC C mat) nbl) (hr : Rm C.ch (mapW mat nbl ++ [at_ + ino - 1]) C.most lo (lo + nbl)) :
    Calls Tryz.prog 25 #[.pointer (some ⟨bt, 0, none⟩), .int .i64 ino, .int .i64 M] w (SetPost w bt bx bc bj bm bd at_ n mat lo nbl C F T none ino (cutAt (dataOf C.view (T ino)) M)) := by
  have hg5 := h.geo.g5
  have hdl := data_len h h1 h2
  have hdb := data_byt h h1 h2
  have ho := h.ti.ok ino h1 h2
  have hg3 := h.geo.g3
  have HH := Lib.hid (inode_had_ok h h1 h2 hkd)
  have HB := Lib.hid (fun (W : World) (hk : Kp (fun _ => False) w W) (lv : Value) (hl : SlI W lv (natI (T ino).l)) => inode_bytes (hk.blk h.blk (fun h => h)) (h.map.rep.kp0 hk) h.map.live (T ino) lv hl (by have := ho.len32; omega) (fun b hb => by have := ho.rng b (Nd.mem_l hb); omega) (by rw [ho.len]; unfold dat; omega))
  have hsz := ho.size
  have HT := Lib.hid (fun (W : World) (hk : Kp (fun _ => False) w W) (A : Option Addr) (c : Nat) (hown : W.ownsRow w.heap.size 3 1 (.slice A (T ino).l.length c) (T ino).l.length (ints (natI (T ino).l))) (N : Nat) (hN1 : w.heap.size ≤ N) (R : List Int) (hRow : RowE W N R) (hRl : R.length = M) (hRe : R = cutAt (dataOf C.view (T ino)) M) =>
    inode_set_ok (h.kp0 hk) h1 h2 (Nat.le_trans hN hk.size) hN hk.size hown (fun g hg hF => by have := (hown.lt g hg).1; have := h.map.rep.disk.lt g hF; omega) hkd (.slice (some ⟨N, 0, none⟩) R.length R.length) R (hRow.sl (by unfold maxLen; omega)) (fun b hb => by
      simp only [blockOf, Option.some.injEq] at hb
      subst hb
      exact ⟨hRow.lt, fun hF => by have := h.map.rep.disk.lt _ hF; omega, fun e => own_ne hown hRow (by decide) _ e rfl⟩) (by omega) (by rw [hRe]; exact cutAt_byt hdb M) (min M (T ino).size) (Nat.min_le_right _ _) (by rw [hRl]; omega) (by rw [hRe, ← hdl]; exact cutAt_pre _ _) (by rw [hRl]; exact hfree) hr)
  have Hdl := Lib.hid hdl
  have HG := Lib.hid h.gl
  clear h ho hkd hdl hdb hfree hr hg3
  generalize hd : dataOf C.view (T ino) = d at *
  clear hd
  generalize hxx : T ino = x at *
  clear hxx
  have hp0 : (0 : Int) ≤ (M : Int) := by omega
  have hp4 : ¬ (4000 : Int) < (M : Int) := by omega
  go_enter Tryz.func25, Tryz.ntmps25
  go_wp2_with fail
  refine HH.out.mono ?_
  rintro e w3 ⟨A, c, rfl, hown, hk3⟩
  have hka := (Kp.refl (fun _ => False) w3).alloc (.cells #[.int .i64 x.kind, .int .i64 x.size, .slice A x.l.length c, .int .i64 x.more] 94)
  have Hown4 := Lib.hid (own_kp0 hown hka)
  have HK := Lib.hid (hk3.trans hka (Gr.refl _ _))
  have Hp := Lib.hid (new_blk w3 (.cells #[.int .i64 x.kind, .int .i64 x.size, .slice A x.l.length c, .int .i64 x.more] 94))
  clear hown hk3 HH hka
  go_upto_region 2 with fail
  generalize w3.alloc (.cells #[.int .i64 x.kind, .int .i64 x.size, .slice A x.l.length c, .int .i64 x.more] 94) = w4 at *
  generalize w3.heap.size = q at *
  have c0 := cell_blk Hp.out 0
  have c1 := cell_blk Hp.out 1
  have c2 := cell_blk Hp.out 2
  have c3 := cell_blk Hp.out 3
  simp at c0 c1 c2 c3
  go_wp2_with fail
  refine (HB.out _ HK.out _ (own_slI Hown4.out).1).mono ?_
  rintro e w5 ⟨A5, c5, rfl, hsl, hk5, hb5⟩
  have Hsl := Lib.hid hsl
  have Hk5 := Lib.hid (HK.out.trans hk5 (Gr.refl _ _))
  have Hp5 := Lib.hid (hk5.blk Hp.out (fun h => h))
  have Hown5 := Lib.hid (own_kp0 Hown4.out hk5)
  clear hsl hk5 hb5 c0 c1 c2 c3 Hp HK Hown4 HB
  have c0 := cell_blk Hp5.out 0
  have c1 := cell_blk Hp5.out 1
  have c2 := cell_blk Hp5.out 2
  have c3 := cell_blk Hp5.out 3
  simp at c0 c1 c2 c3
  have e2 : (min (M : Int) (x.size : Int)) = ((min M x.size : Nat) : Int) := by omega
  have E2 := Lib.hid e2
  obtain ⟨N, hNw⟩ : ∃ N, N = w5.heap.size := ⟨_, rfl⟩
  have HNw := Lib.hid hNw
  have hlN : w.heap.size ≤ N := by rw [hNw]; exact Hk5.out.size
  clear hNw e2
  have B0 := Lib.hid c0
  have B1 := Lib.hid c1
  have B2 := Lib.hid c2
  have B3 := Lib.hid c3
  have e2 := E2.out
  go_wp2_with (first
    | (at_make; refine wpList_makeNg rfl _ _ rfl M rfl rfl (by omega) N HNw.out.symm ?_; intro w6 hk6 hr6 hz6; have Hr6 := Lib.hid hr6; have Hk6 := Lib.hid hk6; replace c0 := hk6.cell c0 (fun h => h); replace c1 := hk6.cell c1 (fun h => h); replace c2 := hk6.cell c2 (fun h => h); replace c3 := hk6.cell c3 (fun h => h); clear hr6 hk6 hz6)
    | ((with_reducible refine at_copy rfl ?_); (refine wpList_copyB rfl _ _ rfl _ _ _ rfl _ rfl N 0 (zs M) d Hr6.out (Hsl.out.kp Hk6.out (fun _ _ h => h)) (fun _ => rfl) (by rw [zs_length, Nat.zero_add]; exact Nat.min_le_right _ _) ?_); intro w8 hk8 hz8 hr8; have Hr8 := Lib.hid hr8; have hkn8 : Kp (fun _ => False) w5 w8 := Hk6.out.over hk8 (fun i e => by have e' : i = N := e; have := HNw.out; omega); have Hk8 := Lib.hid hkn8; have c0 := hkn8.cell B0.out (fun h => h); have c1 := hkn8.cell B1.out (fun h => h); have c2 := hkn8.cell B2.out (fun h => h); have c3 := hkn8.cell B3.out (fun h => h); clear hk8 hz8 hr8 hkn8))
  have Hown8 := Lib.hid (own_kp0 Hown5.out Hk8.out)
  have Hw8 := Lib.hid (Hk5.out.trans Hk8.out (Gr.refl _ _))
  have HRl := Lib.hid (show (splice (zs M) 0 (d.take M)).length = M from cutAt_len d M)
  have HRe := Lib.hid (show splice (zs M) 0 (d.take M) = cutAt d M from rfl)
  have HS := Lib.hid (show Calls Tryz.prog 57 #[.pointer (some ⟨bt, 0, none⟩), .int .i64 ino, .agg #[.int .i64 x.kind, .int .i64 x.size, .slice A x.l.length c, .int .i64 x.more], .int .i64 ((min M x.size : Nat) : Int), .slice (some ⟨N, 0, none⟩) M M] w8 (SetPost w8 bt bx bc bj bm bd at_ n mat lo nbl C F T (Value.slice A x.l.length c).ownBlock ino (cutAt d M)) from by
    have h := HT.out w8 Hw8.out A c Hown8.out N hlN _ Hr8.out (HRl.out.trans rfl) HRe.out
    rw [HRl.out, HRe.out] at h
    exact h)
  refine HS.out.mono ?_
  rintro e w9 ⟨rfl, x', C', F', hR⟩
  have HR := Lib.hid hR
  clear hR
  go_wp2_with fail
  refine (inode_told (ino : Int) .nilIface none _ HR.out.tab.gl (by omega) (by omega) rfl).mono ?_
  rintro e w10 ⟨v10, rfl, hv10, hk10⟩
  obtain rfl : v10 = .nilIface := hv10
  have Hk10 := Lib.hid hk10
  clear hk10
  go_wp2_with fail
  go_ret
  exact ⟨rfl, x', C', F', HR.out.out Hw8.out (fun g hg => (Hown8.out.lt g hg).1) Hk10.out⟩
theorem inode_Write_empty (h : Tab w bt bx bc bj bm bd at_ n mat lo nbl C F T) {ino p : Nat} (h1 : 1 ≤ ino) (h2 : ino ≤ n) (hkd : (T ino).kind ≠ 0) (v : Value) (hv : Sl w v []) (hp : p ≤ 4000) :
    Calls Tryz.prog 23 #[.pointer (some ⟨bt, 0, none⟩), .int .i64 ino, .int .i64 p, v] w fun e w' => e = .returned .nilIface ∧ Kp (fun _ => False) w w' := by
  have HH := Lib.hid (inode_had_ok h h1 h2 hkd)
  obtain ⟨Av, cv, rfl, hv1, hv2, hv3⟩ := hv
  clear h hkd hv3
  generalize T ino = x at *
  have hp0 : (0 : Int) ≤ (p : Int) := by omega
  have hp4 : ¬ (4000 : Int) < (p : Int) := by omega
  have hp5 : ¬ (4000 : Int) - (p : Int) < 0 := by omega
  go_enter Tryz.func23, Tryz.ntmps23
  go_wp2_with fail
  refine HH.out.mono ?_
  rintro e w3 ⟨A, c, rfl, hown, hk3⟩
  have HK := Lib.hid (hk3.alloc (.cells #[.int .i64 x.kind, .int .i64 x.size, .slice A x.l.length c, .int .i64 x.more] 94))
  clear hown hk3 HH
  go_wp2_with fail
  go_ret
  exact ⟨rfl, HK.out⟩
end Go.Proofs.YthjbpbahcemfgaaGreatDoor
