/- DirTurns: the law's walk. -/
import Derived.Test.YthjbpbahcemfgaaGreatDoorRecB
import Derived.Test.YthjbpbahcemfgaaGreatDoorDirT
import Derived.Test.YthjbpbahcemfgaaGreatDoorNmS
import Derived.Test.YthjbpbahcemfgaaGreatDoorAwk10
import Derived.Test.YthjbpbahcemfgaaGreatDoorLawIs
import Derived.BigQuiet
namespace Go.Proofs.YthjbpbahcemfgaaGreatDoor
set_option linter.unusedVariables false
set_option linter.unusedSimpArgs false
open Go.RowKit
set_option maxHeartbeats 4000000
set_option maxRecDepth 20000

theorem nm_otherT : NmOk [111, 116, 104, 101, 114] := nmB_ok (by decide)
theorem Tryz.infoRec10 : (Tryz.prog.info? 67).map (fun i => (i.zero, i.size, i.bytes)) = some (some (.agg #[.string { data := #[] }, .int .i64 0]), 2, 24) := by kernel_rfl
/-- A block of the law's own is written: the directory stands. -/
theorem DirS.own {w wr w' : World} {bD bt bx bc bj bm bd q base n : Nat} {l : List Rc} {F : Nat → Prop} {v : Value} {xs : List Value} (h : DirS w bD bt bx bc bj bm bd l q F wr) (k : Kp (fun b => v.ownBlock = some b) wr w') (ho : wr.ownsRow base 67 2 v n xs) (hb : w.heap.size ≤ base) (hg : ∀ g, v.ownBlock = some g → ¬ F g) : DirS w bD bt bx bc bj bm bd l q F w' := by
  obtain ⟨⟨⟨R, ⟨⟨C, T, A, ht, rest⟩, h3, h4, h5⟩, hr⟩, hblk, hout⟩, ok, nm, few⟩ := h
  have hm := ht.map
  have hlo : ∀ g, v.ownBlock = some g → base ≤ g ∧ g < wr.heap.size := fun g e => ho.lt g e
  have n1 : ¬ v.ownBlock = some bt := fun e => own_ne ho (show wr.heap[bt]? = some (.cells _ _ _) from ht.blk) (by decide) bt e rfl
  have n2 : ¬ v.ownBlock = some bx := fun e => own_ne ho (show wr.heap[bx]? = some (.cells _ _ _) from hm.blk) (by decide) bx e rfl
  have n3 : ¬ v.ownBlock = some bD := fun e => own_ne ho (show wr.heap[bD]? = some (.cells _ _ _) from hblk) (by decide) bD e rfl
  have hm' : MapOn w' bx bc bj bm bd 0 20 80 C F := ⟨k.blk hm.blk n2, hm.out, hm.rep.kp k (fun i hi e => hg i e hi) (fun i e => by have := hlo i e; omega), hm.live, hm.vb, hm.n1, hm.n2, hm.inb, hm.far⟩
  exact ⟨⟨⟨R, ⟨⟨C, T, A, ⟨k.blk ht.blk n1, ht.out, hm', ht.geo, ht.ti⟩, rest⟩, h3.trans k (fun i e => .inr (by have := hlo i e; omega)), h4, h5⟩, hr⟩, k.blk hblk n3, hout⟩, ok, nm, few⟩
/-- A slice of the law's own that holds records reads as these. -/
theorem own_rc {w : World} {base e n : Nat} {v : Value} {l : List Rc} (h : w.ownsRow base e 2 v n (rcells l)) (hn : n = l.length) (hm : n ≤ 1000) : RcSl w v l := by
  subst hn
  obtain ⟨q1, ⟨e0, q2⟩ | ⟨g2, cap, cur, e1, e2, e3, e4, e5, e6, e7⟩⟩ := h
  · have hz : l.length = 0 := by first | exact q2 | (have := congrArg List.length q2; simpa using this) | omega
    exact ⟨none, 0, by rw [e0, hz], by omega, by unfold maxLen; omega, fun hn => absurd (List.length_eq_zero_iff.1 hz) hn⟩
  · refine ⟨_, cap, e1, e4, e5, fun _ => ⟨g2, rfl, fun i x hx => ?_⟩⟩
    have hi := (List.getElem?_eq_some_iff.1 hx).1
    obtain ⟨p1, p2⟩ := rcells_get l i x hx
    rw [← e7, List.getElem?_take, if_pos (by omega), Array.getElem?_toList] at p1 p2
    rw [cell_blk e3, cell_blk e3]
    exact ⟨p1, p2⟩
theorem DirS.cl {w wr : World} {bD bt bx bc bj bm bd q : Nat} {l : List Rc} {F : Nat → Prop} (h : DirS w bD bt bx bc bj bm bd l q F wr) : FCl wr F := by
  obtain ⟨⟨⟨R, ⟨⟨C, T, A, ht, rest⟩, h3, h4, h5⟩, hr⟩, hblk, hout⟩, ok, nm, few⟩ := h
  exact ht.map.rep.disk.cl
theorem rcells_set : ∀ (l : List Rc) (d : Nat) (x : Rc) (b : List Int), l[d]? = some x → (rcells l).set (d * 2) (.string (str b)) = rcells (l.set d ⟨b, x.id⟩)
  | [], _, _, _, h => by simp at h
  | y :: l, 0, x, b, h => by
    simp only [List.getElem?_cons_zero, Option.some.injEq] at h
    subst h
    rfl
  | y :: l, d + 1, x, b, h => by
    have := rcells_set l d x b (by simpa using h)
    rw [List.set_cons_succ, show rcells (y :: l) = .string (str y.s) :: .int .i64 y.id :: rcells l from rfl, show (d + 1) * 2 = d * 2 + 1 + 1 by omega, List.set_cons_succ, List.set_cons_succ, this]
    rfl
theorem dir_readNew {w wr : World} {bD bt bx bc bj bm bd q : Nat} {l : List Rc} {F : Nat → Prop} (h : DirS w bD bt bx bc bj bm bd l q F wr) :
    Calls Tryz.prog 27 #[.pointer (some ⟨bt, 0, none⟩), .int .i64 1, .int .i64 0, .int .i64 4000] wr fun e w' => ∃ A c, e = .returned (.tuple #[.slice A (32 * l.length) c, .nilIface]) ∧ Sl w' (.slice A (32 * l.length) c) (dirRow l) ∧ Kp (fun _ => False) wr w' ∧ ∀ b, blockOf (.slice A (32 * l.length) c) = some b → wr.heap.size ≤ b := by
  obtain ⟨⟨⟨R, h1, h2, h2'⟩, h6, h7⟩, h3, h4, h5⟩ := h
  have hl := dirRow_len h3
  have hr := iu_readNew h1 (ino := 1) (p := 0) (m := 4000) (by omega) (by omega) (by rw [h2]; exact (by decide : (2 : Nat) ≠ 0)) (by omega) (by omega)
  rw [h2] at hr
  have e : readAt (dirRow l) 0 4000 = dirRow l := readAt_all _ _ (by omega)
  refine hr.mono ?_
  rintro e' w' ⟨v, rfl, hs, hk, hb⟩
  simp only at hs
  rw [e] at hs
  obtain ⟨A, c, rfl, a, b, d⟩ := id hs
  rw [hl] at hs hb
  exact ⟨A, c, by rw [hl], hs, hk, hb⟩
theorem rcells_succ (k : Nat) : rcells (recsS 110 (fun i => i + 1) (k + 1)) = rcells (recsS 110 (fun i => i + 1) k) ++ [.string (({ data := #[110] } : ByteArray) ++ tx (Lib.itoa (k : Int))), .int .i64 ((k : Int) + 1)] := by
  rw [recsS_succ, rcells_app, cat_num]
  simp [rcells]
theorem dirTurns_walk {w : World} (hg : Gl w) (he : Ge w) (hng : NG ≤ w.heap.size) (a b : Int) :
    Calls Tryz.prog 6 #[.int .i64 a, .int .i64 b] w fun e w' => e = .returned (.bool true) ∧ Kp (fun _ => False) w w' := by
  obtain ⟨q, hq, hq255⟩ := and_nat' a 255 (by decide)
  obtain ⟨p, hp, hp255⟩ := and_nat' b 255 (by decide)
  simp only [Int.cast_ofNat_Int] at hq hp
  obtain ⟨n, hn⟩ : ∃ n, n = q % 30 + 1 := ⟨_, rfl⟩
  have hnz : (q : Int) % 30 + 1 = (n : Int) := by omega
  have hn30 : n ≤ 30 := by have := Nat.mod_lt q (show 0 < 30 by omega); omega
  have hn1 : 1 ≤ n := by omega
  have hnw : IntKind.i64.wrap (n : Int) = (n : Int) := IntWalk.i64_in _ (by omega)
  have HM := Lib.hid (made10_ok (w := w) hg hng)
  have He := Lib.hid he
  have HA := Lib.hid (fun (W : World) (h1 : Gl W) (h2 : NG ≤ W.heap.size) => awake10_ok (w := W) h1 h2)
  clear hg hng hn hq255 he
  go_enter Tryz.func6, Tryz.ntmps6
  go_wp2_with fail
  refine HM.out.mono ?_
  rintro e w1 ⟨bD, bt, bx, bc, bj, bm, bd, F, rfl, hd, _⟩
  have HD1 := Lib.hid hd
  have hgw : w.heap.size ≤ w1.heap.size := hd.b.iu.choose_spec.1.kp.size
  have HFl := Lib.hid (show ∀ k, F k → k < w1.heap.size from by
    obtain ⟨R, h1, _⟩ := hd.b.iu
    exact h1.fresh)
  clear hd HM
  go_wp2_with fail
  clear hq hnz
  obtain ⟨base, hbase⟩ : ∃ base, base = w1.heap.size := ⟨_, rfl⟩
  rw [← hbase] at hgw HFl
  have Hbase := Lib.hid (show base ≤ w1.heap.size by omega)
  clear hbase
  go_loopw [7, 8] (fun v i W => ∃ (k : Nat) (F' : Nat → Prop), i = .int .i64 k ∧ k ≤ n ∧ DirS w bD bt bx bc bj bm bd (recsS 110 (fun i => i + 1) k) (bks (32 * k)) F' W ∧ W.ownsRow base 67 2 v k (rcells (recsS 110 (fun i => i + 1) k)) ∧ (∀ g, v.ownBlock = some g → ¬ F' g) ∧ base ≤ W.heap.size) (fun _ i _ => n - (intOf i).toNat)
  case atStart => exact ⟨0, F, rfl, Nat.zero_le _, HD1.out, World.ownsRow_nil _ _ _ _, fun g e => by simp [Value.ownBlock] at e, Hbase.out⟩
  case round =>
    obtain ⟨k, F2, rfl, hk, hd, ho, hno, hbs⟩ := hrel
    have HD := Lib.hid hd
    have HO := Lib.hid ho
    have HN0 := Lib.hid hno
    clear hd ho hno HD1
    by_cases hlt : k < n
    · have hltz : (k : Int) < (n : Int) := by omega
      have hw1 : IntKind.i64.wrap ((k : Int) + 1) = (k : Int) + 1 := IntWalk.i64_in _ (by omega)
      have HN := Lib.hid (ref_Num (w := wr) (k : Int) (by omega) (by omega))
      go_wp2_with fail
      refine HN.out.mono ?_
      rintro e w3 ⟨rfl, hk2⟩
      have HD2 := Lib.hid (HD.out.kp0 hk2)
      have HO2 := Lib.hid (own_kp0 HO.out hk2)
      have hsz := tx_num (i := k) (by omega)
      have hbs2 : base ≤ w3.heap.size := Nat.le_trans hbs hk2.size
      clear hk2 HN HD HO
      obtain ⟨i0, hi0, hz0, hz1, hz2⟩ := info_parts Tryz.infoRec10
      obtain ⟨H, hH⟩ : ∃ H, H = w3.heap.size := ⟨_, rfl⟩
      have HH := Lib.hid hH
      have HF2 := Lib.hid (show ∀ j, F2 j → j < w3.heap.size from by
        obtain ⟨R, h1, _⟩ := HD2.out.b.iu
        exact h1.fresh)
      clear hH
      go_upto_region 10 with (at_builtin; refine wpList_append_lies _ rfl _ _ 65 rfl base 67 i0 (.agg #[.string { data := #[] }, .int .i64 0]) 2 24 Tryz.underlying65 hi0 hz0 hz1 hz2 rfl (by decide) _ _ _ rfl (HO2.out.alloc _) ⟨w3.heap.size, 0, none⟩ 1 1 [.string (({ data := #[110] } : ByteArray) ++ tx (Lib.itoa (k : Int))), .int .i64 ((k : Int) + 1)] rfl rfl (fun j u hj => by rw [add0, cell_blk (new_blk w3 _)]; simpa using hj) (by simp [Value.oneCell']) (by omega) (by unfold maxLen; omega) (by omega) (by have := size_alloc w3 (.cells #[.string (({ data := #[110] } : ByteArray) ++ tx (Lib.itoa (k : Int))), .int .i64 ((k : Int) + 1)] 67); omega) _ rfl ?_; intro g4 cap4 w4 hown4 hgr4 hat4 hlt4; rw [← rcells_succ] at hown4; have Hown4 := Lib.hid hown4; have Hgr4 := Lib.hid (show World.grownBy _ w4 u7.ownBlock from hgr4); have Hat4 := Lib.hid (show u7.ownBlock = some g4 ∨ g4 = w3.heap.size + 1 from hat4.imp id (fun h => by rw [h, size_alloc])); clear hown4 hgr4 hat4)
      have hk34 : Kp (fun r => u7.ownBlock = some r) w3 w4 := Kp.trans (F1 := fun r => u7.ownBlock = some r) ((Kp.refl _ w3).alloc _) (grown_kp Hgr4.out (fun k e => .inl e)) (Gr.refl _ _)
      have HD4 := Lib.hid (HD2.out.own hk34 HO2.out hgw HN0.out)
      have HN4 : Hid (∀ g, (Value.slice (some ⟨g4, 0, none⟩) (k + 1) cap4).ownBlock = some g → ¬ F2 g) := fun g e => by
        simp only [Value.ownBlock, Option.some.injEq] at e
        subst e
        rcases Hat4.out with h | h
        · exact HN0.out _ h
        · exact fun hf => by have := HF2.out _ hf; omega
      have hbs4 : base ≤ w4.heap.size := Nat.le_trans hbs2 hk34.size
      have hx : (recsS 110 (fun i => i + 1) (k + 1))[k]? = some ⟨nmS 110 k, k + 1⟩ := recsS_get (by omega)
      have cb := (Hown4.out.cellAt (k * 2) (by omega)).trans (rcells_get _ k _ hx).1
      have hle := bks_leD (n := 32 * k) (m := 32 * (k + 1)) (by omega)
      have HP := Lib.hid (dir_Put_ok HD4.out (x := ⟨nmS 110 k, k + 1⟩) ⟨nmS_ok (.inr rfl) (by omega), by show 1 ≤ k + 1; omega, by show k + 1 ≤ 200; omega⟩ (recsS_new (.inr rfl) (by omega)) (by rw [recsS_len]; omega) (Nat.le_trans (bks_33 (by omega)) (by omega)) (q' := bks (32 * (k + 1))) (by rw [recsS_len]; omega))
      rw [← recsS_succ] at HP
      have hkk : (k : Int) < ((k + 1 : Nat) : Int) := by omega
      have hk0 : (0 : Int) ≤ (k : Int) := by omega
      clear hk34 HD2 HO2 HN0 Hgr4 Hat4 HF2 HH hle hx hi0 hz0 hz1 hz2
      go_wp2_with fail
      refine HP.out.mono ?_
      rintro e w5 ⟨rfl, F3, hd, hk5, hg5⟩
      have HD5 := Lib.hid hd
      have HO5 := Lib.hid (own_kp Hown4.out hk5 HN4.out)
      have HN5 : Hid (∀ g, (Value.slice (some ⟨g4, 0, none⟩) (k + 1) cap4).ownBlock = some g → ¬ F3 g) := fun g e => hg5.not (HN4.out g e) (Hown4.out.lt g e).2
      have hbs5 : base ≤ w5.heap.size := Nat.le_trans hbs4 hk5.size
      clear hd hk5 hg5 HP HD4 Hown4 HN4 cb
      go_wp2_with fail
      go_roundw
      case rel => exact ⟨k + 1, F3, by go_num, by omega, HD5.out, HO5.out, HN5.out, hbs5⟩
      case measure => simp [intOf]; omega
    · have hkn : k = n := by omega
      subst hkn
      have hltz : ¬ (k : Int) < (k : Int) := by omega
      have hrem : (p : Int).tmod (k : Int) = ((p % k : Nat) : Int) := by
        rw [Int.tmod_eq_emod_of_nonneg (by omega)]; rfl
      have hkne : ¬ (k : Int) = 0 := by omega
      have hdlt : p % k < k := Nat.mod_lt _ (by omega)
      generalize p % k = d at *
      have HR := Lib.hid (own_rc HO.out (recsS_len _ _ _).symm (by omega))
      obtain ⟨A, c, hv, hc1, hc2, hc3⟩ := HR.out
      rw [recsS_len] at hv hc1
      subst hv
      have hd0 : (0 : Int) ≤ (d : Int) := by omega
      have hdk : (d : Int) < (k : Int) := by omega
      obtain ⟨g, rfl, hcs⟩ := hc3 (fun e => by have := congrArg List.length e; rw [recsS_len] at this; simp at this; omega)
      have hx := recsS_get (c := 110) (f := fun i => i + 1) hdlt
      have c0 := (hcs d _ hx).1
      have Hgn : Hid (¬ F2 g) := HN0.out g rfl
      have Hfz := Lib.hid (fun (W : World) (hk : Kp F2 wr W) => hk.frz (HO.out.frozenAt (d * 2)) (HO.out.lt g rfl).2 Hgn.out)
      have h0 : ∀ W : World, Kp F2 wr W → W.cell? ⟨g, d * 2, none⟩ = some (.string (str (nmS 110 d))) := fun W hk => hk.cell c0 Hgn.out
      have hbk : bks (32 * k) ≤ 36 := Nat.le_trans (bks_33 (by omega)) (by omega)
      have Hbk := Lib.hid hbk
      have HT1 := Lib.hid (fun (W : World) (hk : Kp (fun _ => False) wr W) => dir_Turn_ok (HD.out.kp0 hk) hx (nmS 110 d) (nmS_ok (.inr rfl) (by omega)) (fun y _ e => e) hbk)
      have hset : (recsS 110 (fun i => i + 1) k).set d ⟨nmS 110 d, d + 1⟩ = recsS 110 (fun i => i + 1) k := by
        apply List.ext_getElem?
        intro j
        rw [List.getElem?_set]
        split
        · rename_i e; subst e; rw [if_pos (by rw [recsS_len]; exact hdlt), hx]
        · rfl
      simp only [hset] at HT1
      have Hother := Lib.hid (show ∀ y ∈ recsS 110 (fun i => i + 1) k, y.s ≠ [111, 116, 104, 101, 114] from fun y hy e => by
        obtain ⟨i, hi, rfl⟩ := recsS_mem hy
        exact nmS_head 110 i _ _ (by decide) e)
      have HT2 := Lib.hid (fun (F' : Nat → Prop) (W : World) (hD : DirS w bD bt bx bc bj bm bd (recsS 110 (fun i => i + 1) k) (bks (32 * k)) F' W) => dir_Turn_ok hD hx [111, 116, 104, 101, 114] nm_otherT (fun y hy e => absurd e (Hother.out y hy)) hbk)
      have El : str [111, 116, 104, 101, 114] = ({ data := #[111, 116, 104, 101, 114] } : ByteArray) := by decide +kernel
      have HEl := Lib.hid El
      rw [El] at HT2
      have Hx := Lib.hid hx
      have hs0 : Kp F2 wr wr := Kp.refl _ _
      clear hc3 hcs c0 hx hset hbk El hltz
      go_upto_region 13 with fail
      clear hrem
      go_region_held_law (fun W => Kp F2 wr W)
        (first | assumption | exact Kp.drew (by assumption))
        (first | (have hTest := HD3.out; clear hTest; go_at_call 32; refine (HT2.out _ _ (by first | exact HD3.out | exact HD3.out.kp0 (Kp.refl _ _).drew)).mono ?_; rintro e w4 ⟨rfl, F4, hD4, hk4, hg4⟩; have hS4 : Kp F2 wr w4 := Kp.trans (F1 := F3) (by first | exact HS3.out | exact HS3.out.drew) hk4 HG3.out; have HD4 := Lib.hid hD4; have HG4 := Lib.hid (hg4.mono HS3.out.size); clear hD4 hk4 hg4) | (go_at_call 32; refine (HT1.out _ (by first | exact Kp.refl _ _ | exact (Kp.refl _ _).drew)).mono ?_; rintro e w3 ⟨rfl, F3, hD3, hk3, hg3⟩; have hS3 : Kp F2 wr w3 := Kp.trans (F1 := F2) (by first | exact Kp.refl _ _ | exact (Kp.refl _ _).drew) hk3 (Gr.refl _ _); have HD3 := Lib.hid hD3; have HG3 : Hid (Gr F2 F3 wr.heap.size) := hg3; have HS3 := Lib.hid hS3; clear hD3 hk3 hg3))
      all_goals (
        have c4 := h0 w4 hS4
        have f4 := Hfz.out w4 hS4
        have HK4 := Lib.hid hS4
        have HO4 := Lib.hid (own_kp HO.out hS4 HN0.out)
        have hgl : g < wr.heap.size := (HO.out.lt g rfl).2
        have HN4 : Hid (¬ F4 g) := HG4.out.not (HG3.out.not Hgn.out hgl) hgl
        clear hS3 hS4 hs0 h0 Hfz HT1 HT2 HD3 HG3 HS3 HG4 HR HN0 Hgn hgl HD HO
        have hset : (rcells (recsS 110 (fun i => i + 1) k)).set (d * 2) (.string (str [111, 116, 104, 101, 114])) = rcells ((recsS 110 (fun i => i + 1) k).set d ⟨[111, 116, 104, 101, 114], d + 1⟩) := rcells_set _ d _ _ Hx.out
        obtain ⟨l1, hl1⟩ : ∃ l1, l1 = (recsS 110 (fun i => i + 1) k).set d ⟨[111, 116, 104, 101, 114], d + 1⟩ := ⟨_, rfl⟩
        have Hln := Lib.hid (show l1.length = k by rw [hl1, List.length_set, recsS_len])
        have Hat := Lib.hid (show l1[d]? = some ⟨[111, 116, 104, 101, 114], d + 1⟩ by rw [hl1, List.getElem?_set_self (by rw [recsS_len]; exact hdlt)])
        have Hno : Hid (∀ y ∈ l1, y.s ≠ nmS 110 d) := fun y hy e => by
          rw [hl1] at hy
          obtain ⟨j, hj⟩ := List.mem_iff_getElem?.1 hy
          rw [List.getElem?_set] at hj
          split at hj
          · rw [if_pos (by rw [recsS_len]; exact hdlt)] at hj
            rw [← Option.some.inj hj] at e
            exact nmS_head 110 d _ _ (by decide) e.symm
          · rename_i hne
            have hjk := (List.getElem?_eq_some_iff.1 hj).1
            rw [recsS_len] at hjk
            rw [recsS_get hjk] at hj
            rw [← Option.some.inj hj] at e
            exact hne (nmS_inj (c := 110) (.inr rfl) (by omega) (by omega) e).symm
        rw [← hl1] at HD4 hset
        have Hset := Lib.hid hset
        clear hl1 hset Hother
        go_upto_region 17 with fail
        obtain ⟨ho5, hg5⟩ := HO4.out.stored (d * 2) (.string (str [111, 116, 104, 101, 114]))
        rw [Hset.out] at ho5
        rw [HEl.out] at ho5 hg5
        have HO5 := Lib.hid ho5
        have hk5 : Kp (fun b => (Value.slice (some ⟨g, 0, none⟩) k c).ownBlock = some b) w4 (w4.setCell ⟨g, d * 2, none⟩ (.string { data := #[111, 116, 104, 101, 114] })) := grown_kp hg5 (fun b e => .inl e)
        have HD5 := Lib.hid (HD4.out.own hk5 HO4.out hgw (fun b e => by
          simp only [Value.ownBlock, Option.some.injEq] at e
          subst e; exact HN4.out))
        have HR5 := Lib.hid (own_rc ho5 Hln.out.symm (by omega))
        have HgO : Hid (g < w4.heap.size) := (HO4.out.lt g rfl).2
        clear ho5 hg5 hk5 c4 f4 HD4 HO4 Hset
        generalize w4.setCell ⟨g, d * 2, none⟩ (.string { data := #[111, 116, 104, 101, 114] }) = w5 at *
        have HRd := Lib.hid (dir_readNew HD5.out)
        rw [Hln.out] at HRd
        go_upto_region 18 with (go_at_call 27; refine HRd.out.mono ?_; rintro e w6 ⟨A6, c6, rfl, hs6, hk6, hb6⟩; have Hs6 := Lib.hid hs6; have Hb6 := Lib.hid hb6; have Hk6 := Lib.hid hk6; clear hs6 hk6 hb6)
        have HD6 := Lib.hid (HD5.out.kp0 Hk6.out)
        have HO6 := Lib.hid (own_kp0 HO5.out Hk6.out)
        have hx99 : RcOk ⟨nmS 110 d, 99⟩ := ⟨nmS_ok (.inr rfl) (by omega), by show 1 ≤ 99; decide, by show 99 ≤ 200; decide⟩
        have Hx99 := Lib.hid hx99
        have HF5 := Lib.hid (show ∀ j, F4 j → j < w5.heap.size from by
          obtain ⟨R, h1, _⟩ := HD5.out.b.iu
          exact h1.fresh)
        have HbF := Lib.hid (show ∀ b, blockOf (.slice A6 (32 * k) c6) = some b → ¬ F4 b from fun b hb hF => by have := Hb6.out b hb; have := HF5.out b hF; omega)
        have HF := Lib.hid (dir_Find_ok HD6.out Hat.out)
        rw [HEl.out] at HF
        clear HD5 HO5 Hk6 hx99 HF5 Hb6 HR5 HRd HgO
        go_wp2_with fail
        refine HF.out.mono ?_
        rintro e w7 ⟨rfl, hk7⟩
        have HD7 := Lib.hid (HD6.out.kp0 hk7)
        have HO7 := Lib.hid (own_kp0 HO6.out hk7)
        have Hs7 := Lib.hid (Hs6.out.kp hk7 (fun _ _ h => h))
        have HF := Lib.hid (dir_Find_none HD7.out (nmS 110 d) Hx99.out.nm Hno.out)
        clear HD6 HO6 Hs6 hk7
        go_wp2_with fail
        refine HF.out.mono ?_
        rintro e w8 ⟨v, rfl, hv, hk8⟩
        obtain ⟨t, y, rfl⟩ := hv.iface
        have HD8 := Lib.hid (HD7.out.kp0 hk8)
        have HO8 := Lib.hid (own_kp0 HO7.out hk8)
        have Hs8 := Lib.hid (Hs7.out.kp hk8 (fun _ _ h => h))
        have Hv8 := Lib.hid hv
        have HP := Lib.hid (dir_Put_ok HD8.out Hx99.out Hno.out (by rw [Hln.out]; omega) Hbk.out (Nat.le_refl _))
        clear HD7 HO7 Hs7 hk8 hv HF
        go_upto_region 21 with (go_at_call 9; refine HP.out.mono ?_; rintro e w9 ⟨rfl, F9, hd9, hk9, hg9⟩; have HD9 := Lib.hid hd9; have Hk9 := Lib.hid hk9; clear hd9 hk9 hg9)
        have HO9 := own_kp HO8.out Hk9.out (fun b e => by
          simp only [Value.ownBlock, Option.some.injEq] at e
          subst e; exact HN4.out)
        have HR9 := Lib.hid (own_rc HO9 Hln.out.symm (by omega))
        have Hs9 := Hs8.out.kp Hk9.out HbF.out
        have Hv9 := Lib.hid (Hv8.out.kp Hk9.out HD8.out.cl)
        have hcv : ∀ W : World, Kp (fun _ => False) w9 W → (convert 52 9 (.slice A6 (32 * k) c6)).run Tryz.prog W = .ok (.string (str (dirRow l1))) W := fun W hk => conv_str (Hs9.kp hk (fun _ _ h => h))
        have HBy := Lib.hid (fun (W : World) (hk : Kp (fun _ => False) w9 W) => law_bytes (w := W) (.slice (some ⟨g, 0, none⟩) k c) l1 (HR9.out.kp0 hk) (fun x hx => HD8.out.ok x hx) (by rw [Hln.out]; omega))
        have HIs := Lib.hid (fun (W : World) (hk : Kp (fun _ => False) w9 W) => law_Is (w := W) (Hv9.out.kp hk (FCl.none _)) (by decide) (He.out.kp (HD9.out.kp0 hk).kp Hi.none))
        have HAw := Lib.hid (fun (W : World) (hk : Kp (fun _ => False) w9 W) => HA.out W (HD9.out.kp0 hk).gl (HD9.out.kp0 hk).ngr)
        have hd1w : IntKind.i64.wrap ((d : Int) + 1) = (d : Int) + 1 := IntWalk.i64_in _ (by omega)
        have hs0 : Kp (fun _ => False) w9 w9 := Kp.refl _ _
        have HKw := Lib.hid HD9.out.kp
        clear HD8 HO8 Hs8 Hv8 HO9 Hs9 HP Hk9 HbF HD9 HA He Hx99 Hno
        go_region_held_law (fun W => Kp (fun _ => False) w9 W)
          (first | assumption | exact Kp.drew (by assumption))
          (first
            | (go_at_call 33; refine (HBy.out _ (by first | assumption | exact Kp.drew (by assumption))).mono ?_; rintro e w10 ⟨rfl, hk10⟩; have hS10 : Kp (fun _ => False) w9 w10 := Kp.trans (F1 := fun _ => False) (by first | assumption | exact Kp.drew (by assumption)) hk10 (Gr.refl _ _); clear hk10)
            | (go_at_call 20; refine (HIs.out _ (by first | assumption | exact Kp.drew (by assumption))).mono ?_; rintro e w11 ⟨rfl, hk11⟩; have hS11 : Kp (fun _ => False) w9 w11 := Kp.trans (F1 := fun _ => False) (by first | assumption | exact Kp.drew (by assumption)) hk11 (Gr.refl _ _); clear hk11)
            | (go_at_call 15; refine (HAw.out _ (by first | assumption | exact Kp.drew (by assumption))).mono ?_; rintro e w12 ⟨rfl, hk12⟩; have hS12 : Kp (fun _ => False) w9 w12 := Kp.trans (F1 := fun _ => False) (by first | assumption | exact Kp.drew (by assumption)) hk12 (Gr.refl _ _); clear hk12))
        all_goals (
          go_wp2_with fail
          go_ret
          exact ⟨by first | rfl | simp, HKw.out.trans hS12 (fun _ h => h.elim)⟩))
end Go.Proofs.YthjbpbahcemfgaaGreatDoor
