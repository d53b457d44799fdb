/- InodeSizes: what the walk needs: the document's number of blocks, a guarded conversion, the rows. -/
/- InodeSizes: the law's walk. -/
import Derived.Test.YtdmmlkkemceifaaGreatDoorAwk8
namespace Go.Proofs.YtdmmlkkemceifaaGreatDoor
open Go.RowKit
set_option maxHeartbeats 4000000
set_option maxRecDepth 20000

theorem ref_Blocks {w : World} (n : Nat) (hn : n ≤ 4000) :
    Calls Tryz.prog 19 #[.int .i64 n] w fun e w' => e = .returned (.int .i64 (bks n : Nat)) ∧ w = w' := by
  have hd : dat n ≤ 32 := by unfold dat; omega
  have e0 : ((n : Int) + 127) / 128 = ((dat n : Nat) : Int) := by unfold dat; omega
  have e1 : max (n : Int) 0 = (n : Int) := by omega
  have e2 : min (n : Int) 4000 = (n : Int) := by omega
  have hc : 8 < dat n ↔ 1024 < n := by unfold dat; omega
  have hb : bks n = dat n + if 1024 < n then 1 else 0 := rfl
  by_cases h1 : 1024 < n
  · have hc' : (8 : Int) < ((dat n : Nat) : Int) := by have := hc.2 h1; omega
    rw [if_pos h1] at hb
    have Hb := Lib.hid hb
    clear hb hc
    generalize dat n = d at *
    go_enter Tryz.func19, Tryz.ntmps19
    go_wp2_with fail
    go_ret
    exact ⟨ret_int (by rw [Hb.out]; push_cast; omega), rfl⟩
  · have hc' : ¬ (8 : Int) < ((dat n : Nat) : Int) := by have := mt hc.1 h1; omega
    rw [if_neg h1, Nat.add_zero] at hb
    have Hb := Lib.hid hb
    clear hb hc
    generalize dat n = d at *
    go_enter Tryz.func19, Tryz.ntmps19
    go_wp2_with fail
    go_ret
    exact ⟨ret_int (by rw [Hb.out]), rfl⟩
theorem wpList_convSg {ops : Array Oper} {rest : List Oper} {o : Oper} {a : Act} {Q : Exit → Act → World → Prop} {w : World} (hw : Region.wanted o (yielded ops a.tmps) = true) (x : Operand) (ho : o.op = .convert 9 34 x) (ys : List Int) (n : Nat) (hn : ys.length = n) (hx : a.eval x = .string (str ys)) (hb : Byt ys) (hl : n ≤ maxLen)
    (h : ∀ w' c, Kp (fun _ => False) w w' → Sl w' (.slice (some ⟨w.heap.size, 0, none⟩) n c) ys → wpList Tryz.prog ops Q rest (a.put o.dst (.slice (some ⟨w.heap.size, 0, none⟩) n c)) w') : wpList Tryz.prog ops Q (o :: rest) a w := by
  subst hn
  refine wpList_step fun K hK => ?_
  rw [if_pos hw]
  have hr := Lib.run_convert_string_bytes (P := Tryz.prog) w 9 34 5 (str ys) Tryz.underlying9 Tryz.underlying34 Tryz.underlying5
  unfold Oper.wp execOp
  simp only [ho, hx, Sem.run_bind, Sem.run_pure, Result.andThen_ok, hr]
  rw [str_size]
  have hc1 := grownCap_ge w ys.length 0 5
  have hc2 := grownCap_le_maxLen w ys.length 0 5 hl
  have hk : Kp (fun _ => False) w (Lib.bytesWorld w 5 (str ys)) :=
    ⟨rfl, rfl, rfl, by rw [Lib.bytesWorld_size]; omega, fun k hk _ => Lib.bytesWorld_at_old w _ _ k hk⟩
  refine hK _ _ (h _ _ hk ⟨some ⟨w.heap.size, 0, none⟩, _, rfl, hc1, hc2, fun _ => ⟨_, rfl, fun j u hj => ?_⟩⟩)
  obtain ⟨y, hy, rfl⟩ := bs_get _ _ _ hj
  have hlt := (List.getElem?_eq_some_iff.1 hy).1
  rw [add0, Lib.bytesWorld_cell _ _ _ _ (by rw [str_size]; exact hlt), str_list]
  have hyr := hb y (List.mem_of_getElem? hy)
  rw [List.getD_eq_getElem?_getD, List.getElem?_map, hy]
  simp only [Option.map_some, Option.getD_some]
  congr 2
  have : (UInt8.ofNat y.toNat).toNat = y.toNat % 256 := by simp
  omega
theorem cutAt_eq (d : List Int) (k : Nat) : cutAt d k = (grownL d k).take k := by
  unfold cutAt grownL zs
  rw [splice_eq]
  simp only [List.take_zero, List.nil_append, Nat.zero_add, List.drop_replicate, List.length_take]
  split
  · rw [Nat.min_eq_left (by assumption), Nat.sub_self]; simp
  · rw [Nat.min_eq_right (by omega), List.take_append, List.take_of_length_le (by omega : d.length ≤ k)]
    congr 1
    rw [List.take_of_length_le (by simp)]
theorem wrAt_nil (ys : List Int) : wrAt [] 0 ys = ys := by
  rw [wrAt_eq]
  unfold grownL zs
  split
  · rename_i h; simp at h; subst h; simp
  · simp
theorem cutAt_take (d : List Int) (k : Nat) (h : k ≤ d.length) : cutAt d k = d.take k := by
  rw [cutAt_eq]; unfold grownL; rw [if_pos h]
end Go.Proofs.YtdmmlkkemceifaaGreatDoor
namespace Go.Proofs.YtdmmlkkemceifaaGreatDoor
open Go.RowKit
set_option maxHeartbeats 4000000
set_option maxRecDepth 20000

theorem sizes_walk {w : World} (hg : Gl w) (hng : NG ≤ w.heap.size) (a b : Int) :
    Calls Tryz.prog 4 #[.int .i64 a, .int .i64 b] w fun e w' => e = .returned (.bool true) ∧ Kp (fun _ => False) w w' := by
  have HM := Lib.hid (made8_ok (w := w) hg hng 60 (by omega) (by omega))
  have Hg := Lib.hid hg
  have Hng := Lib.hid hng
  clear hg hng
  obtain ⟨q, hq, hq5⟩ := and_nat' a 65535 (by decide)
  obtain ⟨r, hr, hr5⟩ := and_nat' b 65535 (by decide)
  simp only [Int.cast_ofNat_Int] at hq hr
  have e1 : ((q : Int).tmod 4001) = ((q % 4001 : Nat) : Int) := by rw [Int.tmod_eq_emod_of_nonneg (by omega)]; omega
  have e2 : ((r : Int).tmod 4001) = ((r % 4001 : Nat) : Int) := by rw [Int.tmod_eq_emod_of_nonneg (by omega)]; omega
  have hp2 : q % 4001 ≤ 4000 := by have := Nat.mod_lt q (show 0 < 4001 by omega); omega
  have hs2 : r % 4001 ≤ 4000 := by have := Nat.mod_lt r (show 0 < 4001 by omega); omega
  generalize q % 4001 = p at *
  generalize r % 4001 = s at *
  have HBp := Lib.hid (fun W : World => ref_Blocks (w := W) p hp2)
  have HBs := Lib.hid (fun W : World => ref_Blocks (w := W) s hs2)
  have hbp := bks_le p hp2
  have hbs := bks_le s hs2
  have hT := textL_length 1 4000
  have hTb := Lib.hid (textL_byt 1 4000)
  have hct : (cutAt (textL 1 4000) p).length = p := cutAt_len _ _
  have hcs : (cutAt (cutAt (textL 1 4000) p) s).length = s := cutAt_len _ _
  have htk : cutAt (textL 1 4000) p = (textL 1 4000).take p := cutAt_take _ _ (by omega)
  have hgl := grownL_len ((textL 1 4000).take p) s
  have HW := Lib.hid (cutAt_eq ((textL 1 4000).take p) s)
  rw [htk] at hct hcs
  have HT := Lib.hid (fun W : World => text_ok (w := W) 1 4000 (by omega) (by omega))
  have HG := Lib.hid (fun W : World => grown_ok (w := W) ((textL 1 4000).take p) s (by omega) (by omega))
  have Htk := Lib.hid htk
  have Hct := Lib.hid hct
  have Hcs := Lib.hid hcs
  have Hgl := Lib.hid hgl
  have HTl := Lib.hid hT
  clear htk hct hcs hgl hT
  go_enter Tryz.func4, Tryz.ntmps4
  go_wp2_with fail
  refine HM.out.mono ?_
  rintro e w1 ⟨bt, bx, bc, bj, bm, bd, F, rfl, hit⟩
  have HI := Lib.hid hit
  clear hit
  go_wp2_with fail
  refine (it_make HI.out (i := 1) (kd := 1) (by omega) (by omega) rfl (fun j h1 h2 => by omega) (.inl rfl)).mono ?_
  rintro e w2 ⟨rfl, F2, hit, -, -⟩
  have HI2 := Lib.hid (show IT w bt bx bc bj bm bd 60 (setR R0 1 (1, [])) F2 w2 from hit)
  clear hit
  go_wp2_with fail
  refine (HT.out _).mono ?_
  rintro e w4 ⟨rfl, hk4⟩
  have HI4 := Lib.hid (HI2.out.kp0 hk4)
  clear hk4 HI2
  go_wp2_with (first | ((with_reducible refine at_convS rfl ?_); refine wpList_convSg rfl _ rfl (textL 1 4000) 4000 HTl.out rfl hTb.out (by unfold maxLen; omega) ?_; intro w5 c5 hk5 hs5; have HI5 := Lib.hid (HI4.out.kp0 hk5); have Hs5 := Lib.hid hs5; clear hk5 hs5))
  refine (it_write HI5.out (ino := 1) (p := 0) (by omega) (by omega) (by rw [setR_same]; show (1 : Nat) ≠ 0; decide) _ (textL 1 4000) Hs5.out hTb.out (by intro h; have := congrArg List.length h; rw [HTl.out] at this; cases this) (by rw [HTl.out]; omega) (by rw [used_one, setR_same, HTl.out]; decide)).mono ?_
  rintro e w6 ⟨rfl, F6, hit, -, -⟩
  rw [setR_setR, setR_same] at hit
  rw [show ((1, []) : Nat × List Int).2 = [] from rfl, show ((1, []) : Nat × List Int).1 = 1 from rfl, wrAt_nil] at hit
  have HI6 := Lib.hid hit
  clear hit HI5 HI4 Hs5
  go_wp2_with fail
  refine (it_cut HI6.out (ino := 1) (M := p) (by omega) (by omega) (by rw [setR_same]; show (1 : Nat) ≠ 0; decide) hp2 (by rw [used_one, setR_same]; show bks (textL 1 4000).length + bks p ≤ 60 + bks (textL 1 4000).length; omega)).mono ?_
  rintro e w7 ⟨rfl, F7, hit, -, -⟩
  rw [setR_setR, setR_same] at hit
  rw [show ((1, textL 1 4000) : Nat × List Int).2 = textL 1 4000 from rfl, show ((1, textL 1 4000) : Nat × List Int).1 = 1 from rfl, Htk.out] at hit
  have HI7 := Lib.hid hit
  clear hit HI6
  go_wp2_with fail
  refine (it_flush HI7.out).mono ?_
  rintro e w8 ⟨rfl, F8, hit, -, -⟩
  have HI8 := Lib.hid hit
  clear hit HI7
  go_wp2_with fail
  refine (it_free HI8.out).mono ?_
  rintro e w9 ⟨rfl, hk⟩
  have HI9 := Lib.hid (HI8.out.kp0 hk)
  rw [used_one, Hct.out]
  clear hk HI8
  have hwp : IntKind.i64.wrap ((60 : Int) - ((bks p : Nat) : Int)) = (60 : Int) - ((bks p : Nat) : Int) := IntWalk.i64_in _ (by omega)
  have hws : IntKind.i64.wrap ((60 : Int) - ((bks s : Nat) : Int)) = (60 : Int) - ((bks s : Nat) : Int) := IntWalk.i64_in _ (by omega)
  generalize hbpp : bks p = kp at *
  generalize hbss : bks s = ks at *
  go_wp2_with fail
  refine (HBp.out _).mono ?_
  rintro e w10 ⟨rfl, rfl⟩
  go_wp2_with fail
  refine (it_cut HI9.out (ino := 1) (M := s) (by omega) (by omega) (by rw [setR_same]; show (1 : Nat) ≠ 0; decide) hs2 (by rw [used_one, setR_same]; show bks (List.take p (textL 1 4000)).length + bks s ≤ 60 + bks (List.take p (textL 1 4000)).length; omega)).mono ?_
  rintro e w7 ⟨rfl, F7, hit, -, -⟩
  rw [setR_setR, setR_same] at hit
  rw [show ((1, List.take p (textL 1 4000)) : Nat × List Int).2 = List.take p (textL 1 4000) from rfl, show ((1, List.take p (textL 1 4000)) : Nat × List Int).1 = 1 from rfl] at hit
  rw [HW.out] at hit
  have hyl := Hcs.out
  rw [HW.out] at hyl
  have Hyl := Lib.hid hyl
  have HI7 := Lib.hid hit
  clear hit HI9 hyl
  go_wp2_with fail
  refine (it_free HI7.out).mono ?_
  rintro e w8 ⟨rfl, hk⟩
  have HI8 := Lib.hid (HI7.out.kp0 hk)
  rw [used_one, Hyl.out, hbss]
  clear hk HI7
  go_wp2_with fail
  refine (it_read HI8.out (ino := 1) (p := 0) (m := 4000) (by omega) (by omega) (by rw [setR_same]; show (1 : Nat) ≠ 0; decide) (by omega) (by omega)).mono ?_
  rintro e w9 ⟨v9, rfl, hs9, hk9⟩
  rw [setR_same] at hs9
  have hs9' : Sl w9 v9 (List.take s (grownL (List.take p (textL 1 4000)) s)) := by
    have h2 := readAt_all (List.take s (grownL (List.take p (textL 1 4000)) s)) 4000 (by rw [Hyl.out]; omega)
    rw [show ((1, List.take s (grownL (List.take p (textL 1 4000)) s)) : Nat × List Int).2 = List.take s (grownL (List.take p (textL 1 4000)) s) from rfl, h2] at hs9
    exact hs9
  obtain ⟨A9, c9, ev9, -, -, -⟩ := id hs9'
  rw [Hyl.out] at ev9
  subst ev9
  have Hs9 := Lib.hid hs9'
  have HI9 := Lib.hid (HI8.out.kp0 hk9)
  clear hs9 hs9' hk9 HI8
  go_wp2_with fail
  refine (HT.out _).mono ?_
  rintro e w10 ⟨rfl, hk⟩
  have HI10 := Lib.hid (HI9.out.kp0 hk)
  have Hs10 := Lib.hid (Hs9.out.kp hk (fun _ _ h => h))
  clear hk HI9 Hs9
  have z0 : (str (textL 1 4000)).size = 4000 := by rw [str_size, HTl.out]
  have x1 : (str (textL 1 4000)).extract 0 p = str ((textL 1 4000).take p) := by rw [str_cut]; simp
  have hgl := Hgl.out
  rw [Hct.out] at hgl
  have z1 : (str (grownL ((textL 1 4000).take p) s)).size = max p s := by rw [str_size, hgl]
  have x2 : (str (grownL ((textL 1 4000).take p) s)).extract 0 s = str ((grownL ((textL 1 4000).take p) s).take s) := by rw [str_cut]; simp
  obtain ⟨G, hG⟩ : ∃ G, G = grownL ((textL 1 4000).take p) s := ⟨_, rfl⟩
  rw [← hG] at hgl z1 x2 Hyl Hs10 HI10
  have HG' := HG.out
  rw [← hG] at HG'
  have HH := Lib.hid HG'
  obtain ⟨g, hgg⟩ : ∃ g, g = max p s := ⟨_, rfl⟩
  rw [← hgg] at z1 hgl
  have hg1 : (s : Int) ≤ (g : Int) := by omega
  have hp3 : (p : Int) ≤ 4000 := by omega
  clear hG hgl HG HG' HW Hgl hgg
  go_wp2_with fail
  refine (HH.out _).mono ?_
  rintro e w11 ⟨rfl, hk⟩
  have HI11 := Lib.hid (HI10.out.kp0 hk)
  have hcv := conv_str (Hs10.out.kp hk (fun _ _ h => h))
  clear hk HI10 Hs10 Hyl HH z0 x1
  generalize List.take s G = Y at *
  have hst := str_size Y
  go_wp2_with fail
  refine (HBs.out _).mono ?_
  rintro e w12 ⟨rfl, rfl⟩
  go_wp2_with fail
  refine (awake8_ok HI11.out.gl HI11.out.ngr).mono ?_
  rintro e w8 ⟨rfl, hk8⟩
  have HK := Lib.hid (HI11.out.kp.trans hk8 (Gr.refl _ _))
  clear hk8
  go_wp2_with fail
  go_ret
  exact ⟨by simp, HK.out⟩
end Go.Proofs.YtdmmlkkemceifaaGreatDoor
