/- InodePieces: plain laws. -/
/- Layer 8's own helpers: made, awake. -/
/- Layer 8's own awake. -/
import Derived.Test.YtdmmlkkemceifaaGreatDoorIT
import Derived.Test.YtdmmlkkemceifaaGreatDoorText
import Derived.Test.YtdmmlkkemceifaaGreatDoorMadeC
import Derived.Deep.RegionHeldLaw
import Derived.Lib.SlBytesConst
namespace Go.Proofs.YtdmmlkkemceifaaGreatDoor
open Go.RowKit
set_option maxHeartbeats 1000000
set_option maxRecDepth 20000

theorem setR_setR (R : Nat → Nat × List Int) (i : Nat) (a b : Nat × List Int) : setR (setR R i a) i b = setR R i b := by
  funext k; unfold setR; split <;> rfl
def R0 : Nat → Nat × List Int := fun _ => (0, [])
theorem used_one (k : Nat) (d : List Int) : usedR (setR R0 1 (k, d)) 6 = bks d.length := by
  have := usedR_set R0 (i := 1) (n := 6) (k, d) (by omega) (by omega)
  have h0 : usedR R0 6 = 0 := rfl
  have h1 : bks (R0 1).2.length = 0 := rfl
  have e : bks (k, d).2.length = bks d.length := rfl
  omega
theorem splice_eq {α : Type} (xs ys : List α) (p : Nat) : splice xs p ys = xs.take p ++ ys ++ xs.drop (p + ys.length) := by
  unfold splice; simp
theorem grownL_len (d : List Int) (k : Nat) : (grownL d k).length = max d.length k := by
  unfold grownL; split
  · omega
  · simp; omega
theorem grown_splice (d : List Int) (k : Nat) : splice (zs (max d.length k)) 0 d = grownL d k := by
  rw [splice_eq]
  unfold grownL zs
  simp only [List.take_zero, List.nil_append, Nat.zero_add, List.drop_replicate]
  split
  · rw [Nat.max_eq_left (by omega), Nat.sub_self]; simp
  · rw [Nat.max_eq_right (by omega)]
theorem wrAt_eq (d : List Int) (p : Nat) (ys : List Int) : wrAt d p ys = (grownL d (p + ys.length)).take p ++ ys ++ (grownL d (p + ys.length)).drop (p + ys.length) := by
  unfold wrAt
  rw [grown_splice, splice_eq]
theorem grownL_byt {d : List Int} (h : Byt d) (k : Nat) : Byt (grownL d k) := by
  rw [← grown_splice]; exact splice_byt (zs_byt _) h
theorem readAt_all (d : List Int) (m : Nat) (h : d.length ≤ m) : readAt d 0 m = d := by
  unfold readAt
  simp only [Nat.zero_min, List.drop_zero, Nat.sub_zero]
  rw [Nat.min_eq_right h, List.take_length]
theorem wpList_convSn {ops : Array Oper} {rest : List Oper} {o : Oper} {a : Act} {Q : Exit → Act → World → Prop} {w : World} (hgd : o.guard = none) (x : Operand) (ho : o.op = .convert 9 34 x) (ys : List Int) (n : Nat) (hn : ys.length = n) (hx : a.eval x = .string (str ys)) (hb : Byt ys) (hl : n ≤ maxLen)
    (h : ∀ w' c, Kp (fun _ => False) w w' → Sl w' (.slice (some ⟨w.heap.size, 0, none⟩) n c) ys → wpList Tryz.prog ops Q rest (a.put o.dst (.slice (some ⟨w.heap.size, 0, none⟩) n c)) w') : wpList Tryz.prog ops Q (o :: rest) a w := by
  subst hn
  exact wpList_convS hgd x ho ys hx hb hl fun w' c _ h2 h3 => h w' c h2 h3
theorem str_wr (d : List Int) (p k t : Nat) : (str ((grownL d (p + t)).take p) ++ str (textL k t)) ++ str ((grownL d (p + t)).drop (p + t)) = str (wrAt d p (textL k t)) := by
  rw [str_app, str_app, wrAt_eq, textL_length]
end Go.Proofs.YtdmmlkkemceifaaGreatDoor
namespace Go.Proofs.YtdmmlkkemceifaaGreatDoor
open Go.RowKit
set_option maxHeartbeats 2000000
set_option maxRecDepth 20000

theorem it_new {w w1 w2 w3 : World} {bt bx bc bj bm bd nbl : Nat} {F : Nat → Prop} (hr : CRep w1 bc bj bm bd (CSt.made 120) F) (hk1 : Kp (fun _ => False) w w1) (hf : ∀ k, F k → w.heap.size ≤ k) (hk2 : Kp (fun _ => False) w1 w2) (hb : MBlk w2 bx bc 0 20 nbl) (hbx : w1.heap.size ≤ bx)
    (hk3 : Kp (fun _ => False) w2 w3) (ht : TBlk w3 bt bc bx 5 6) (hbt : w2.heap.size ≤ bt) (h1 : 1 ≤ nbl) (h2 : nbl ≤ 60) (hng : NG ≤ w.heap.size) : IT w bt bx bc bj bm bd nbl (fun _ => (0, [])) F w3 := by
  have hlt := hr.disk.lt
  have s2 := hk2.size
  have hm : MapOn w2 bx bc bj bm bd 0 20 nbl (CSt.made 120) F := made_map hr hk2 hb hbx h1 (by omega) (by unfold nb; omega) (by omega)
  have hnb : nb nbl = 1 := by unfold nb; omega
  refine ⟨⟨CSt.made 120, fun _ => Nd.zero, ⟨ht, fun hF => by have := hlt _ hF; omega, hm.step (hm.rep.kp0 hk3) (hk3.mono (fun _ h => h.elim)) (Gr.refl _ _) rfl hm.live hm.vb, ⟨by rw [hnb]; decide, by decide, by show 20 + nbl ≤ 120; omega, by show (120 : Nat) ≤ 2048; decide, by decide, h1⟩, ?_⟩, fun k _ _ => ⟨rfl, rfl⟩, (fun x hx => by cases hx), rfl, rfl, rfl, rfl, rfl⟩, (hk1.trans hk2 (Gr.refl _ _)).trans hk3 (Gr.refl _ _), hf, h2, hng⟩
  refine ⟨fun k _ _ => by rw [nodeRow_zero]; exact new_view _, fun k _ _ h8 => absurd h8 (by simp [Nd.zero]), fun k _ _ => NdOk.zero' _ _, fun j _ => ?_, fun k k' _ _ _ _ _ b hb => by simp [Nd.blks, Nd.zero] at hb⟩
  constructor
  · intro h
    rw [CSt.made, new_bit] at h
    cases h
  · rintro ⟨k, _, _, h⟩
    simp [Nd.blks, Nd.zero] at h
theorem made8_ok {w : World} (hg : Gl w) (hng : NG ≤ w.heap.size) (n : Nat) (h0 : 1 ≤ n) (h1 : n ≤ 60) :
    Calls Tryz.prog 8 #[.int .i64 n] w fun e w' => ∃ bt bx bc bj bm bd F, e = .returned (.tuple #[.pointer (some ⟨bc, 0, none⟩), .pointer (some ⟨bx, 0, none⟩), .pointer (some ⟨bt, 0, none⟩)]) ∧ IT w bt bx bc bj bm bd n (fun _ => (0, [])) F w' := by
  have HM := Lib.hid (made7_ok (w := w) hg hng 120 (by omega) (by omega))
  have Hng := Lib.hid hng
  clear hg hng
  go_enter Tryz.func8, Tryz.ntmps8
  go_wp2_with fail
  refine HM.out.mono ?_
  rintro e w1 ⟨bd, bc, bj, bm, F, rfl, hr, hk1, hf⟩
  have Hr := Lib.hid (show CRep w1 bc bj bm bd (CSt.made 120) F from hr)
  have Hk1 := Lib.hid hk1
  have Hf := Lib.hid hf
  clear hr hk1 hf
  go_wp2_with fail
  refine (alloc_New_ok bc 0 20 (n : Int) (by omega) (by omega) (by omega) (by omega)).mono ?_
  rintro e w2 ⟨rfl, hb, hk2⟩
  have Hb := Lib.hid (show MBlk w2 w1.heap.size bc 0 20 n from hb)
  have Hk2 := Lib.hid hk2
  clear hb hk2
  go_wp2_with fail
  refine (inode_New_ok bc w1.heap.size 5 6 (by omega) (by omega)).mono ?_
  rintro e w3 ⟨rfl, ht, hk3⟩
  have Ht := Lib.hid ht
  have Hk3 := Lib.hid hk3
  clear ht hk3
  go_wp2_with fail
  have hit := it_new Hr.out Hk1.out Hf.out Hk2.out Hb.out (Nat.le_refl _) Hk3.out Ht.out (Nat.le_refl _) h0 h1 Hng.out
  refine bodyPost_ret (v := .tuple #[.pointer (some ⟨bc, 0, none⟩), .pointer (some ⟨w1.heap.size, 0, none⟩), .pointer (some ⟨w2.heap.size, 0, none⟩)]) (by simp [results, Tryz.results8, go_sem]) rfl ⟨_, _, bc, bj, bm, bd, F, rfl, hit⟩
end Go.Proofs.YtdmmlkkemceifaaGreatDoor
namespace Go.Proofs.YtdmmlkkemceifaaGreatDoor
open Go.RowKit
set_option maxHeartbeats 4000000
set_option maxRecDepth 20000

theorem sl_lit8 (w : World) (xs : List Int) (lo hi : Nat) (hx : xs.length ≤ maxLen) : Sl (w.alloc (.cells (bs xs).toArray 5 (lo, hi))) (.slice (some ⟨w.heap.size, 0, none⟩) xs.length xs.length) xs := by
  refine ⟨_, _, rfl, Nat.le_refl _, hx, fun _ => ⟨_, rfl, fun j u hj => ?_⟩⟩
  rw [add0, cell_blk (new_blk w _)]
  simpa using hj
theorem awake8_ok {w : World} (hg : Gl w) (hng : NG ≤ w.heap.size) :
    Calls Tryz.prog 16 #[] w fun e w' => e = .returned (.bool true) ∧ Kp (fun _ => False) w w' := by
  have HM := Lib.hid (made8_ok (w := w) hg hng 20 (by omega) (by omega))
  clear hg hng
  go_enter Tryz.func16, Tryz.ntmps16
  go_wp2_with fail
  refine HM.out.mono ?_
  rintro e w1 ⟨bt, bx, bc, bj, bm, bd, F, rfl, hit⟩
  have HI := Lib.hid hit
  clear hit
  go_wp2_with fail
  refine (it_make HI.out (i := 1) (kd := 1) (by omega) (by omega) rfl (fun j h1 h2 => by omega) (.inl rfl)).mono ?_
  rintro e w2 ⟨rfl, F2, hit, hk, hgr⟩
  have HI2 := Lib.hid (show IT w bt bx bc bj bm bd 20 (setR R0 1 (1, [])) F2 w2 from hit)
  clear hit hk hgr
  have hcv := Lib.run_convert_bytes_const (P := Tryz.prog) w2 34 5 #[.int .u8 120] 1 1 Tryz.underlying34 Tryz.underlying5
  simp only [List.size_toArray, List.length_cons, List.length_nil, Nat.reduceAdd] at hcv
  go_wp2_with fail
  clear hcv
  have HI3 := Lib.hid (HI2.out.kp0 ((Kp.refl _ _).alloc (.cells #[.int .u8 120] 5 (1, 2))))
  refine (it_write HI3.out (ino := 1) (p := 2) (by omega) (by omega) (by decide) _ [120] (sl_lit8 w2 [120] 1 2 (by simp [maxLen])) (fun x hx => by simp at hx; omega) (by simp) (by simp) (by rw [used_one]; decide)).mono ?_
  rintro e w4 ⟨rfl, F4, hit, hk, hgr⟩
  rw [setR_setR] at hit
  have HI4 := Lib.hid (show IT w bt bx bc bj bm bd 20 (setR R0 1 (1, wrAt [] 2 [120])) F4 w4 from hit)
  clear hit hk hgr HI3 HI2
  go_wp2_with fail
  refine (it_read HI4.out (ino := 1) (p := 0) (m := 9) (by omega) (by omega) (by decide) (by omega) (by omega)).mono ?_
  rintro e w5 ⟨v, rfl, hs, hk5⟩
  have hval : readAt (wrAt [] 2 [120]) 0 9 = [0, 0, 120] := by decide +kernel
  rw [setR_same] at hs
  have hs' : Sl w5 v [0, 0, 120] := by rw [← hval]; exact hs
  have hcv := conv_str hs'
  have hst : str [0, 0, 120] = ({ data := #[0, 0, 120] } : ByteArray) := by decide +kernel
  rw [hst] at hcv
  have HK := Lib.hid (HI4.out.kp.trans hk5 (Gr.refl _ _))
  obtain ⟨Av, cv, ev, _, _, _⟩ := hs'
  have ev' : v = .slice Av 3 cv := ev
  subst ev'
  clear ev
  clear hs hk5 hval hst
  go_wp2_with fail
  go_ret
  exact ⟨rfl, HK.out⟩
end Go.Proofs.YtdmmlkkemceifaaGreatDoor
