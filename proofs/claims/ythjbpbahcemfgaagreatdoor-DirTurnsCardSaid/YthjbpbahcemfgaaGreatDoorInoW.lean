/- Inodes: an inode is written. -/
import Derived.Test.YthjbpbahcemfgaaGreatDoorInoB
import Derived.Test.YthjbpbahcemfgaaGreatDoorApp
import Derived.Deep.RegionHeldLaw
namespace Go.Proofs.YthjbpbahcemfgaaGreatDoor
open Go.RowKit
set_option maxHeartbeats 4000000
set_option maxRecDepth 20000

/-- copy into a row of one's own, as a step of a region that draws its order. -/
theorem step_copyB {w : World} {ops : Array Oper} {o : Oper} {a : Act} {K : Act → World → Prop} {Q : Exit → Act → World → Prop} {E : Prop} (hgd : o.guard = none) (d s : Operand)
    (ho : o.op = .call { callee := .builtin .copy, args := #[d, s], argTypes := #[52, 52] })
    (g off dl dc : Nat) (hd : a.eval d = .slice (some ⟨g, off, none⟩) dl dc) (v : Value) (hs : a.eval s = v) (xs ys : List Int) (hg : RowE w g xs) (hsl : Sl w v ys) (hfd : ys.length ≤ dl) (hfit : off + ys.length ≤ xs.length)
    (h : ∀ w', Kp (fun k => k = g) w w' → w'.heap.size = w.heap.size → RowE w' g (splice xs off ys) → K (a.put o.dst (goInt (ys.length : Nat))) w') :
    if Region.wanted o (yielded ops a.tmps) = true then Oper.wp Tryz.prog o a w K Q else E := by
  have hw : Region.wanted o (yielded ops a.tmps) = true := by simp [Region.wanted, hgd]
  rw [if_pos hw]
  obtain ⟨i, hi, hz, hsz, hb⟩ := info_parts Tryz.infoU8
  have hsz' : (Tryz.prog.info? 5).map (·.size) = some 1 := by rw [hi]; simp [hsz]
  obtain ⟨A, c, rfl, h1, h2, h3⟩ := hsl
  have hmin : Nat.min ys.length dl = ys.length := Nat.min_eq_left hfd
  by_cases h0 : ys = []
  · subst h0
    have hrun := run_copy_none (P := Tryz.prog) w 52 52 o.type 5 (some ⟨g, off, none⟩) A dl dc 0 c Tryz.underlying52 hsz' (by simp)
    have hk := h w (Kp.refl _ _) rfl (by simpa [splice] using hg)
    unfold Oper.wp
    simp [execOp, ho, resolve, invoke, builtin, hd, hs, hrun, Result.andThen]
    exact hk
  · obtain ⟨ad, rfl, h4⟩ := h3 h0
    have hrun := run_copy_row (P := Tryz.prog) w 52 52 o.type 5 g off dl dc ad ys.length c (bs xs).toArray _ (bs ys) Tryz.underlying52 hsz' hg (by rw [bs_length]; exact hmin.symm) h4 (by simpa using hfit) (bs_one _)
    have hk := h _ (setRow_kp w g _) (by simp) (show _ = _ from setRow_heap w g _ (bs (splice xs off ys)).toArray _ (0, 0) hg)
    rw [← bs_splice] at hk
    unfold splice at hk
    rw [bs_length] at hk
    unfold Oper.wp
    simp [execOp, ho, resolve, invoke, builtin, hd, hs, hrun, Result.andThen]
    exact hk

/-- make([]byte, 128): the world a letter. -/
theorem wpList_make128g {ops : Array Oper} {rest : List Oper} {o : Oper} {a : Act} {Q : Exit → Act → World → Prop} {w : World} (hgd : o.guard = none)
    (ho : o.op = .makeSlice 52 (.const (.int .i64 128)) (.const (.int .i64 128))) (N : Nat) (hN : w.heap.size = N)
    (h : ∀ w', Kp (fun _ => False) w w' → RowE w' N (zs 128) → w'.heap.size = N + 1 → wpList Tryz.prog ops Q rest (a.put o.dst (.slice (some ⟨N, 0, none⟩) 128 128)) w') : wpList Tryz.prog ops Q (o :: rest) a w := by
  subst hN
  exact wpList_make128 hgd ho (h _ ((Kp.refl _ w).alloc _) (rowE_new w 128) (size_alloc w _))
theorem RowE.cellD {w : World} {g : Nat} {xs : List Int} (h : RowE w g xs) (i : Nat) (hi : i < xs.length) : w.cell? ⟨g, i, none⟩ = some (.int .u8 (xs.getD i 0)) := by
  rw [cell_blk h]
  simp [bs, List.getD_eq_getElem?_getD, hi]
theorem RowE.set1 {w : World} {g : Nat} {xs : List Int} (h : RowE w g xs) (i : Nat) (x : Int) : RowE (w.setCell ⟨g, i, none⟩ (.int .u8 x)) g (xs.set i x) := by
  unfold RowE at h ⊢
  rw [set_blk h]
  congr 2
  simp [bs, List.map_set]

/-- The cache behind the write of an inode. -/
def CSt.moreW (C : CSt) (x : Nd) : CSt := if 8 < x.l.length then C.wr x.more 0 (moreRow x) else C
def CSt.nodeW (C : CSt) (at_ id : Nat) (x : Nd) : CSt := (C.moreW x).wr (at_ + id - 1) 0 (nodeRow x)
/-- An inode as a value. -/
def ndV (x : Nd) (lv : Value) : Value := .agg #[.int .i64 x.kind, .int .i64 x.size, lv, .int .i64 x.more]
def ndB (x : Nd) (lv : Value) : Obj := .cells #[.int .i64 x.kind, .int .i64 x.size, lv, .int .i64 x.more] 94

/-- In the midst of write: the box, and the row as far as it is filled. -/
structure WB (w : World) (x : Nd) (lv : Value) (row : List Int) (W : World) : Prop where
  kp : Kp (fun _ => False) w W
  box : W.heap[w.heap.size]? = some (ndB x lv)
  row : RowE W (w.heap.size + 1) row
  sz : w.heap.size + 2 ≤ W.heap.size
theorem WB.c0 {w W : World} {x : Nd} {lv : Value} {row : List Int} (h : WB w x lv row W) : W.cell? ⟨w.heap.size, 0, none⟩ = some (.int .i64 x.kind) := by rw [cell_blk h.box]; rfl
theorem WB.c1 {w W : World} {x : Nd} {lv : Value} {row : List Int} (h : WB w x lv row W) : W.cell? ⟨w.heap.size, 1, none⟩ = some (.int .i64 x.size) := by rw [cell_blk h.box]; rfl
theorem WB.c2 {w W : World} {x : Nd} {lv : Value} {row : List Int} (h : WB w x lv row W) : W.cell? ⟨w.heap.size, 2, none⟩ = some lv := by rw [cell_blk h.box]; rfl
theorem WB.c3 {w W : World} {x : Nd} {lv : Value} {row : List Int} (h : WB w x lv row W) : W.cell? ⟨w.heap.size, 3, none⟩ = some (.int .i64 x.more) := by rw [cell_blk h.box]; rfl
theorem WB.kp' {w W W' : World} {x : Nd} {lv : Value} {row row' : List Int} (h : WB w x lv row W) (k : Kp (fun k => k = w.heap.size + 1) W W') (hr : RowE W' (w.heap.size + 1) row') : WB w x lv row' W' :=
  ⟨h.kp.over k (fun i e => by have : i = w.heap.size + 1 := e; omega), k.blk h.box (by omega), hr, Nat.le_trans h.sz k.size⟩
theorem slI_one (w : World) (x : Nat) : SlI (w.alloc (.cells #[.int .i64 (x : Int)] 3)) (.slice (some ⟨w.heap.size, 0, none⟩) 1 1) (natI [x]) :=
  ⟨some ⟨w.heap.size, 0, none⟩, 1, rfl, by simp, by simp [maxLen], fun _ => ⟨_, rfl, fun j u hj => slI_new w _ j u (by simpa [natI, ints] using hj)⟩⟩
theorem slI_oneD (w : World) (x : Nat) : SlI (w.alloc (.cells #[.int .i64 (x : Int)] 3)).drew (.slice (some ⟨w.heap.size, 0, none⟩) 1 1) (natI [x]) :=
  (slI_one w x).kp (Kp.refl (fun _ => False) _).drew (fun _ _ h => h)
theorem own_slB {w : World} {base n : Nat} {v : Value} {xs : List Int} (h : w.ownsRow base 5 1 v n (bs xs)) : Sl w v xs := (own_sl h).1

theorem natI_take8 (l : List Nat) : List.take (min l.length 8) (natI l) = natI (l.take 8) := by
  unfold natI
  rw [List.map_take]
  rcases Nat.le_total l.length 8 with h | h
  · rw [Nat.min_eq_left h, List.take_of_length_le (by simp), List.take_of_length_le (by simpa using h)]
  · rw [Nat.min_eq_right h]
theorem natI_drop8 (l : List Nat) : List.drop 8 (natI l) = natI (l.drop 8) := by unfold natI; rw [List.map_drop]
theorem RowE.sl128 {w : World} {g : Nat} {xs : List Int} (h : RowE w g xs) (hl : xs.length = 128) : Sl w (.slice (some ⟨g, 0, none⟩) 128 128) xs := by
  have := h.sl (by rw [hl]; simp [maxLen]); rw [hl] at this; exact this
theorem inode_write {w : World} {bt bx bc bj bm bd at_ n : Nat} {C : CSt} {F : Nat → Prop} (hb : TBlk w bt bc bx at_ n) (hbt : ¬ F bt) (h : CRep w bc bj bm bd C F) (hd : C.D.dead = false) (ino : Nat) (h1 : 1 ≤ ino) (hin : at_ + ino - 1 < C.blocks)
    (x : Nd) (hk : x.kind ≤ 255) (hs : x.size < 65536) (lv : Value) (hl : SlI w lv (natI x.l)) (h72 : x.l.length ≤ 72) (h16 : ∀ b ∈ x.l, b < 65536) (hm : 8 < x.l.length → x.more < C.blocks)
    (r1 : 8 < x.l.length → x.more ∈ C.ch ∨ C.ch.length < C.most) (r2 : at_ + ino - 1 ∈ (C.moreW x).ch ∨ (C.moreW x).ch.length < C.most) :
    Calls Tryz.prog 53 #[.pointer (some ⟨bt, 0, none⟩), .int .i64 ino, .agg #[.int .i64 x.kind, .int .i64 x.size, lv, .int .i64 x.more]] w fun e w' => e = .returned .nilIface ∧ ∃ F', CRep w' bc bj bm bd (C.nodeW at_ ino x) F' ∧ Kp F w w' ∧ Gr F F' w.heap.size := by
  have t0 := cell_blk hb 0
  have t2 := cell_blk hb 2
  simp at t0 t2
  have hbtl := lt_blk hb
  obtain ⟨u8, hu8, su8⟩ := hl.take_run (min x.l.length 8) (by rw [natI_length]; omega)
  obtain ⟨A, c, rfl, hl1, hl2, hl3⟩ := id hl
  rw [natI_length] at hl1 hu8 ⊢
  have Hl := Lib.hid hl
  have H := Lib.hid h
  have Hd := Lib.hid hd
  have T0 := Lib.hid t0
  have T2 := Lib.hid t2
  have Hu8 := Lib.hid hu8
  have Su8 := Lib.hid su8
  have H16 := Lib.hid h16
  have Hm := Lib.hid hm
  have R1 := Lib.hid r1
  have R2 := Lib.hid r2
  have hfw := h.disk.few
  have hfew := h.few
  clear hl hl3 h hb hd t0 t2 hu8 su8 h16 hm r1 r2
  go_enter Tryz.func53, Tryz.ntmps53
  go_wp2_with (first | (at_make; refine wpList_make128g rfl rfl (w.heap.size + 1) (size_alloc w _) ?_; intro w1 hk1 hr1 hz1; have rc1 := hr1.cellD 0 (by simp); have rf1 := frozen_blk hr1 0; have hb1 := Lib.hid (hk1.blk (new_blk w _) (fun h => h)); have Hr1 := Lib.hid hr1; have Hk1 := Lib.hid (Kp.trans ((Kp.refl (fun _ => False) w).alloc _) hk1 (Gr.refl _ _)); have bx0 := cell_blk hb1.out 0; have bx1 := cell_blk hb1.out 1; have bx2 := cell_blk hb1.out 2; have bx3 := cell_blk hb1.out 3; simp only [List.getElem?_toArray, List.getElem?_cons_zero, List.getElem?_cons_succ] at bx0 bx1 bx2 bx3; clear hr1 hk1))
  have W2 := Lib.hid (show WB w x (.slice A x.l.length c) (nodeR0 x) (w1.setCell ⟨w.heap.size + 1, 0, none⟩ (.int .u8 x.kind)) from ⟨Hk1.out.over (Kp.setCell (F := fun k => k = w.heap.size + 1) (p := ⟨w.heap.size + 1, 0, none⟩) (Kp.refl _ _) (.inl rfl) _) (fun i e => by have : i = w.heap.size + 1 := e; omega), (Kp.setCell (F := fun k => k = w.heap.size + 1) (p := ⟨w.heap.size + 1, 0, none⟩) (Kp.refl _ w1) (.inl rfl) _).blk hb1.out (by omega), Hr1.out.set1 0 _, by rw [World.setCell]; simp; omega⟩)
  clear rc1 rf1 hb1 Hr1 Hk1 bx0 bx1 bx2 bx3 hz1
  generalize w1.setCell ⟨w.heap.size + 1, 0, none⟩ (.int .u8 x.kind) = w2 at *
  go_cut [] (fun W => WB w x (.slice A x.l.length c) (nodeR1 x) W)
  case first =>
    have hl2 : ∀ W : World, Kp (fun k => k = w.heap.size + 1) w2 W → W.cell? ⟨w.heap.size, 1, none⟩ = some (.int .i64 x.size) := fun W hk => hk.cell W2.out.c1 (by simp)
    have hkk : Kp (fun k => k = w.heap.size + 1) w2 w2 := Kp.refl _ _
    go_region_held_law (fun W => Kp (fun k => k = w.heap.size + 1) w2 W)
      (first | exact Kp.refl _ _ | assumption | exact Kp.drew (by assumption) | exact Kp.alloc (by assumption) _ | exact Kp.drew (Kp.alloc (by assumption) _) | exact Kp.trans (by assumption) (by assumption) (Gr.refl _ _))
      (first | (go_at_call 95; refine (inode_numbers _ [x.size] (by first | exact slI_one _ _ | exact slI_oneD _ _) (by simp) (by simp; omega)).mono ?_; rintro e w3 ⟨v3, rfl, hown3, hk3⟩; have hf3 : Kp (fun _ => False) w2 w3 := (by refine Kp.trans (F1 := fun _ => False) ?_ hk3 (Gr.refl _ _); repeat (first | exact Kp.refl _ _ | refine Kp.alloc ?_ _ | refine Kp.drew ?_)); have hs3 : Kp (fun k => k = w.heap.size + 1) w2 w3 := hf3.mono (fun _ h => h.elim)) | (refine step_copyB rfl (.tmp 17) (.tmp 21) rfl (w.heap.size + 1) 1 127 127 rfl _ rfl (nodeR0 x) (numB [x.size]) (W2.out.row.kp hf3 (fun h => h)) (own_slB hown3) (by simp) (by rw [nodeR0_len]; simp) ?_; intro w4 hk4 hz4 hr4; have hs4 : Kp (fun k => k = w.heap.size + 1) w2 w4 := hs3.trans hk4 (Gr.refl _ _)))
    all_goals (go_wp2_with fail; go_meet; exact W2.out.kp' hs4 hr4)
  case rest =>
    have W3 := Lib.hid hcut
    clear hcut W2
    go_upto_region 4 with fail
    go_cut [] (fun W => WB w x (.slice A x.l.length c) (nodeR2 x) W)
    case first =>
      have hl2 : ∀ W : World, Kp (fun k => k = w.heap.size + 1) wc W → W.cell? ⟨w.heap.size, 2, none⟩ = some (.slice A x.l.length c) := fun W hk => hk.cell W3.out.c2 (by simp)
      have hkk : Kp (fun k => k = w.heap.size + 1) wc wc := Kp.refl _ _
      have hu8 : ∀ W : World, (Instr.sliceAt 92 (.slice A x.l.length c) none (some (.int .i64 (min (x.l.length : Int) 8))) none).run Tryz.prog W = .ok u8 W := fun W => by have := Hu8.out W; rwa [show ((min x.l.length 8 : Nat) : Int) = min (x.l.length : Int) 8 by omega] at this
      have su8 : Hid (SlI w u8 (natI (x.l.take 8))) := (show SlI w u8 (natI (x.l.take 8)) by have := Su8.out; rwa [natI_take8] at this)
      go_region_held_law (fun W => Kp (fun k => k = w.heap.size + 1) wc W)
        (first | exact Kp.refl _ _ | assumption | exact Kp.drew (by assumption) | exact Kp.alloc (by assumption) _ | exact Kp.drew (Kp.alloc (by assumption) _) | exact Kp.trans (by assumption) (by assumption) (Gr.refl _ _))
        (first | (go_at_call 95; refine (inode_numbers _ (x.l.take 8) (su8.out.kp (F := fun _ => False) (by refine Kp.trans (F1 := fun _ => False) W3.out.kp ?_ (Gr.refl _ _); repeat (first | exact Kp.refl _ _ | refine Kp.alloc ?_ _ | refine Kp.drew ?_)) (fun _ _ h => h)) (by simp; omega) (fun b hb => H16.out b (List.mem_of_mem_take hb))).mono ?_; rintro e w3 ⟨v3, rfl, hown3, hk3⟩; have hf3 : Kp (fun _ => False) wc w3 := (by refine Kp.trans (F1 := fun _ => False) ?_ hk3 (Gr.refl _ _); repeat (first | exact Kp.refl _ _ | refine Kp.alloc ?_ _ | refine Kp.drew ?_)); have hs3 : Kp (fun k => k = w.heap.size + 1) wc w3 := hf3.mono (fun _ h => h.elim)) | (refine step_copyB rfl (.tmp 24) (.tmp 32) rfl (w.heap.size + 1) 4 124 124 rfl _ rfl (nodeR1 x) (numB (x.l.take 8)) (W3.out.row.kp hf3 (fun h => h)) (own_slB hown3) (by simp; omega) (by rw [nodeR1_len]; simp; omega) ?_; intro w4 hk4 hz4 hr4; have hs4 : Kp (fun k => k = w.heap.size + 1) wc w4 := hs3.trans hk4 (Gr.refl _ _)))
      all_goals (go_wp2_with fail; go_meet; exact W3.out.kp' hs4 hr4)
    case rest =>
      have W4 := Lib.hid hcut
      clear hcut W3
      go_upto_region 5 with fail
      have b2 := W4.out.c2
      by_cases h8 : 8 < x.l.length
      · have h8' : (8 : Int) < (x.l.length : Int) := by omega
        go_upto_region 6 with fail
        clear b2
        go_cut [] (fun W => WB w x (.slice A x.l.length c) (nodeRow x) W)
        case first =>
          have hl3 : ∀ W : World, Kp (fun k => k = w.heap.size + 1) wc W → W.cell? ⟨w.heap.size, 3, none⟩ = some (.int .i64 x.more) := fun W hk => hk.cell W4.out.c3 (by simp)
          have hkk : Kp (fun k => k = w.heap.size + 1) wc wc := Kp.refl _ _
          have hm := Hm.out h8
          go_region_held_law (fun W => Kp (fun k => k = w.heap.size + 1) wc W)
            (first | exact Kp.refl _ _ | assumption | exact Kp.drew (by assumption) | exact Kp.alloc (by assumption) _ | exact Kp.drew (Kp.alloc (by assumption) _) | exact Kp.trans (by assumption) (by assumption) (Gr.refl _ _))
            (first | (go_at_call 95; refine (inode_numbers _ [x.more] (by first | exact slI_one _ _ | exact slI_oneD _ _) (by simp) (by simp; omega)).mono ?_; rintro e w3 ⟨v3, rfl, hown3, hk3⟩; have hf3 : Kp (fun _ => False) wc w3 := (by refine Kp.trans (F1 := fun _ => False) ?_ hk3 (Gr.refl _ _); repeat (first | exact Kp.refl _ _ | refine Kp.alloc ?_ _ | refine Kp.drew ?_)); have hs3 : Kp (fun k => k = w.heap.size + 1) wc w3 := hf3.mono (fun _ h => h.elim)) | (refine step_copyB rfl (.tmp 39) (.tmp 43) rfl (w.heap.size + 1) 20 108 108 rfl _ rfl (nodeR2 x) (numB [x.more]) (W4.out.row.kp hf3 (fun h => h)) (own_slB hown3) (by simp) (by rw [nodeR2_len]; simp) ?_; intro w4 hk4 hz4 hr4; have hs4 : Kp (fun k => k = w.heap.size + 1) wc w4 := hs3.trans hk4 (Gr.refl _ _)))
          all_goals (go_wp2_with fail; go_meet; refine W4.out.kp' hs4 ?_; unfold nodeRow; rw [if_pos h8]; exact hr4)
        case rest =>
          have W5 := Lib.hid hcut
          clear hcut W4
          go_upto_region 7 with fail
          obtain ⟨ud, hud, sud⟩ := Hl.out.drop_run 8 (by rw [natI_length]; omega)
          rw [natI_length] at hud
          rw [natI_drop8] at sud
          have Hud := Lib.hid hud
          have Sud := Lib.hid sud
          have b2 := W5.out.c2
          have Hml := Lib.hid (moreRow_len x h72)
          clear hud sud
          obtain ⟨N, hN⟩ : ∃ N, N = wc.heap.size := ⟨_, rfl⟩
          have hNw : w.heap.size + 2 ≤ N := by rw [hN]; exact W5.out.sz
          have HN := Lib.hid hN
          clear hN
          go_wp2_with (first
            | (at_make; refine wpList_make128g rfl rfl N HN.out.symm ?_; intro w1 hk1 hr1 hz1; have Hr1 := Lib.hid hr1; have Hk1 := Lib.hid hk1; have b2 := hk1.cell b2 (fun h => h); clear hr1 hk1 hz1)
            | ((with_reducible refine at_slice rfl ?_); refine wpList_slice_run rfl _ _ _ _ _ rfl _ _ _ _ _ rfl rfl rfl rfl (Hud.out _) ?_)
            | (go_at_call 95; refine (inode_numbers _ (x.l.drop 8) (Sud.out.kp (F := fun _ => False) (W5.out.kp.trans Hk1.out (Gr.refl _ _)) (fun _ _ h => h)) (by simp; omega) (fun b hb => H16.out b (List.mem_of_mem_drop hb))).mono ?_; rintro e w3 ⟨v3, rfl, hown3, hk3⟩; have Hown3 := Lib.hid hown3; have Hk3 := Lib.hid hk3; clear hown3 hk3)
            | ((with_reducible refine at_copy rfl ?_); (refine wpList_copyB rfl _ _ rfl _ _ _ rfl _ rfl N 0 (zs 128) (numB (x.l.drop 8)) (Hr1.out.kp Hk3.out (fun h => h)) (own_slB Hown3.out) (fun _ => rfl) (by have := nmin_l (numB (x.l.drop 8)).length 128; simp at this ⊢; omega) ?_); intro w4 hk4 hz4 hr4; rw [List.take_of_length_le (by simp; omega)] at hr4; have Hr4 := Lib.hid (show RowE w4 N (moreRow x) from hr4); have Hk4 := Lib.hid (show Kp (fun _ => False) wc w4 from (Hk1.out.trans Hk3.out (Gr.refl _ _)).over hk4 (fun i e => by have : i = N := e; have := HN.out; omega)); clear hk4 hz4 hr4))
          have Hr5 := Lib.hid (W5.out.row.kp Hk4.out (fun h => h))
          have Hc5 := Lib.hid (H.out.kp0 (W5.out.kp.trans Hk4.out (Gr.refl _ _)))
          have Hk5 := Lib.hid (W5.out.kp.trans Hk4.out (Gr.refl _ _))
          have B3 := Lib.hid (Hk4.out.cell W5.out.c3 (fun h => h))
          have hFw : ¬ F w.heap.size := fun hf => by have := H.out.disk.lt _ hf; omega
          have hFg : ¬ F (w.heap.size + 1) := fun hf => by have := H.out.disk.lt _ hf; omega
          have hmb := Hm.out h8
          have hmb' : (x.more : Int) < (C.blocks : Int) := by omega
          have hl0 : ∀ W : World, Kp F w4 W → W.cell? ⟨bt, 0, none⟩ = some (.pointer (some ⟨bc, 0, none⟩)) := fun W hk => hk.cell (Hk5.out.cell T0.out (fun h => h)) hbt
          have hl3 : ∀ W : World, Kp F w4 W → W.cell? ⟨w.heap.size, 3, none⟩ = some (.int .i64 x.more) := fun W hk => hk.cell B3.out hFw
          have hs6 : Kp F w4 w4 := Kp.refl _ _
          have HW := Lib.hid (fun (W : World) (hk : Kp (fun _ => False) w4 W) => cache_Write_ok (Hc5.out.kp0 hk) Hd.out (x.more : Int) 0 (by omega) hmb' (by omega) _ (moreRow x) ((Hr4.out.kp hk (fun h => h)).sl128 Hml.out) (by rw [Hml.out]; omega) (by rw [Int.toNat_natCast]; exact R1.out h8))
          go_region_held_law (fun W => Kp F w4 W)
            (first | exact Kp.refl _ _ | assumption | exact Kp.drew (by assumption))
            (first | (go_at_call 94; refine (HW.out _ (by first | exact Kp.refl _ _ | exact (Kp.refl _ _).drew)).mono ?_; rintro e w6 ⟨rfl, F6, hr6, hk6, hg6⟩; have hk6' : Kp F w4 w6 := Kp.trans (F1 := F) (by first | exact Kp.refl _ _ | exact (Kp.refl _ _).drew) hk6 (Gr.refl _ _)))
          rw [Int.toNat_natCast] at hr6
          have HC6 := Lib.hid (show CRep w6 bc bj bm bd (C.moreW x) F6 by rw [show C.moreW x = C.wr x.more 0 (moreRow x) from if_pos h8]; exact hr6)
          have Hk6 := Lib.hid (show Kp F w w6 from Kp.trans (F1 := F) (Hk5.out.mono (fun _ h => h.elim)) hk6' (Gr.refl _ _))
          have Hg6 := Lib.hid (show Gr F F6 w.heap.size from hg6.mono Hk5.out.size)
          have Hr6 := Lib.hid (show RowE w6 (w.heap.size + 1) (nodeRow x) from Hr5.out.kp hk6' hFg)
          clear hr6 hk6 hk6' hg6 hl0 hl3 hs6 b2 hmb'
          go_wp2_with fail
          have hin' : (at_ : Int) + (ino : Int) - 1 < (C.blocks : Int) := by omega
          have E1 := Lib.hid (show ((at_ : Int) + (ino : Int) - 1).toNat = at_ + ino - 1 by omega)
          have hC6 : (C.moreW x).blocks = C.blocks ∧ (C.moreW x).D = C.D ∧ (C.moreW x).most = C.most := by unfold CSt.moreW; split <;> exact ⟨rfl, rfl, rfl⟩
          have HB6 := Lib.hid hC6.1
          have HD6 := Lib.hid hC6.2.1
          have HM6 := Lib.hid hC6.2.2
          have HN6 := Lib.hid (Hg6.out.not hbt hbtl)
          have hl0 : ∀ W : World, Kp F6 w6 W → W.cell? ⟨bt, 0, none⟩ = some (.pointer (some ⟨bc, 0, none⟩)) := fun W hk => hk.cell (Hk6.out.cell T0.out hbt) HN6.out
          have hl2 : ∀ W : World, Kp F6 w6 W → W.cell? ⟨bt, 2, none⟩ = some (.int .i64 at_) := fun W hk => hk.cell (Hk6.out.cell T2.out hbt) HN6.out
          have hs6 : Kp F6 w6 w6 := Kp.refl _ _
          have q1 : IntKind.i64.wrap ((at_ : Int) + (ino : Int)) = (at_ : Int) + (ino : Int) := IntWalk.i64_in _ (by omega)
          have q2 : IntKind.i64.wrap ((at_ : Int) + (ino : Int) - 1) = (at_ : Int) + (ino : Int) - 1 := IntWalk.i64_in _ (by omega)
          have HW := Lib.hid (fun (W : World) (hk : Kp (fun _ => False) w6 W) => cache_Write_ok (HC6.out.kp0 hk) (by rw [HD6.out]; exact Hd.out) ((at_ : Int) + (ino : Int) - 1) 0 (by omega) (by rw [HB6.out]; omega) (by omega) _ (nodeRow x) ((Hr6.out.kp hk (fun h => h)).sl128 (nodeRow_len x)) (by rw [nodeRow_len]; omega) (by rw [E1.out, HM6.out]; exact R2.out))
          clear hC6
          go_region_held_law (fun W => Kp F6 w6 W)
            (first | exact Kp.refl _ _ | assumption | exact Kp.drew (by assumption))
            (first | (go_at_call 94; refine (HW.out _ (by first | exact Kp.refl _ _ | exact (Kp.refl _ _).drew)).mono ?_; rintro e w7 ⟨rfl, F7, hr7, hk7, hg7⟩; have hk7' : Kp F6 w6 w7 := Kp.trans (F1 := F6) (by first | exact Kp.refl _ _ | exact (Kp.refl _ _).drew) hk7 (Gr.refl _ _)))
          go_wp2_with fail
          go_ret
          rw [E1.out] at hr7
          exact ⟨rfl, F7, hr7, (Hk6.out.trans (F1 := F6) hk7' Hg6.out), Hg6.out.trans hg7 (Nat.le_trans Hk6.out.size (by first | exact Nat.le_refl _))⟩
      · have h8' : ¬ (8 : Int) < (x.l.length : Int) := by omega
        go_wp2_with fail
        have hmw : C.moreW x = C := if_neg h8
        have HC6 := Lib.hid (show CRep wc bc bj bm bd (C.moreW x) F by rw [hmw]; exact H.out.kp0 W4.out.kp)
        have Hk6 := Lib.hid (show Kp F w wc from W4.out.kp.mono (fun _ h => h.elim))
        have Hg6 := Lib.hid (Gr.refl F w.heap.size)
        have Hr6 := Lib.hid (show RowE wc (w.heap.size + 1) (nodeRow x) by have := W4.out.row; rwa [show nodeR2 x = nodeRow x by unfold nodeRow; rw [if_neg h8]] at this)
        clear hmw b2
        generalize wc = w6 at *
        obtain ⟨F6, hF6⟩ : ∃ F6, F6 = F := ⟨_, rfl⟩
        rw [← hF6] at HC6
        have Hg6 : Hid (Gr F F6 w.heap.size) := Lib.hid (show Gr F F6 w.heap.size by rw [hF6]; exact Gr.refl _ _)
        clear hF6
        have hin' : (at_ : Int) + (ino : Int) - 1 < (C.blocks : Int) := by omega
        have E1 := Lib.hid (show ((at_ : Int) + (ino : Int) - 1).toNat = at_ + ino - 1 by omega)
        have hC6 : (C.moreW x).blocks = C.blocks ∧ (C.moreW x).D = C.D ∧ (C.moreW x).most = C.most := by unfold CSt.moreW; split <;> exact ⟨rfl, rfl, rfl⟩
        have HB6 := Lib.hid hC6.1
        have HD6 := Lib.hid hC6.2.1
        have HM6 := Lib.hid hC6.2.2
        have HN6 := Lib.hid (Hg6.out.not hbt hbtl)
        have hl0 : ∀ W : World, Kp F6 w6 W → W.cell? ⟨bt, 0, none⟩ = some (.pointer (some ⟨bc, 0, none⟩)) := fun W hk => hk.cell (Hk6.out.cell T0.out hbt) HN6.out
        have hl2 : ∀ W : World, Kp F6 w6 W → W.cell? ⟨bt, 2, none⟩ = some (.int .i64 at_) := fun W hk => hk.cell (Hk6.out.cell T2.out hbt) HN6.out
        have hs6 : Kp F6 w6 w6 := Kp.refl _ _
        have q1 : IntKind.i64.wrap ((at_ : Int) + (ino : Int)) = (at_ : Int) + (ino : Int) := IntWalk.i64_in _ (by omega)
        have q2 : IntKind.i64.wrap ((at_ : Int) + (ino : Int) - 1) = (at_ : Int) + (ino : Int) - 1 := IntWalk.i64_in _ (by omega)
        have HW := Lib.hid (fun (W : World) (hk : Kp (fun _ => False) w6 W) => cache_Write_ok (HC6.out.kp0 hk) (by rw [HD6.out]; exact Hd.out) ((at_ : Int) + (ino : Int) - 1) 0 (by omega) (by rw [HB6.out]; omega) (by omega) _ (nodeRow x) ((Hr6.out.kp hk (fun h => h)).sl128 (nodeRow_len x)) (by rw [nodeRow_len]; omega) (by rw [E1.out, HM6.out]; exact R2.out))
        clear hC6
        go_region_held_law (fun W => Kp F6 w6 W)
          (first | exact Kp.refl _ _ | assumption | exact Kp.drew (by assumption))
          (first | (go_at_call 94; refine (HW.out _ (by first | exact Kp.refl _ _ | exact (Kp.refl _ _).drew)).mono ?_; rintro e w7 ⟨rfl, F7, hr7, hk7, hg7⟩; have hk7' : Kp F6 w6 w7 := Kp.trans (F1 := F6) (by first | exact Kp.refl _ _ | exact (Kp.refl _ _).drew) hk7 (Gr.refl _ _)))
        go_wp2_with fail
        go_ret
        rw [E1.out] at hr7
        exact ⟨rfl, F7, hr7, (Hk6.out.trans (F1 := F6) hk7' Hg6.out), Hg6.out.trans hg7 (Nat.le_trans Hk6.out.size (by first | exact Nat.le_refl _))⟩
end Go.Proofs.YthjbpbahcemfgaaGreatDoor
