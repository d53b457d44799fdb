/- Inodes: an inode is read. -/
import Derived.Test.YthjbpbahcemfgaaGreatDoorInoW
namespace Go.Proofs.YthjbpbahcemfgaaGreatDoor
open Go.RowKit
set_option maxHeartbeats 4000000
set_option maxRecDepth 20000

/-- What the bytes of a table's block and of the block behind it must be to be read as this inode. -/
structure Img (C : CSt) (no : Nat) (x : Nd) : Prop where
  row : C.view no = nodeRow x
  mor : 8 < x.l.length → C.view x.more = moreRow x
  kind : x.kind ≤ 2
  size : x.size ≤ 4000
  len : x.l.length = dat x.size
  lo : ∀ b ∈ x.l, b < 65536
  mlt : 8 < x.l.length → x.more < C.blocks
  m0 : ¬ 8 < x.l.length → x.more = 0

/-- A call of a Go function, as a step of a region that draws its order (for go_region_law). -/
theorem step_callF {w : World} {ops : Array Oper} {o : Oper} {a : Act} {K : Act → World → Prop} {Q : Exit → Act → World → Prop} {E : Prop} (hgd : o.guard = none) (f : Nat) (xs : Array Operand) (ts : Array TypeId)
    (ho : o.op = .call { callee := .value (.func f), args := xs, argTypes := ts }) (vs : Array Value) (hv : xs.map a.eval = vs) (R : Value → World → Prop) (hcf : (callFunc f vs).run Tryz.prog w = .ok (.enter f vs) w)
    (hc : Calls Tryz.prog f vs w (fun e w' => ∃ v, e = .returned v ∧ R v w')) (h : ∀ v w', R v w' → K (a.put o.dst v) w') :
    if Region.wanted o (yielded ops a.tmps) = true then Oper.wp Tryz.prog o a w K Q else E := by
  have hw : Region.wanted o (yielded ops a.tmps) = true := by simp [Region.wanted, hgd]
  rw [if_pos hw]
  have hrun : (execOp a.eval o).run Tryz.prog w = .ok (.enter f vs) w := by
    unfold execOp
    simp [ho, resolve, hv, Act.eval, invoke, Deferred.ofValue, hcf]
  unfold Oper.wp
  rw [hrun, Oper.upon_enter]
  refine hc.mono ?_
  rintro e w' ⟨v, rfl, hr⟩
  exact h v w' hr
theorem cf_list (vs : Array Value) (w : World) : (callFunc 121 vs).run Tryz.prog w = .ok (.enter 121 vs) w := by
  have h := Tryz.func121
  simp [callFunc, Result.andThen, h, Tryz.f121]
theorem own_shape {w : World} {base e s n : Nat} {v : Value} {xs : List Value} (h : w.ownsRow base e s v n xs) : ∃ A c, v = .slice A n c := by
  obtain ⟨_, ⟨rfl, h0⟩ | ⟨g, cap, cur, rfl, _⟩⟩ := h
  · exact ⟨none, 0, by rw [h0]⟩
  · exact ⟨_, _, rfl⟩
theorem own_ne {w : World} {base e s n p t : Nat} {v : Value} {xs : List Value} {cs : Array Value} {fr : Nat × Nat} (h : w.ownsRow base e s v n xs) (hp : w.heap[p]? = some (.cells cs t fr)) (ht : t ≠ e) : ∀ g, v.ownBlock = some g → ¬ g = p := by
  intro g hg e0
  subst e0
  obtain ⟨_, ⟨rfl, h0⟩ | ⟨g', cap, cur, rfl, _, h4, _⟩⟩ := h
  · cases hg
  · simp only [Value.ownBlock, Option.some.injEq] at hg
    subst hg
    rw [hp] at h4
    simp only [Option.some.injEq, Obj.cells.injEq] at h4
    exact ht h4.2.1
theorem own_low {w : World} {base base' e s n : Nat} {v : Value} {xs : List Value} (h : w.ownsRow base e s v n xs) (hb : base' ≤ base) : w.ownsRow base' e s v n xs := by
  obtain ⟨h1, h2 | ⟨g', cap, cur, rfl, h3, h4⟩⟩ := h
  · exact ⟨h1, .inl h2⟩
  · exact ⟨h1, .inr ⟨g', cap, cur, rfl, Nat.le_trans hb h3, h4⟩⟩
theorem own_pos {w : World} {base e s n : Nat} {v : Value} {xs : List Value} (h : w.ownsRow base e s v n xs) (hn : 0 < n) : ∃ g c, v = .slice (some ⟨g, 0, none⟩) n c ∧ base ≤ g ∧ g < w.heap.size ∧ n ≤ c ∧ c ≤ maxLen := by
  obtain ⟨h1, ⟨_, h0⟩ | ⟨g', cap, cur, rfl, h3, h4, h5, h6, _⟩⟩ := h
  · omega
  · exact ⟨g', cap, rfl, h3, lt_blk h4, h5, h6⟩
theorem Row.sl128 {w : World} {g : Nat} {xs : List Int} (h : Row w g xs) (hl : xs.length = 128) : Sl w (.slice (some ⟨g, 0, none⟩) 128 128) xs := by
  have := h.sl 128 (by omega) (by simp [maxLen]); rw [hl] at this; exact this
theorem Row.slD {w : World} {g : Nat} {xs : List Int} (h : Row w g xs) (hl : xs.length = 128) (m k : Nat) (hm : m < 128) (hk : k = 128 - m) : Sl w (.slice (some ⟨g, m, none⟩) k k) (xs.drop m) := by
  have := (h.sl128 hl).drop (m := m) (by omega) hm
  rw [add0] at this
  rw [hk]; exact this
theorem set4 {W : World} {p t : Nat} {a b c d a' b' c' d' : Value} (h : W.heap[p]? = some (.cells #[a, b, c, d] t (0, 0))) :
    ((((W.setCell ⟨p, 0, none⟩ a').setCell ⟨p, 1, none⟩ b').setCell ⟨p, 2, none⟩ c').setCell ⟨p, 3, none⟩ d').heap[p]? = some (.cells #[a', b', c', d'] t (0, 0)) := by
  rw [set_blk (set_blk (set_blk (set_blk h 0 a') 1 b') 2 c') 3 d']; rfl
theorem set4_kp {F : Nat → Prop} {w W : World} {p : Nat} {a' b' c' d' : Value} (h : Kp F w W) (hp : F p ∨ w.heap.size ≤ p) :
    Kp F w ((((W.setCell ⟨p, 0, none⟩ a').setCell ⟨p, 1, none⟩ b').setCell ⟨p, 2, none⟩ c').setCell ⟨p, 3, none⟩ d') :=
  Kp.setCell (Kp.setCell (Kp.setCell (Kp.setCell h hp _) hp _) hp _) hp _
/-- A new block for an inode. -/
def nz : Obj := .cells #[.int .i64 0, .int .i64 0, .slice none 0 0, .int .i64 0] 94
theorem nz_at (w : World) (n : Nat) : ((w.drewN n).alloc nz).heap[w.heap.size]? = some nz := new_blk (w.drewN n) nz
theorem nz_at' (w : World) (n : Nat) : ((w.alloc nz).drewN n).heap[w.heap.size]? = some nz := new_blk w nz
theorem nz_at0 (w : World) : (w.alloc nz).heap[w.heap.size]? = some nz := new_blk w nz
/-- What the last region of read leaves. -/
theorem inoR_fin {w0 w6 w7 w8 : World} {p wcs g8 cap8 k3 : Nat} {A3 : Option Addr} {x : Nd} (hp6 : w6.heap[p]? = some (.cells ((#[.int .i64 x.kind, .int .i64 x.size, .slice none 0 0, .int .i64 0].setIfInBounds 2 (.slice A3 8 k3)).setIfInBounds 3 (.int .i64 x.more)) 94 (0, 0)))
    (ho6 : w6.ownsRow wcs 3 1 (.slice A3 8 k3) 8 (ints (natI (x.l.take 8)))) (hk6 : Kp (fun _ => False) w0 w6) (hk7 : Kp (fun _ => False) w6 w7) (hkg : Kp (fun k => (Value.slice A3 8 k3).ownBlock = some k) w7 w8)
    (ho8 : w8.ownsRow wcs 3 1 (.slice (some ⟨g8, 0, none⟩) (8 + (x.l.length - 8)) cap8) (8 + (x.l.length - 8)) (ints (natI (x.l.take 8)) ++ ints (natI (x.l.drop 8)))) (hne : ¬ (Value.slice A3 8 k3).ownBlock = some p) (h8 : 8 < x.l.length) (hp : w0.heap.size ≤ p) (hw : w0.heap.size ≤ wcs) :
    ∃ lv, (w8.setCell ⟨p, 2, none⟩ (.slice (some ⟨g8, 0, none⟩) (8 + (x.l.length - 8)) cap8)).heap[p]? = some (.cells #[.int .i64 x.kind, .int .i64 x.size, lv, .int .i64 x.more] 94 (0, 0)) ∧
      (w8.setCell ⟨p, 2, none⟩ (.slice (some ⟨g8, 0, none⟩) (8 + (x.l.length - 8)) cap8)).ownsRow wcs 3 1 lv x.l.length (ints (natI x.l)) ∧ Kp (fun _ => False) w0 (w8.setCell ⟨p, 2, none⟩ (.slice (some ⟨g8, 0, none⟩) (8 + (x.l.length - 8)) cap8)) := by
  have hp8 := hkg.blk (hk7.blk hp6 (fun h => h)) hne
  have hkp := Kp.setCell (F := fun k => k = p) (p := ⟨p, 2, none⟩) (Kp.refl _ w8) (.inl rfl) (.slice (some ⟨g8, 0, none⟩) (8 + (x.l.length - 8)) cap8)
  have ho := own_kp ho8 hkp (own_ne ho8 hp8 (by decide))
  have e : 8 + (x.l.length - 8) = x.l.length := by omega
  refine ⟨.slice (some ⟨g8, 0, none⟩) (8 + (x.l.length - 8)) cap8, ?_, ?_, ?_⟩
  · rw [set_blk hp8 2]; rfl
  · rw [← ints_app, show natI (x.l.take 8) ++ natI (x.l.drop 8) = natI x.l by unfold natI; rw [← List.map_append, List.take_append_drop]] at ho
    rw [e] at ho ⊢
    exact ho
  · have h1 : Kp (fun _ => False) w0 w8 := (hk6.trans hk7 (Gr.refl _ _)).over hkg (fun i hi => by have := (ho6.lt i hi).1; omega)
    exact h1.over hkp (fun i hi => by have : i = p := hi; omega)

theorem inode_read {w : World} {bt bx bc bj bm bd at_ n : Nat} {C : CSt} {F : Nat → Prop} (hb : TBlk w bt bc bx at_ n) (h : CRep w bc bj bm bd C F) (hd : C.D.dead = false) (ino : Nat) (h1 : 1 ≤ ino) (hin : at_ + ino - 1 < C.blocks)
    (x : Nd) (hx : Img C (at_ + ino - 1) x) :
    Calls Tryz.prog 77 #[.pointer (some ⟨bt, 0, none⟩), .int .i64 ino] w fun e w' => ∃ lv, e = .returned (.tuple #[.agg #[.int .i64 x.kind, .int .i64 x.size, lv, .int .i64 x.more], .nilIface]) ∧ w'.ownsRow w.heap.size 3 1 lv x.l.length (ints (natI x.l)) ∧ Kp (fun _ => False) w w' := by
  have t0 := cell_blk hb 0
  have t2 := cell_blk hb 2
  simp at t0 t2
  have hbtl := lt_blk hb
  have hfw := h.disk.few
  have hfew := h.few
  have T0 := Lib.hid t0
  have T2 := Lib.hid t2
  have HR := Lib.hid (fun (W : World) (hk : Kp (fun _ => False) w W) (no : Int) (h0 : 0 ≤ no) (h1 : no < C.blocks) => cache_Read_ok (h.kp0 hk) hd no h0 h1)
  have HX := Lib.hid hx
  have E1 := Lib.hid (show ((at_ : Int) + (ino : Int) - 1).toNat = at_ + ino - 1 by omega)
  clear hb h hd t0 t2 hx
  go_enter Tryz.func77, Tryz.ntmps77
  go_upto_region 1 with fail
  generalize hw0 : w.alloc _ = w0
  have Hk0 := Lib.hid (show Kp (fun _ => False) w w0 by rw [← hw0]; exact (Kp.refl _ w).alloc _)
  have hb0 : w.heap.size < w0.heap.size := by rw [← hw0, size_alloc]; omega
  have HB0 := Lib.hid (show w0.heap[w.heap.size]? = some (.cells #[.int .i64 0, .int .i64 0, .slice none 0 0, .int .i64 0] 94 (0, 0)) by rw [← hw0]; exact new_blk w _)
  clear hw0
  have q1 : IntKind.i64.wrap ((at_ : Int) + (ino : Int)) = (at_ : Int) + (ino : Int) := IntWalk.i64_in _ (by omega)
  have q2 : IntKind.i64.wrap ((at_ : Int) + (ino : Int) - 1) = (at_ : Int) + (ino : Int) - 1 := IntWalk.i64_in _ (by omega)
  have hl0 : ∀ W : World, Kp (fun _ => False) w0 W → W.cell? ⟨bt, 0, none⟩ = some (.pointer (some ⟨bc, 0, none⟩)) := fun W hk => hk.cell (Hk0.out.cell T0.out (fun h => h)) (fun h => h)
  have hl2 : ∀ W : World, Kp (fun _ => False) w0 W → W.cell? ⟨bt, 2, none⟩ = some (.int .i64 at_) := fun W hk => hk.cell (Hk0.out.cell T2.out (fun h => h)) (fun h => h)
  have hs0 : Kp (fun _ => False) w0 w0 := Kp.refl _ _
  go_region_held_law (fun W => Kp (fun _ => False) w0 W)
    (first | exact Kp.refl _ _ | assumption | exact Kp.drew (by assumption) | exact Kp.trans (by assumption) (by assumption) (Gr.refl _ _))
    (first | (go_at_call 96; refine (HR.out _ (Hk0.out.trans (F1 := fun _ => False) (by first | exact Kp.refl _ _ | exact (Kp.refl _ _).drew) (Gr.refl _ _)) _ (by omega) (by omega)).mono ?_; rintro e w1 ⟨g, rfl, hr1, hk1, hg1⟩; have hk1' : Kp (fun _ => False) w0 w1 := Kp.trans (F1 := fun _ => False) (by first | exact Kp.refl _ _ | exact (Kp.refl _ _).drew) hk1 (Gr.refl _ _)))
  rw [E1.out, HX.out.row] at hr1
  have Hr1 := Lib.hid hr1
  have Hk1 := Lib.hid (show Kp (fun _ => False) w0 w1 from hk1')
  clear hr1 hk1 hk1' hl0 hl2 hs0 q1 q2 hg1
  go_upto_region 4 with fail
  go_cut [8] (fun u8 W => ∃ p, u8 = .pointer (some ⟨p, 0, none⟩) ∧ w1.heap.size ≤ p ∧ W.heap[p]? = some (.cells #[.int .i64 x.kind, .int .i64 x.size, .slice none 0 0, .int .i64 0] 94 (0, 0)) ∧ Kp (fun _ => False) w1 W)
  case first =>
    have hl0 : ∀ W : World, Kp (fun _ => False) w1 W → W.cell? ⟨g, 0, none⟩ = some (.int .u8 x.kind) := fun W hk => hk.cell (by
      have := Hr1.out.cells 0 (.int .u8 x.kind) (by
        have h0 := nodeRow_kind x
        rw [List.getD_eq_getElem?_getD] at h0
        have hl : 0 < (nodeRow x).length := by rw [nodeRow_len]; omega
        rw [List.getElem?_eq_getElem hl] at h0
        simp only [bs, List.getElem?_map, List.getElem?_eq_getElem hl, Option.map_some]
        rw [show (nodeRow x)[0] = (x.kind : Int) from h0])
      rwa [add0] at this) (fun h => h)
    have hkk := HX.out.kind
    have q1 : IntKind.i64.wrap (x.kind : Int) = (x.kind : Int) := IntWalk.i64_in _ (by omega)
    have hs1 : Kp (fun _ => False) w1 w1 := Kp.refl _ _
    clear hkk
    have Hnum : Hid (num2 (nodeRow x).tail 0 = (x.size : Int)) := (show num2 (nodeRow x).tail 0 = (x.size : Int) by rw [← List.drop_one, num2_drop]; exact nodeRow_size x (by have := HX.out.size; omega))
    have c0 := hl0 w1 (Kp.refl _ _)
    have hsl := Lib.hid (Hr1.out.slD (nodeRow_len x) 1 127 (by omega) rfl)
    have hbb := Lib.hid (show Byt ((nodeRow x).drop 1) from fun y hy => nodeRow_byt x (by have := HX.out.kind; omega) y (List.mem_of_mem_drop hy))
    have hln := Lib.hid (show 2 ≤ ((nodeRow x).drop 1).length by rw [List.length_drop, nodeRow_len]; omega)
    have zg : ∀ n, ((w1.drewN n).alloc (.cells #[.int .i64 0, .int .i64 0, .slice none 0 0, .int .i64 0] 94)).cell? ⟨g, 0, none⟩ = some (.int .u8 x.kind) := fun n => hl0 _ (Kp.alloc (Kp.drewN hs1 n) _)
    have zg0 : (w1.alloc (.cells #[.int .i64 0, .int .i64 0, .slice none 0 0, .int .i64 0] 94)).cell? ⟨g, 0, none⟩ = some (.int .u8 x.kind) := hl0 _ (Kp.alloc hs1 _)
    clear hl0 hs1
    have hgl := Hr1.out.lt
    have z0 : ∀ n, ((w1.drewN n).alloc (.cells #[.int .i64 0, .int .i64 0, .slice none 0 0, .int .i64 0] 94)).cell? ⟨w1.heap.size, 0, none⟩ = some (.int .i64 0) := fun n => cell_blk (new_blk (w1.drewN n) _) 0
    have z1 : ∀ n, ((w1.drewN n).alloc (.cells #[.int .i64 0, .int .i64 0, .slice none 0 0, .int .i64 0] 94)).cell? ⟨w1.heap.size, 1, none⟩ = some (.int .i64 0) := fun n => cell_blk (new_blk (w1.drewN n) _) 1
    have z2 : ∀ n, ((w1.drewN n).alloc (.cells #[.int .i64 0, .int .i64 0, .slice none 0 0, .int .i64 0] 94)).cell? ⟨w1.heap.size, 2, none⟩ = some (.slice none 0 0) := fun n => cell_blk (new_blk (w1.drewN n) _) 2
    have z3 : ∀ n, ((w1.drewN n).alloc (.cells #[.int .i64 0, .int .i64 0, .slice none 0 0, .int .i64 0] 94)).cell? ⟨w1.heap.size, 3, none⟩ = some (.int .i64 0) := fun n => cell_blk (new_blk (w1.drewN n) _) 3
    have zf : ∀ n i, ((w1.drewN n).alloc (.cells #[.int .i64 0, .int .i64 0, .slice none 0 0, .int .i64 0] 94)).frozen? ⟨w1.heap.size, i, none⟩ = false := fun n i => frozen_blk (new_blk (w1.drewN n) _) i
    go_region_with (first | (go_at_call 120; refine (inode_number _ ((nodeRow x).drop 1) (hsl.out.kp (F := fun _ => False) (by repeat (first | exact Kp.refl _ _ | refine Kp.drew ?_ | refine Kp.drewN ?_ _ | refine Kp.alloc ?_ _)) (fun _ _ h => h)) hln.out hbb.out).mono ?_; rintro e w3 ⟨rfl, q, rfl⟩))
    all_goals (go_wp2_with fail; go_meet; rw [Hnum.out]; exact ⟨_, rfl, Nat.le_refl _, (by first | exact set4 (nz_at _ _) | exact set4 (nz_at' _ _) | exact set4 (nz_at0 _)), set4_kp (by repeat (first | exact Kp.refl _ _ | refine Kp.drew ?_ | refine Kp.drewN ?_ _ | refine Kp.alloc ?_ _)) (.inr (Nat.le_refl _))⟩)
  case rest =>
    obtain ⟨p, rfl, hp, hpb, hkc⟩ := hcut
    have Hpb := Lib.hid hpb
    have Hk2 := Lib.hid (Hk1.out.trans hkc (Gr.refl _ _))
    have Hr2 := Lib.hid (Hr1.out.kp hkc (fun h => h))
    have hgl1 := Hr1.out.lt
    have hs01 := Hk0.out.size
    have hs12 := Hk1.out.size
    have c0 := cell_blk hpb 0
    have c1 := cell_blk hpb 1
    have c2 := cell_blk hpb 2
    have f2 := frozen_blk hpb 2
    simp at c0 c1 c2
    have hkd : ¬ (2 : Int) < (x.kind : Int) := by have := HX.out.kind; omega
    have hkz : ¬ (4000 : Int) < (x.size : Int) := by have := HX.out.size; omega
    have HD := Lib.hid (fun W : World => (by have h := inode_data (w := W) x.size (by have := HX.out.size; omega); rw [← HX.out.len] at h; exact h : Calls Tryz.prog 91 #[.int .i64 x.size] W fun e w' => e = .returned (.int .i64 x.l.length) ∧ W = w'))
    have hl32 : x.l.length ≤ 32 := by rw [HX.out.len]; have := HX.out.size; unfold dat; omega
    have Hby := Lib.hid (nodeRow_byt x (by have := HX.out.kind; omega))
    have HL := Lib.hid (show Calls Tryz.prog 121 #[.slice (some ⟨g, 4, none⟩) 124 124, .int .i64 (min (x.l.length : Int) 8)] wc (fun e w' => ∃ v', e = .returned v' ∧ w'.ownsRow wc.heap.size 3 1 v' (min x.l.length 8) (ints (natI (x.l.take 8))) ∧ Kp (fun _ => False) wc w') from by
      have h := inode_list _ ((nodeRow x).drop 4) (Hr2.out.slD (nodeRow_len x) 4 124 (by omega) rfl) (min x.l.length 8) (by rw [List.length_drop, nodeRow_len]; omega) (by rw [List.length_drop, nodeRow_len]; omega) (fun y hy => Hby.out y (List.mem_of_mem_drop hy))
      rw [lst_drop, nodeRow_lst x HX.out.lo, show ((min x.l.length 8 : Nat) : Int) = min (x.l.length : Int) 8 by omega] at h
      exact h)
    have hpl : p < wc.heap.size := lt_blk hpb
    clear hpb hkc Hr1 Hk1
    go_upto_region 7 with fail
    go_wp2_with fail
    refine (HD.out _).mono ?_
    rintro e w3 ⟨rfl, rfl⟩
    go_upto_region 8 with fail
    clear HD
    go_wp2_with fail
    refine (HL.out).mono ?_
    rintro e w3 ⟨v3, rfl, hown3, hk3⟩
    obtain ⟨A3, k3, rfl⟩ := own_shape hown3
    have Hown3 := Lib.hid hown3
    have Hk3 := Lib.hid hk3
    replace c2 := hk3.cell c2 (fun h => h)
    replace f2 := hk3.frz f2 hpl (fun h => h)
    clear hown3 hk3 HL c0 c1
    go_upto_region 9 with fail
    have Hp3 := Lib.hid (Hk3.out.blk Hpb.out (fun h => h))
    have hkp3 := (Kp.setCell (F := fun k => k = p) (p := ⟨p, 2, none⟩) (Kp.refl _ w3) (.inl rfl) (.slice A3 (min x.l.length 8) k3))
    have Hp4 := Lib.hid (set_blk Hp3.out 2 (.slice A3 (min x.l.length 8) k3))
    have Hown4 := Lib.hid (own_kp Hown3.out hkp3 (own_ne Hown3.out Hp3.out (by decide)))
    have Hk4 := Lib.hid ((Hk2.out.trans Hk3.out (Gr.refl _ _)).over hkp3 (fun i e => by have : i = p := e; omega))
    have Hr4 := Lib.hid ((Hr2.out.kp Hk3.out (fun h => h)).kp hkp3 (by omega))
    clear hkp3 c2 f2 Hown3 Hpb Hk2 Hr2
    generalize w3.setCell ⟨p, 2, none⟩ (.slice A3 (min x.l.length 8) k3) = w4 at *
    have HB4 := Lib.hid (Hk4.out.blk HB0.out (fun h => h))
    by_cases h8 : 8 < x.l.length
    · have h8' : (8 : Int) < (x.l.length : Int) := by omega
      have hmx := HX.out.mlt h8
      have HN := Lib.hid (show Calls Tryz.prog 120 #[.slice (some ⟨g, 20, none⟩) 108 108] w4 (fun e w' => e = .returned (.int .i64 x.more) ∧ ∃ k, w' = w4.drewN k) from by
        have h := inode_number _ ((nodeRow x).drop 20) (Hr4.out.slD (nodeRow_len x) 20 108 (by omega) rfl) (by rw [List.length_drop, nodeRow_len]; omega) (fun y hy => Hby.out y (List.mem_of_mem_drop hy))
        rw [num2_drop, nodeRow_more x h8 (by omega)] at h
        exact h)
      have c3 := cell_blk Hp4.out 3
      have f3 := frozen_blk Hp4.out 3
      simp at c3
      go_upto_region 10 with fail
      go_wp2_with fail
      refine HN.out.mono ?_
      rintro e wn ⟨rfl, q, hq⟩
      have hkq : Kp (fun _ => False) w4 wn := by rw [hq]; exact (Kp.refl _ _).drewN q
      have Hp4' := Lib.hid (hkq.blk Hp4.out (fun h => h))
      have Hown4' := Lib.hid (own_kp0 Hown4.out hkq)
      have Hk4' := Lib.hid (Hk4.out.trans hkq (Gr.refl _ _))
      have HB4' := Lib.hid (hkq.blk HB4.out (fun h => h))
      replace c3 := hkq.cell c3 (fun h => h)
      replace f3 := hkq.frz f3 (lt_blk Hp4.out) (fun h => h)
      clear hq hkq HN Hp4 Hown4 Hk4 HB4
      go_upto_region 11 with fail
      have hkp5 := (Kp.setCell (F := fun k => k = p) (p := ⟨p, 3, none⟩) (Kp.refl _ wn) (.inl rfl) (.int .i64 x.more))
      have Hp5 := Lib.hid (set_blk Hp4'.out 3 (.int .i64 x.more))
      have Hown5 := Lib.hid (own_kp Hown4'.out hkp5 (own_ne Hown4'.out Hp4'.out (by decide)))
      have Hk5 := Lib.hid (Hk4'.out.over hkp5 (fun i e => by have : i = p := e; omega))
      have HB5 := Lib.hid (hkp5.blk HB4'.out (by omega))
      clear hkp5 c3 f3 Hp4' Hown4' Hk4' HB4' Hr4
      generalize wn.setCell ⟨p, 3, none⟩ (.int .i64 x.more) = w5 at *
      have hl0 : ∀ W : World, Kp (fun _ => False) w5 W → W.cell? ⟨bt, 0, none⟩ = some (.pointer (some ⟨bc, 0, none⟩)) := fun W hk => hk.cell (Hk5.out.cell (Hk0.out.cell T0.out (fun h => h)) (fun h => h)) (fun h => h)
      have hl3 : ∀ W : World, Kp (fun _ => False) w5 W → W.cell? ⟨p, 3, none⟩ = some (.int .i64 x.more) := fun W hk => hk.cell (by rw [cell_blk Hp5.out]; simp) (fun h => h)
      have hs5 : Kp (fun _ => False) w5 w5 := Kp.refl _ _
      go_region_held_law (fun W => Kp (fun _ => False) w5 W)
        (first | exact Kp.refl _ _ | assumption | exact Kp.drew (by assumption) | exact Kp.trans (by assumption) (by assumption) (Gr.refl _ _))
        (first | (go_at_call 96; refine (HR.out _ ((Hk0.out.trans Hk5.out (Gr.refl _ _)).trans (F1 := fun _ => False) (by first | exact Kp.refl _ _ | exact (Kp.refl _ _).drew) (Gr.refl _ _)) (x.more : Int) (by omega) (by omega)).mono ?_; rintro e w6 ⟨g6, rfl, hr6, hk6, hg6⟩; have hk6' : Kp (fun _ => False) w5 w6 := Kp.trans (F1 := fun _ => False) (by first | exact Kp.refl _ _ | exact (Kp.refl _ _).drew) hk6 (Gr.refl _ _)))
      rw [Int.toNat_natCast, HX.out.mor h8] at hr6
      have hk56 : Kp (fun _ => False) w5 w6 := hk6'
      have Hr6 := Lib.hid hr6
      have Hp6 := Lib.hid (hk56.blk Hp5.out (fun h => h))
      have Hown6 := Lib.hid (own_kp0 Hown5.out hk56)
      have Hk6 := Lib.hid (Hk5.out.trans hk56 (Gr.refl _ _))
      have HB6 := Lib.hid (hk56.blk HB5.out (fun h => h))
      clear hr6 hk6 hk6' hk56 hl0 hl3 hs5 hg6 Hp5 Hown5 Hk5 HB5
      go_upto_region 14 with fail
      have e8 : min x.l.length 8 = 8 := by omega
      rw [e8] at Hp6 Hown6
      clear e8
      have Hn8 : 0 < x.l.length - 8 := by omega
      have HL2 := Lib.hid (fun (W : World) (hk : Kp (fun _ => False) w6 W) => (show Calls Tryz.prog 121 #[.slice (some ⟨g6, 0, none⟩) 128 128, .int .i64 ((x.l.length : Int) - 8)] W (fun e w' => ∃ v', e = .returned v' ∧ w'.ownsRow W.heap.size 3 1 v' (x.l.length - 8) (ints (natI (x.l.drop 8))) ∧ Kp (fun _ => False) W w') from by
        have h := inode_list _ (moreRow x) ((Hr6.out.kp hk (fun h => h)).sl128 (moreRow_len x (by omega))) (x.l.length - 8) (by rw [moreRow_len x (by omega)]; omega) (by rw [moreRow_len x (by omega)]; omega) (moreRow_byt x)
        rw [moreRow_lst x (by omega) HX.out.lo, show ((x.l.length - 8 : Nat) : Int) = (x.l.length : Int) - 8 by omega] at h
        exact h))
      obtain ⟨i0, hi, hz, hsz, hby⟩ := info_parts Tryz.infoInt
      have hwc6 : wc.heap.size ≤ w6.heap.size := (by obtain ⟨g', c', _, hb', hl', _⟩ := own_pos Hown6.out (by omega); omega)
      have hp6l : w0.heap.size ≤ p := by omega
      go_cut [] (fun W => ∃ lv, W.heap[p]? = some (.cells #[.int .i64 x.kind, .int .i64 x.size, lv, .int .i64 x.more] 94 (0, 0)) ∧ W.ownsRow wc.heap.size 3 1 lv x.l.length (ints (natI x.l)) ∧ Kp (fun _ => False) w0 W)
      case first =>
        have c2 := cell_blk Hp6.out 2
        have f2 := frozen_blk Hp6.out 2
        simp at c2
        have q8 : IntKind.i64.wrap ((x.l.length : Int) - 8) = (x.l.length : Int) - 8 := IntWalk.i64_in _ (by omega)
        refine wp_region_held_drew (S := fun W => Kp (fun k => k = p ∨ (Value.slice A3 8 k3).ownBlock = some k) w6 W) (by kernel_rfl) (Kp.refl _ _).drew (fun hHeld => ?_)
        apply wpAnyH_take (i := 0) (v := .pointer (some ⟨p, 2, none⟩))
        case hi => (simp only [List.getElem?_toArray, List.getElem?_cons_zero]; rfl)
        case hs => kernel_rfl
        case hf => kernel_rfl
        case hr => kernel_rfl
        case hQ => exact fun _ _ _ h => h
        case hS => exact hHeld
        case hy =>
          refine Or.inl ⟨rfl, ?_⟩
          intro w hSw
          go_simp
        simp only [Act.put, List.setIfInBounds_toArray, List.set_cons_zero, List.set_cons_succ]
        apply wpAnyH_take (i := 2) (v := .slice (some ⟨g6, 0, none⟩) 128 128)
        case hi => (simp only [List.getElem?_toArray, List.getElem?_cons_zero, List.getElem?_cons_succ]; rfl)
        case hs => kernel_rfl
        case hf => kernel_rfl
        case hr => kernel_rfl
        case hQ => exact fun _ _ _ h => h
        case hS => exact hHeld
        case hy =>
          refine Or.inl ⟨rfl, ?_⟩
          intro w hSw
          go_simp
        simp only [Act.put, List.setIfInBounds_toArray, List.set_cons_zero, List.set_cons_succ]
        apply wpAnyH_take (i := 3) (v := .int .i64 (x.l.length : Int))
        case hi => (simp only [List.getElem?_toArray, List.getElem?_cons_zero, List.getElem?_cons_succ]; rfl)
        case hs => kernel_rfl
        case hf => kernel_rfl
        case hr => kernel_rfl
        case hQ => exact fun _ _ _ h => h
        case hS => exact hHeld
        case hy =>
          refine Or.inl ⟨rfl, ?_⟩
          intro w hSw
          go_simp
        simp only [Act.put, List.setIfInBounds_toArray, List.set_cons_zero, List.set_cons_succ]
        apply wpAnyH_take (i := 4) (v := .int .i64 ((x.l.length : Int) - 8))
        case hi => (simp only [List.getElem?_toArray, List.getElem?_cons_zero, List.getElem?_cons_succ]; rfl)
        case hs => kernel_rfl
        case hf => kernel_rfl
        case hr => kernel_rfl
        case hQ => exact fun _ _ _ h => h
        case hS => exact hHeld
        case hy =>
          refine Or.inl ⟨rfl, ?_⟩
          intro w hSw
          go_simp
        simp only [Act.put, List.setIfInBounds_toArray, List.set_cons_zero, List.set_cons_succ]
        refine wpAnyH_ready (rs := [1, 5]) (by kernel_rfl) (by simp) ?_
        refine AllReadyH.cons rfl (fun K hK => ?_) ?_
        · skip
          go_simp
          refine hK.out _ _ ?_ (fun hHeld => ?_)
          · exact hHeld
          clear hK K
          try simp only [Act.put, List.setIfInBounds_toArray, List.set_cons_zero, List.set_cons_succ]
          refine wpAnyH_ready (rs := [5]) (by kernel_rfl) (by simp) ?_
          refine AllReadyH.cons rfl (fun K hK => ?_) AllReadyH.nil
          go_simp
          refine (HL2.out _ (by repeat (first | exact Kp.refl _ _ | refine Kp.drew ?_ | refine Kp.drewN ?_ _))).mono ?_
          rintro e w7 ⟨v7, rfl, hown7, hk7⟩
          obtain ⟨g7, k7, rfl, hb7, hl7, hc7, hm7⟩ := own_pos hown7 Hn8
          have Hown7 := Lib.hid hown7
          have Hk7 := Lib.hid (show Kp (fun _ => False) w6 w7 from Kp.trans (F1 := fun _ => False) (by repeat (first | exact Kp.refl _ _ | refine Kp.drew ?_ | refine Kp.drewN ?_ _)) hk7 (Gr.refl _ _))
          have hs7 : Kp (fun k => k = p ∨ (Value.slice A3 8 k3).ownBlock = some k) w6 w7 := Hk7.out.mono (fun _ h => h.elim)
          have c2' := Hk7.out.cell c2 (fun h => h)
          have f2' := Hk7.out.frz f2 (lt_blk Hp6.out) (fun h => h)
          clear hown7 hk7
          refine hK.out _ _ ?_ (fun hHeld => ?_)
          · exact hs7
          clear hK K
          try simp only [Act.put, List.setIfInBounds_toArray, List.set_cons_zero, List.set_cons_succ]
          refine wpAnyH_ready (rs := [6]) (by kernel_rfl) (by simp) ?_
          refine AllReadyH.cons rfl (fun K hK => ?_) AllReadyH.nil
          refine step_append_lies _ rfl (.tmp 77) (.tmp 81) 92 rfl wc.heap.size 3 i0 (.int .i64 0) 1 8 Tryz.underlying92 hi hz hsz hby rfl (by decide) (.slice A3 8 k3) 8 _ rfl (own_kp0 Hown6.out Hk7.out) ⟨g7, 0, none⟩ (x.l.length - 8) k7 (ints (natI (x.l.drop 8))) rfl (by simp) (Hown7.out.cells rfl) (oneI _) Hn8 (by unfold maxLen; omega) (by omega) (by have := Hk7.out.size; omega) _ rfl ?_
          intro g8 cap8 w8 hown8 hgr8 hat8 hlt8
          have hkg : Kp (fun k => (Value.slice A3 8 k3).ownBlock = some k) w7 w8 := grown_kp hgr8 (fun k e => .inl e)
          have Hkg := Lib.hid hkg
          have Hown8 := Lib.hid hown8
          have hs8 : Kp (fun k => k = p ∨ (Value.slice A3 8 k3).ownBlock = some k) w6 w8 := hs7.trans (hkg.mono (fun _ h => .inr h)) (Gr.refl _ _)
          have hpne : ¬ (Value.slice A3 8 k3).ownBlock = some p := fun e => own_ne (own_kp0 Hown6.out Hk7.out) (Hk7.out.blk Hp6.out (fun h => h)) (by decide) p e rfl
          have c2b := hkg.cell c2' hpne
          have f2b := hkg.frz f2' (Hk7.out.lt (lt_blk Hp6.out)) hpne
          have Hpne := Lib.hid hpne
          clear hkg hown8 hgr8 hat8 hpne
          refine hK.out _ _ ?_ (fun hHeld => ?_)
          · exact hs8
          clear hK K
          try simp only [Act.put, List.setIfInBounds_toArray]
          apply wpAnyH_take (i := 7) (v := .pointer (some ⟨p, 2, none⟩))
          case hi => (simp only [List.getElem?_toArray, List.getElem?_cons_zero, List.getElem?_cons_succ]; rfl)
          case hs => kernel_rfl
          case hf => kernel_rfl
          case hr => kernel_rfl
          case hQ => exact fun _ _ _ h => h
          case hS => exact hHeld
          case hy =>
            refine Or.inl ⟨rfl, ?_⟩
            intro w hSw
            go_simp
          simp only [Act.put]
          refine wpAnyH_ready (rs := [8]) (by kernel_rfl) (by simp) ?_
          refine AllReadyH.cons rfl (fun K hK => ?_) AllReadyH.nil
          go_simp
          refine hK.out _ _ ?_ (fun hHeld => ?_)
          · exact Kp.setCell (F := (fun k => k = p ∨ (Value.slice A3 8 k3).ownBlock = some k)) (p := ⟨p, 2, none⟩) hs8 (.inl (.inl rfl)) _
          clear hK K
          try simp only [Act.put, List.setIfInBounds_toArray, List.set_cons_zero, List.set_cons_succ]
          refine wpAnyH_done (by kernel_rfl) ?_ _
          go_wp2_with fail
          go_meet
          exact inoR_fin Hp6.out Hown6.out Hk6.out Hk7.out Hkg.out Hown8.out Hpne.out h8 hp6l (by omega)
        refine AllReadyH.cons rfl (fun K hK => ?_) AllReadyH.nil
        go_simp
        refine (HL2.out _ (by repeat (first | exact Kp.refl _ _ | refine Kp.drew ?_ | refine Kp.drewN ?_ _))).mono ?_
        rintro e w7 ⟨v7, rfl, hown7, hk7⟩
        obtain ⟨g7, k7, rfl, hb7, hl7, hc7, hm7⟩ := own_pos hown7 Hn8
        have Hown7 := Lib.hid hown7
        have Hk7 := Lib.hid (show Kp (fun _ => False) w6 w7 from Kp.trans (F1 := fun _ => False) (by repeat (first | exact Kp.refl _ _ | refine Kp.drew ?_ | refine Kp.drewN ?_ _)) hk7 (Gr.refl _ _))
        have hs7 : Kp (fun k => k = p ∨ (Value.slice A3 8 k3).ownBlock = some k) w6 w7 := Hk7.out.mono (fun _ h => h.elim)
        have c2' := Hk7.out.cell c2 (fun h => h)
        have f2' := Hk7.out.frz f2 (lt_blk Hp6.out) (fun h => h)
        clear hown7 hk7
        refine hK.out _ _ ?_ (fun hHeld => ?_)
        · exact hs7
        clear hK K
        try simp only [Act.put, List.setIfInBounds_toArray, List.set_cons_zero, List.set_cons_succ]
        refine wpAnyH_ready (rs := [1]) (by kernel_rfl) (by simp) ?_
        refine AllReadyH.cons rfl (fun K hK => ?_) AllReadyH.nil
        go_simp
        refine hK.out _ _ ?_ (fun hHeld => ?_)
        · exact hHeld
        clear hK K
        try simp only [Act.put, List.setIfInBounds_toArray, List.set_cons_zero, List.set_cons_succ]
        refine wpAnyH_ready (rs := [6]) (by kernel_rfl) (by simp) ?_
        refine AllReadyH.cons rfl (fun K hK => ?_) AllReadyH.nil
        refine step_append_lies _ rfl (.tmp 77) (.tmp 81) 92 rfl wc.heap.size 3 i0 (.int .i64 0) 1 8 Tryz.underlying92 hi hz hsz hby rfl (by decide) (.slice A3 8 k3) 8 _ rfl (own_kp0 Hown6.out Hk7.out) ⟨g7, 0, none⟩ (x.l.length - 8) k7 (ints (natI (x.l.drop 8))) rfl (by simp) (Hown7.out.cells rfl) (oneI _) Hn8 (by unfold maxLen; omega) (by omega) (by have := Hk7.out.size; omega) _ rfl ?_
        intro g8 cap8 w8 hown8 hgr8 hat8 hlt8
        have hkg : Kp (fun k => (Value.slice A3 8 k3).ownBlock = some k) w7 w8 := grown_kp hgr8 (fun k e => .inl e)
        have Hkg := Lib.hid hkg
        have Hown8 := Lib.hid hown8
        have hs8 : Kp (fun k => k = p ∨ (Value.slice A3 8 k3).ownBlock = some k) w6 w8 := hs7.trans (hkg.mono (fun _ h => .inr h)) (Gr.refl _ _)
        have hpne : ¬ (Value.slice A3 8 k3).ownBlock = some p := fun e => own_ne (own_kp0 Hown6.out Hk7.out) (Hk7.out.blk Hp6.out (fun h => h)) (by decide) p e rfl
        have c2b := hkg.cell c2' hpne
        have f2b := hkg.frz f2' (Hk7.out.lt (lt_blk Hp6.out)) hpne
        have Hpne := Lib.hid hpne
        clear hkg hown8 hgr8 hat8 hpne
        refine hK.out _ _ ?_ (fun hHeld => ?_)
        · exact hs8
        clear hK K
        try simp only [Act.put, List.setIfInBounds_toArray]
        apply wpAnyH_take (i := 7) (v := .pointer (some ⟨p, 2, none⟩))
        case hi => (simp only [List.getElem?_toArray, List.getElem?_cons_zero, List.getElem?_cons_succ]; rfl)
        case hs => kernel_rfl
        case hf => kernel_rfl
        case hr => kernel_rfl
        case hQ => exact fun _ _ _ h => h
        case hS => exact hHeld
        case hy =>
          refine Or.inl ⟨rfl, ?_⟩
          intro w hSw
          go_simp
        simp only [Act.put]
        refine wpAnyH_ready (rs := [8]) (by kernel_rfl) (by simp) ?_
        refine AllReadyH.cons rfl (fun K hK => ?_) AllReadyH.nil
        go_simp
        refine hK.out _ _ ?_ (fun hHeld => ?_)
        · exact Kp.setCell (F := (fun k => k = p ∨ (Value.slice A3 8 k3).ownBlock = some k)) (p := ⟨p, 2, none⟩) hs8 (.inl (.inl rfl)) _
        clear hK K
        try simp only [Act.put, List.setIfInBounds_toArray, List.set_cons_zero, List.set_cons_succ]
        refine wpAnyH_done (by kernel_rfl) ?_ _
        go_wp2_with fail
        go_meet
        exact inoR_fin Hp6.out Hown6.out Hk6.out Hk7.out Hkg.out Hown8.out Hpne.out h8 hp6l (by omega)
      case rest =>
        obtain ⟨lv, hp9, hown9, hk9⟩ := hcut
        obtain ⟨A9, k9, rfl⟩ := own_shape hown9
        have Hp9 := Lib.hid hp9
        have Hown9 := Lib.hid hown9
        have HB9 := Lib.hid (hk9.blk HB0.out (fun h => h))
        have HK9 := Lib.hid (Hk0.out.trans hk9 (Gr.refl _ _))
        clear hp9 hown9 hk9
        have d0 := cell_blk HB9.out 0
        have d1 := cell_blk HB9.out 1
        have d2 := cell_blk HB9.out 2
        have d3 := cell_blk HB9.out 3
        have e0 := frozen_blk HB9.out 0
        have e1 := frozen_blk HB9.out 1
        have e2 := frozen_blk HB9.out 2
        have e3 := frozen_blk HB9.out 3
        have c0 := cell_blk Hp9.out 0
        have c1 := cell_blk Hp9.out 1
        have c2 := cell_blk Hp9.out 2
        have c3 := cell_blk Hp9.out 3
        simp at c0 c1 c2 c3 d0 d1 d2 d3
        go_wp2_with fail
        have HS := set4 (a' := .int .i64 x.kind) (b' := .int .i64 x.size) (c' := (.slice A9 x.l.length k9)) (d' := .int .i64 x.more) HB9.out
        have hfin := set4_kp (a' := .int .i64 x.kind) (b' := .int .i64 x.size) (c' := (.slice A9 x.l.length k9)) (d' := .int .i64 x.more) (Kp.refl (fun k => k = w.heap.size) wc) (.inl rfl)
        have Hend := Lib.hid (HK9.out.over hfin (fun i e => by have : i = w.heap.size := e; omega))
        have Hown := Lib.hid (own_kp Hown9.out hfin (own_ne Hown9.out HB9.out (by decide)))
        clear hfin d0 d1 d2 d3 e0 e1 e2 e3 c0 c1 c2 c3
        generalize ((((wc.setCell ⟨w.heap.size, 0, none⟩ (.int .i64 x.kind)).setCell ⟨w.heap.size, 1, none⟩ (.int .i64 x.size)).setCell ⟨w.heap.size, 2, none⟩ (.slice A9 x.l.length k9)).setCell ⟨w.heap.size, 3, none⟩ (.int .i64 x.more)) = wf at *
        have d0 := cell_blk HS 0
        have d1 := cell_blk HS 1
        have d2 := cell_blk HS 2
        have d3 := cell_blk HS 3
        simp at d0 d1 d2 d3
        refine bodyPost_ret (v := .tuple #[.agg #[.int .i64 x.kind, .int .i64 x.size, (.slice A9 x.l.length k9), .int .i64 x.more], .nilIface]) (by simp [results, Tryz.results77, go_sem, d0, d1, d2, d3]) rfl ⟨(.slice A9 x.l.length k9), ?_, ?_, Hend.out⟩
        · rfl
        · exact own_low Hown.out (by omega)
    · have h8' : ¬ (8 : Int) < (x.l.length : Int) := by omega
      have HB9 := HB4
      have Hp9 := Hp4
      have Hown9 := Hown4
      have HK9 := Lib.hid (Hk0.out.trans Hk4.out (Gr.refl _ _))
      have d0 := cell_blk HB9.out 0
      have d1 := cell_blk HB9.out 1
      have d2 := cell_blk HB9.out 2
      have d3 := cell_blk HB9.out 3
      have e0 := frozen_blk HB9.out 0
      have e1 := frozen_blk HB9.out 1
      have e2 := frozen_blk HB9.out 2
      have e3 := frozen_blk HB9.out 3
      have c0 := cell_blk Hp9.out 0
      have c1 := cell_blk Hp9.out 1
      have c2 := cell_blk Hp9.out 2
      have c3 := cell_blk Hp9.out 3
      simp at c0 c1 c2 c3 d0 d1 d2 d3
      go_wp2_with fail
      have HS := set4 (a' := .int .i64 x.kind) (b' := .int .i64 x.size) (c' := (.slice A3 (min x.l.length 8) k3)) (d' := .int .i64 0) HB9.out
      have hfin := set4_kp (a' := .int .i64 x.kind) (b' := .int .i64 x.size) (c' := (.slice A3 (min x.l.length 8) k3)) (d' := .int .i64 0) (Kp.refl (fun k => k = w.heap.size) w4) (.inl rfl)
      have Hend := Lib.hid (HK9.out.over hfin (fun i e => by have : i = w.heap.size := e; omega))
      have Hown := Lib.hid (own_kp Hown9.out hfin (own_ne Hown9.out HB9.out (by decide)))
      clear hfin d0 d1 d2 d3 e0 e1 e2 e3 c0 c1 c2 c3
      generalize ((((w4.setCell ⟨w.heap.size, 0, none⟩ (.int .i64 x.kind)).setCell ⟨w.heap.size, 1, none⟩ (.int .i64 x.size)).setCell ⟨w.heap.size, 2, none⟩ (.slice A3 (min x.l.length 8) k3)).setCell ⟨w.heap.size, 3, none⟩ (.int .i64 0)) = wf at *
      have d0 := cell_blk HS 0
      have d1 := cell_blk HS 1
      have d2 := cell_blk HS 2
      have d3 := cell_blk HS 3
      simp at d0 d1 d2 d3
      refine bodyPost_ret (v := .tuple #[.agg #[.int .i64 x.kind, .int .i64 x.size, (.slice A3 (min x.l.length 8) k3), .int .i64 0], .nilIface]) (by simp [results, Tryz.results77, go_sem, d0, d1, d2, d3]) rfl ⟨(.slice A3 (min x.l.length 8) k3), ?_, ?_, Hend.out⟩
      · rw [HX.out.m0 h8]; rfl
      · have h := own_low Hown.out (show w.heap.size ≤ wc.heap.size by omega)
        rw [show x.l.take 8 = x.l from List.take_of_length_le (by omega)] at h
        rw [show min x.l.length 8 = x.l.length by omega] at h ⊢
        exact h
end Go.Proofs.YthjbpbahcemfgaaGreatDoor
