/- Inodes: the bytes of an inode are read. -/
import Derived.Test.YthjbpbahcemfgaaGreatDoorInoT
namespace Go.Proofs.YthjbpbahcemfgaaGreatDoor
open Go.RowKit
set_option maxHeartbeats 4000000
set_option maxRecDepth 20000
variable {w : World} {bt bx bc bj bm bd at_ n mat lo nbl : Nat} {C : CSt} {F : Nat → Prop} {T : Nat → Nd}

theorem run_hi_b {W : World} {A : Option Addr} {m c k : Nat} (hk : k ≤ c) : (Instr.sliceAt 52 (.slice A m c) none (some (.int .i64 (k : Int))) none).run Tryz.prog W = .ok (.slice A k c) W := by
  have hkc : (k : Int) ≤ (c : Int) := by omega
  have hk0 : (0 : Int) ≤ (k : Int) := by omega
  have hb : ∀ cd, (Instr.sliceBound (.int .i64 (k : Int)) c cd).run Tryz.prog W = .ok k W := fun cd => by
    simp [Instr.sliceBound, asIntOf, hk0, hkc]
  have hE := Tryz.sizeU8 W
  have hb0 : ∀ cd, (Instr.sliceBound (.int .i64 0) k cd).run Tryz.prog W = .ok 0 W := fun cd => by simp [Instr.sliceBound, asIntOf]
  cases A <;> simp [Instr.sliceAt, Instr.slice, Instr.sliceBounds, run_underlying Tryz.underlying52, hE, hb, Result.andThen, Addr.add]
theorem run_lohi_b {W : World} {A : Option Addr} {m c i j : Nat} (hij : i ≤ j) (hj : j ≤ c) : (Instr.sliceAt 52 (.slice A m c) (some (.int .i64 (i : Int))) (some (.int .i64 (j : Int))) none).run Tryz.prog W = .ok (.slice (A.map fun a => if c = i then a else a.add i) (j - i) (c - i)) W := by
  have hj1 : (j : Int) ≤ (c : Int) := by omega
  have hj0 : (0 : Int) ≤ (j : Int) := by omega
  have hi1 : (i : Int) ≤ (j : Int) := by omega
  have hi0 : (0 : Int) ≤ (i : Int) := by omega
  have hb : ∀ cd, (Instr.sliceBound (.int .i64 (j : Int)) c cd).run Tryz.prog W = .ok j W := fun cd => by
    simp [Instr.sliceBound, asIntOf, hj0, hj1]
  have hb0 : ∀ cd, (Instr.sliceBound (.int .i64 (i : Int)) j cd).run Tryz.prog W = .ok i W := fun cd => by
    simp [Instr.sliceBound, asIntOf, hi0, hi1]
  have hE := Tryz.sizeU8 W
  cases A with
  | none => simp [Instr.sliceAt, Instr.slice, Instr.sliceBounds, run_underlying Tryz.underlying52, hE, hb, hb0, Result.andThen]
  | some a =>
    simp [Instr.sliceAt, Instr.slice, Instr.sliceBounds, run_underlying Tryz.underlying52, hE, hb, hb0, Result.andThen]
    split <;> rfl
theorem run_lohi_bI {W : World} {A : Option Addr} {m c i j : Nat} {J : Int} (hJ : J = (j : Int)) (hij : i ≤ j) (hj : j ≤ c) : (Instr.sliceAt 52 (.slice A m c) (some (.int .i64 (i : Int))) (some (.int .i64 J)) none).run Tryz.prog W = .ok (.slice (A.map fun a => if c = i then a else a.add i) (j - i) (c - i)) W := by
  rw [hJ]; exact run_lohi_b hij hj
theorem Sl.inv {ys : List Int} {A : Option Addr} {m c : Nat} (h : Sl w (.slice A m c) ys) : m = ys.length ∧ ys.length ≤ c ∧ c ≤ maxLen ∧ (ys ≠ [] → ∃ ad, A = some ad ∧ ∀ j u, (bs ys)[j]? = some u → w.cell? (ad.add j) = some u) := by
  obtain ⟨A', c', e, h1, h2, h3⟩ := h
  simp only [Value.slice.injEq] at e
  obtain ⟨rfl, e1, rfl⟩ := e
  exact ⟨e1, h1, h2, h3⟩
theorem Sl.cut {ys : List Int} {A : Option Addr} {m c : Nat} (h : Sl w (.slice A m c) ys) (i j : Nat) (hij : i ≤ j) (hj : j ≤ ys.length) : Sl w (.slice (A.map fun a => if c = i then a else a.add i) (j - i) (c - i)) ((ys.drop i).take (j - i)) := by
  obtain ⟨A', c', e, h1, h2, h3⟩ := h
  simp only [Value.slice.injEq] at e
  obtain ⟨rfl, rfl, rfl⟩ := e
  have hl : ((ys.drop i).take (j - i)).length = j - i := by rw [List.length_take, List.length_drop]; omega
  refine ⟨_, c - i, by rw [hl], by rw [hl]; omega, by omega, fun hn => ?_⟩
  have hlt : i < j := by
    rcases Nat.lt_or_ge i j with h | h
    · exact h
    · exact absurd (List.eq_nil_of_length_eq_zero (by rw [hl]; omega)) hn
  obtain ⟨ad, rfl, h4⟩ := h3 (by rintro rfl; simp at hj; omega)
  refine ⟨_, rfl, fun k u hk => ?_⟩
  show w.cell? ((if c = i then ad else ad.add i).add k) = some u
  rw [if_neg (by omega), Deep.add_add]
  obtain ⟨x, hx, rfl⟩ := bs_get _ _ _ hk
  rw [List.getElem?_take] at hx
  split at hx
  · rw [List.getElem?_drop] at hx
    exact h4 (i + k) _ (by simp [bs, hx])
  · cases hx
theorem Sl.hi {ys : List Int} {A : Option Addr} {m c : Nat} (h : Sl w (.slice A m c) ys) (k : Nat) (hk : k ≤ ys.length) : Sl w (.slice A k c) (ys.take k) := by
  obtain ⟨A', c', e, h1, h2, h3⟩ := h
  simp only [Value.slice.injEq] at e
  obtain ⟨rfl, rfl, rfl⟩ := e
  have hl : (ys.take k).length = k := by rw [List.length_take]; omega
  refine ⟨_, c, by rw [hl], by rw [hl]; omega, h2, fun hn => ?_⟩
  obtain ⟨ad, rfl, h4⟩ := h3 (by rintro rfl; simp at hn)
  refine ⟨_, rfl, fun j u hj => ?_⟩
  obtain ⟨x, hx, rfl⟩ := bs_get _ _ _ hj
  rw [List.getElem?_take] at hx
  split at hx
  · exact h4 j _ (by simp [bs, hx])
  · cases hx
theorem cat_snoc (v : Nat → List Int) (l : List Nat) (k b : Nat) (h : l[k]? = some b) : cat v (l.take (k + 1)) = cat v (l.take k) ++ v b := by
  rw [List.take_add_one, h, cat_app]; simp [cat]

theorem inode_bytes (hb : TBlk w bt bc bx at_ n) (h : CRep w bc bj bm bd C F) (hd : C.D.dead = false) (x : Nd) (lv : Value) (hl : SlI w lv (natI x.l)) (h32 : x.l.length ≤ 72) (hin : ∀ b ∈ x.l, b < C.blocks) (hs : x.size ≤ 128 * x.l.length) :
    Calls Tryz.prog 56 #[.pointer (some ⟨bt, 0, none⟩), .agg #[.int .i64 x.kind, .int .i64 x.size, lv, .int .i64 x.more]] w fun e w' => ∃ A c, e = .returned (.tuple #[.slice A x.size c, .nilIface]) ∧ Sl w' (.slice A x.size c) (dataOf C.view x) ∧ Kp (fun _ => False) w w' ∧ (∀ b, blockOf (.slice A x.size c) = some b → w.heap.size ≤ b) := by
  have t0 := cell_blk hb 0
  simp at t0
  have T0 := Lib.hid t0
  have hfw := h.disk.few
  have hfew := h.few
  have HR := Lib.hid (fun (W : World) (hk : Kp (fun _ => False) w W) (no : Int) (h0 : 0 ≤ no) (h1 : no < C.blocks) => cache_Read_ok (h.kp0 hk) hd no h0 h1)
  have Hvl := Lib.hid (fun b (hb : b ∈ x.l) => h.viewlen (hin b hb))
  have Hin := Lib.hid hin
  obtain ⟨i0, hi, hz, hsz, hby⟩ := info_parts Tryz.infoU8
  obtain ⟨A, c, rfl, h1, hc, h3⟩ := id hl
  have Hs := Lib.hid hl
  have e1 : (natI x.l).length = x.l.length := natI_length x.l
  rw [e1] at h1 ⊢
  clear hb h hd t0 h3 hl hin e1
  generalize hq : x.l.length = q at *
  have Hq := Lib.hid hq
  clear hq
  go_enter Tryz.func56, Tryz.ntmps56
  go_upto_region 1 with fail
  generalize hw0 : w.alloc _ = w0
  have Hk0 := Lib.hid (show Kp (fun _ => False) w w0 by rw [← hw0]; exact (Kp.refl _ w).alloc _)
  have HB0 := Lib.hid (show w0.heap[w.heap.size]? = some (.cells #[.int .i64 x.kind, .int .i64 x.size, .slice A q c, .int .i64 x.more] 94 (0, 0)) by rw [← hw0]; exact new_blk w _)
  clear hw0
  have b2 := cell_blk HB0.out 2
  simp at b2
  go_wp2_with fail
  clear b2
  go_loopw [6, 14] (fun o i wr => ∃ k : Nat, k ≤ q ∧ i = .int .i64 k ∧ wr.ownsRow w0.heap.size 5 1 o (128 * k) (bs (cat C.view (x.l.take k))) ∧ Kp (fun _ => False) w0 wr) (fun _ i _ => q - (intOf i).toNat)
  case atStart => exact ⟨0, Nat.zero_le _, rfl, World.ownsRow_nil _ _ _ _, Kp.refl _ _⟩
  case round =>
    obtain ⟨k, hk, rfl, hown, hkp⟩ := hrel
    have Hown := Lib.hid hown
    have Hkp := Lib.hid hkp
    clear hown hkp
    by_cases hlt : k < q
    · have hlt' : (k : Int) < (q : Int) := by omega
      obtain ⟨b, hb⟩ : ∃ b, x.l[k]? = some b := ⟨x.l[k]'(by have := Hq.out; omega), List.getElem?_eq_getElem _⟩
      have hbm := List.mem_of_getElem? hb
      have hbb := Hin.out b hbm
      have Hlen := Lib.hid (Hvl.out b hbm)
      obtain ⟨ad, rfl, h4⟩ : ∃ ad, A = some ad ∧ wr.cell? (ad.add k) = some (.int .i64 (b : Int)) := by
        obtain ⟨A', c', e, _, _, h3⟩ := Hs.out
        obtain ⟨ad, e2, h4⟩ := h3 (by intro h0; have h0 := congrArg List.length h0; rw [natI_length, Hq.out] at h0; simp only [List.length_nil] at h0; omega)
        simp only [Value.slice.injEq] at e
        obtain ⟨rfl, _, _⟩ := e
        exact ⟨ad, e2, Hkp.out.cell (Hk0.out.cell (h4 k _ (by rw [ints_natI, hb]; rfl)) (fun h => h)) (fun h => h)⟩
      have Hsn := Lib.hid (cat_snoc C.view x.l k b hb)
      have t0 := Hkp.out.cell (Hk0.out.cell T0.out (fun h => h)) (fun h => h)
      have Hwk := Lib.hid (Hk0.out.trans Hkp.out (Gr.refl _ _))
      clear hb hbm
      go_wp2_with fail
      refine (HR.out _ Hwk.out (b : Int) (by omega) (by omega)).mono ?_
      rintro e w3 ⟨g, rfl, hrow, hk3, hg⟩
      rw [Int.toNat_natCast] at hrow
      have HS := Lib.hid hrow.cells
      have Hk3 := Lib.hid hk3
      have HO := Lib.hid (own_kp0 Hown.out hk3)
      have Hsz := Lib.hid (Nat.le_trans Hkp.out.size hk3.size)
      clear hrow hk3 hg h4 t0
      go_wp2_with (at_builtin; refine wpList_append_lies _ rfl _ _ 52 rfl w0.heap.size 5 i0 (.int .u8 0) 1 1 Tryz.underlying52 hi hz hsz hby rfl (by decide) _ _ _ rfl HO.out ⟨g, 0, none⟩ 128 128 (bs (C.view b)) rfl (by rw [bs_length, Hlen.out]) HS.out (bs_one _) (by omega) (by unfold maxLen; omega) (by omega) Hsz.out _ rfl ?_; intro g2 cap2 w2 hown2 hgr2 hat2 hlt2)
      have HO2 := Lib.hid (show w2.ownsRow w0.heap.size 5 1 (.slice (some ⟨g2, 0, none⟩) (128 * k + 128) cap2) (128 * (k + 1)) (bs (cat C.view (x.l.take (k + 1)))) by rw [Hsn.out, bs_app]; exact hown2)
      have HK2 := Lib.hid (show Kp (fun _ => False) w0 w2 from (Hkp.out.trans Hk3.out (Gr.refl _ _)).grown hgr2 (fun r hr => .inr (HO.out.lt r hr).1))
      clear hown2 hgr2 hat2
      go_roundw
      case rel => exact ⟨k + 1, by omega, by go_num, HO2.out, HK2.out⟩
      case measure => simp [intOf]; omega
    · have hkq : k = q := by omega
      subst hkq
      have b1 := Hkp.out.cell (by have := cell_blk HB0.out 1; simpa using this) (fun h => h)
      obtain ⟨Ao, co, rfl⟩ := own_shape Hown.out
      have Hsl := Lib.hid (own_slB Hown.out)
      have hco : 128 * k ≤ co := by
        obtain ⟨A', c', e, q1, q2, _⟩ := Hsl.out
        simp only [Value.slice.injEq] at e
        obtain ⟨_, e1, rfl⟩ := e
        omega
      have Hcl := Lib.hid (show (cat C.view (x.l.take k)).length = 128 * k by rw [← bs_length]; simpa using Hown.out.1)
      go_wp2_with (((with_reducible refine at_slice rfl ?_); refine wpList_slice_run rfl _ _ _ _ _ rfl _ _ _ _ _ rfl rfl rfl rfl (run_hi_b (by omega)) ?_))
      go_ret2
      refine ⟨_, _, rfl, ?_, Hk0.out.trans Hkp.out (Gr.refl _ _), fun b hb => ?_⟩
      · have := Hsl.out.hi x.size (by rw [Hcl.out]; exact hs)
        rw [show x.l.take k = x.l by rw [← Hq.out, List.take_length]] at this
        exact this
      · cases Ao with
        | none => simp [blockOf] at hb
        | some a => simp only [blockOf, Option.some.injEq] at hb; have := (Hown.out.lt a.block rfl).1; have := Hk0.out.size; omega
/-- slices.Clone of bytes, whatever they are. -/
theorem clone_all (v : Value) (ys : List Int) (w : World) (hs : Sl w v ys) (hb : ys.length ≤ 140737488355328) :
    Calls Tryz.prog 59 #[v] w fun e w' => ∃ A c, e = .returned (.slice A ys.length c) ∧ Sl w' (.slice A ys.length c) ys ∧ Kp (fun _ => False) w w' ∧ (∀ b, blockOf (.slice A ys.length c) = some b → w.heap.size ≤ b) := by
  by_cases hn : ys = []
  · subst hn
    obtain ⟨A, c, rfl, h1, h2, h3⟩ := hs
    clear h3
    cases A with
    | none =>
      have hq := Lib.run_eql_slice_nil (P := Tryz.prog) w 52 5 none 0 c 0 0 Tryz.underlying52
      go_enter Tryz.func59, Tryz.ntmps59
      go_wp2
      go_ret
      exact ⟨none, 0, rfl, Sl.nil _, Kp.refl _ _, fun b hb => by simp [blockOf] at hb⟩
    | some ad =>
      have hq := Lib.run_eql_slice_nil (P := Tryz.prog) w 52 5 (some ad) 0 c 0 0 Tryz.underlying52
      go_enter Tryz.func59, Tryz.ntmps59
      go_wp2
      go_ret
      exact ⟨_, 0, rfl, ⟨_, 0, rfl, Nat.le_refl _, by simp [maxLen], fun h => absurd rfl h⟩, (Kp.refl _ w).alloc _, fun b hb => by simp only [blockOf, Option.some.injEq] at hb; omega⟩
  · refine (clone_any v ys w hs hn hb).mono ?_
    rintro e w' ⟨g, c, rfl, h1, h2, h3, h4, h5⟩
    exact ⟨_, c, rfl, h3.sl c h1 h2, h5, fun b hb => by simp only [blockOf, Option.some.injEq] at hb; omega⟩
theorem clone_alln (v : Value) (k : Nat) (ys : List Int) (w : World) (hs : Sl w v ys) (hlen : ys.length = k) (hb : k ≤ 140737488355328) :
    Calls Tryz.prog 59 #[v] w fun e w' => ∃ A c, e = .returned (.slice A k c) ∧ Sl w' (.slice A k c) ys ∧ Kp (fun _ => False) w w' ∧ (∀ b, blockOf (.slice A k c) = some b → w.heap.size ≤ b) := by
  subst hlen
  exact clone_all v ys w hs hb
/-- What is read at a place: of these bytes, from at on, m at most. -/
def readAt (d : List Int) (p m : Nat) : List Int := (d.drop (min p d.length)).take (min m (d.length - min p d.length))
theorem inode_Read_new (h : Tab w bt bx bc bj bm bd at_ n mat lo nbl C F T) {ino p m : Nat} (h1 : 1 ≤ ino) (h2 : ino ≤ n) (hkd : (T ino).kind ≠ 0) (hp : p ≤ 9223372036854775807) (hm : m ≤ 9223372036854775807) :
    Calls Tryz.prog 27 #[.pointer (some ⟨bt, 0, none⟩), .int .i64 ino, .int .i64 p, .int .i64 m] w fun e w' => ∃ v, e = .returned (.tuple #[v, .nilIface]) ∧ Sl w' v (readAt (dataOf C.view (T ino)) p m) ∧ Kp (fun _ => False) w w' ∧ ∀ b, blockOf v = some b → w.heap.size ≤ b := by
  have ho := h.ti.ok ino h1 h2
  have hg3 := h.geo.g3
  have hdl : (dataOf C.view (T ino)).length = (T ino).size := by
    unfold dataOf
    rw [List.length_take, cat_len (fun b hb => h.map.rep.viewlen (by have := ho.rng b (Nd.mem_l hb); omega)), ho.len]
    unfold dat; omega
  have HH := Lib.hid (inode_had_ok h h1 h2 hkd)
  have HB := Lib.hid (fun (W : World) (hk : Kp (fun _ => False) w W) (lv : Value) (hl : SlI W lv (natI (T ino).l)) => inode_bytes (hk.blk h.blk (fun h => h)) (h.map.rep.kp0 hk) h.map.live (T ino) lv hl (by have := ho.len32; omega) (fun b hb => by have := ho.rng b (Nd.mem_l hb); omega) (by rw [ho.len]; unfold dat; omega))
  have hsz := ho.size
  generalize hd : dataOf C.view (T ino) = d at *
  generalize T ino = x at *
  have Hdl := Lib.hid hdl
  clear h ho hkd hd hdl
  have hp0 : (0 : Int) ≤ (p : Int) := by omega
  have hm0 : (0 : Int) ≤ (m : Int) := by omega
  go_enter Tryz.func27, Tryz.ntmps27
  go_wp2_with fail
  refine HH.out.mono ?_
  rintro e w3 ⟨A, c, rfl, hown, hk3⟩
  have hka := (Kp.refl (fun _ => False) w3).alloc (.cells #[.int .i64 x.kind, .int .i64 x.size, .slice A x.l.length c, .int .i64 x.more] 94)
  have Hs4 := Lib.hid ((own_slI (own_kp0 hown hka)).1)
  have HK := Lib.hid (hk3.trans hka (Gr.refl _ _))
  have Hp := Lib.hid (new_blk w3 (.cells #[.int .i64 x.kind, .int .i64 x.size, .slice A x.l.length c, .int .i64 x.more] 94))
  clear hown hk3 HH
  go_upto_region 2 with fail
  generalize w3.alloc (.cells #[.int .i64 x.kind, .int .i64 x.size, .slice A x.l.length c, .int .i64 x.more] 94) = w4 at *
  generalize w3.heap.size = q at *
  have c0 := cell_blk Hp.out 0
  have c1 := cell_blk Hp.out 1
  have c2 := cell_blk Hp.out 2
  have c3 := cell_blk Hp.out 3
  simp at c0 c1 c2 c3
  go_wp2_with fail
  refine (HB.out _ HK.out _ Hs4.out).mono ?_
  rintro e w5 ⟨A5, c5, rfl, hsl, hk5, hb5⟩
  have Hsl := Lib.hid hsl
  have Hk5 := Lib.hid (HK.out.trans hk5 (Gr.refl _ _))
  have hc5 : x.size ≤ c5 := by
    obtain ⟨A', c', e, q1, q2, _⟩ := hsl
    simp only [Value.slice.injEq] at e
    obtain ⟨_, e1, rfl⟩ := e
    omega
  clear hsl hk5 hb5 c0 c1 c2 c3
  have e1 : (min (p : Int) (x.size : Int)) = ((min p x.size : Nat) : Int) := by omega
  have hix : min p x.size ≤ x.size := Nat.min_le_right _ _
  go_upto_region 8 with fail
  clear e1
  have Hra := Lib.hid (show readAt d p m = (d.drop (min p x.size)).take (min m (x.size - min p x.size)) by unfold readAt; rw [Hdl.out])
  generalize min p x.size = i at *
  have e2 : (min (m : Int) ((x.size : Int) - (i : Int))) = ((min m (x.size - i) : Nat) : Int) := by omega
  have hkx : i + min m (x.size - i) ≤ x.size := by omega
  generalize min m (x.size - i) = k at *
  obtain ⟨A7, Hrun, Hcut⟩ : ∃ A7 : Option Addr, Hid (∀ W : World, (Instr.sliceAt 52 (.slice A5 x.size c5) (some (.int .i64 (i : Int))) (some (.int .i64 ((i : Int) + (k : Int)))) none).run Tryz.prog W = .ok (.slice A7 k (c5 - i)) W) ∧ Hid (Sl w5 (.slice A7 k (c5 - i)) ((d.drop i).take k)) := by
    have h1 := Hsl.out.cut i (i + k) (by omega) (by rw [Hdl.out]; exact hkx)
    rw [show i + k - i = k by omega] at h1
    refine ⟨_, Lib.hid (fun W => ?_), Lib.hid h1⟩
    rw [run_lohi_bI (j := i + k) (by simp) (by omega) (by omega), show i + k - i = k by omega]
  have Hcl := Lib.hid (show ((d.drop i).take k).length = k by rw [List.length_take, List.length_drop, Hdl.out]; omega)
  go_wp2_with (first
    | ((with_reducible refine at_slice rfl ?_); refine wpList_slice_run rfl _ _ _ _ _ rfl _ _ _ _ _ rfl rfl rfl rfl (Hrun.out _) ?_))
  refine (clone_alln _ k _ _ Hcut.out Hcl.out (by omega)).mono ?_
  rintro e w6 ⟨A6, c6, rfl, hs6, hk6, hb6⟩
  have Hs6 := Lib.hid hs6
  have Hk6 := Lib.hid (Hk5.out.trans hk6 (Gr.refl _ _))
  have Hb6 := Lib.hid (show ∀ b, blockOf (.slice A6 k k) = some b → w.heap.size ≤ b from fun b hb => Nat.le_trans Hk5.out.size (hb6 b (by cases A6 <;> exact hb)))
  obtain ⟨q0, q1, q2, q3⟩ := hs6.inv
  rw [Hcl.out] at q1
  clear hk6 hb6 q3 hs6 e2 q0
  go_wp2_with fail
  refine (clip_any _ _ _ _ q1 q2).mono ?_
  rintro e w7 ⟨rfl, rfl⟩
  go_wp2_with fail
  go_ret2
  refine ⟨_, rfl, ?_, Hk6.out, Hb6.out⟩
  obtain ⟨_, r1, r2, r3⟩ := Hs6.out.inv
  rw [Hra.out]
  exact ⟨_, _, by rw [Hcl.out]; rfl, Nat.le_of_eq Hcl.out, by omega, r3⟩
theorem inode_Read_ok (h : Tab w bt bx bc bj bm bd at_ n mat lo nbl C F T) {ino p m : Nat} (h1 : 1 ≤ ino) (h2 : ino ≤ n) (hkd : (T ino).kind ≠ 0) (hp : p ≤ 9223372036854775807) (hm : m ≤ 9223372036854775807) :
    Calls Tryz.prog 27 #[.pointer (some ⟨bt, 0, none⟩), .int .i64 ino, .int .i64 p, .int .i64 m] w fun e w' => ∃ v, e = .returned (.tuple #[v, .nilIface]) ∧ Sl w' v (readAt (dataOf C.view (T ino)) p m) ∧ Kp (fun _ => False) w w' := by
  refine (inode_Read_new h h1 h2 hkd hp hm).mono ?_
  rintro e w' ⟨v, a, b, c, _⟩
  exact ⟨v, a, b, c⟩
end Go.Proofs.YthjbpbahcemfgaaGreatDoor
