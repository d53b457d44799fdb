/- DirDrops: the law's walk. -/
import Derived.Test.YthjbpbahcemfgaaGreatDoorNmS
import Derived.Test.YthjbpbahcemfgaaGreatDoorAwk10
import Derived.Test.YthjbpbahcemfgaaGreatDoorLawIs
import Derived.BigQuiet
namespace Go.Proofs.YthjbpbahcemfgaaGreatDoor
open Go.RowKit
set_option maxHeartbeats 4000000
set_option maxRecDepth 20000

/-- n bools in memory. -/
def arB (n : Nat) (f : Nat → Bool) : Array Value := ((List.range n).map fun j => Value.bool (f j)).toArray
def updB (f : Nat → Bool) (q : Nat) (b : Bool) : Nat → Bool := fun j => if j = q then b else f j
theorem arB_get (n : Nat) (f : Nat → Bool) (j : Nat) (h : j < n) : (arB n f)[j]? = some (.bool (f j)) := by simp [arB, h]
theorem arB_set (n : Nat) (f : Nat → Bool) (q : Nat) (b : Bool) : (arB n f).setIfInBounds q (.bool b) = arB n (updB f q b) := by
  apply Array.ext_getElem?
  intro i
  rw [Array.getElem?_setIfInBounds]
  by_cases h : q = i
  · subst h
    by_cases h2 : q < n
    · rw [if_pos rfl, if_pos (by simpa [arB] using h2), arB_get _ _ _ h2]; simp [updB]
    · rw [if_pos rfl, if_neg (by simpa [arB] using h2)]
      simp [arB, h2]
  · rw [if_neg h]
    by_cases h2 : i < n
    · rw [arB_get _ _ _ h2, arB_get _ _ _ h2]
      unfold updB
      rw [if_neg (fun e => h e.symm)]
    · simp [arB, h2]
theorem arB_new (n : Nat) : (List.replicate n (Value.bool false)).toArray = arB n fun _ => false := by
  apply Array.ext'
  simp only [arB]
  exact (List.map_const' ..).symm ▸ by simp
theorem Tryz.infoBoolD : (Tryz.prog.info? 4).map (fun i => (i.zero, i.size, i.bytes)) = some (some (.bool false), 1, 1) := by kernel_rfl
theorem make_boolsD (n : Nat) (hn : n ≤ 100000) (w : World) : (Instr.makeSlice 26 (.int .i64 (n : Int)) (.int .i64 (n : Int))).run Tryz.prog w
    = .ok (.slice (some ⟨w.heap.size, 0, none⟩) n n) (w.alloc (.cells (arB n fun _ => false) 4)) := by
  obtain ⟨i, hi, hz, hs, hb⟩ := info_parts Tryz.infoBoolD
  have h := run_make (P := Tryz.prog) w 26 4 i (.bool false) Tryz.underlying26 hi hz .i64 .i64 n n (by omega) (by omega) (by rw [hb]; omega) (by omega)
  rw [h, hs]
  simp only [Value.cells, madeCells_one, Int.toNat_natCast, Nat.mul_one, arB_new]
/-- Bools in a block. -/
def BlB (W : World) (g n : Nat) (f : Nat → Bool) : Prop := W.heap[g]? = some (.cells (arB n f) 4 (0, 0))
theorem BlB.cell {W : World} {g n : Nat} {f : Nat → Bool} (h : BlB W g n f) {j : Nat} (hj : j < n) : W.cell? ⟨g, j, none⟩ = some (.bool (f j)) := by rw [cell_blk h]; exact arB_get n f j hj
theorem BlB.fz {W : World} {g n : Nat} {f : Nat → Bool} (h : BlB W g n f) (j : Nat) : W.frozen? ⟨g, j, none⟩ = false := frozen_blk h j
theorem BlB.set {W : World} {g n : Nat} {f : Nat → Bool} (h : BlB W g n f) (j : Nat) (b : Bool) : BlB (W.setCell ⟨g, j, none⟩ (.bool b)) g n (updB f j b) := by
  have := set_blk h j (.bool b)
  rw [arB_set] at this
  exact this
theorem BlB.kp {F : Nat → Prop} {W W' : World} {g n : Nat} {f : Nat → Bool} (h : BlB W g n f) (k : Kp F W W') (hf : ¬ F g) : BlB W' g n f := k.blk h hf
def Rn (j : Nat) : Rc := ⟨nmS 110 j, j + 1⟩
theorem Rn_ok {j : Nat} (hj : j < 128) : RcOk (Rn j) := ⟨nmS_ok (.inr rfl) hj, by show 1 ≤ j + 1; omega, by show j + 1 ≤ 200; omega⟩
/-- The records are those of the names that are there. -/
structure DInv (n : Nat) (f : Nat → Bool) (l : List Rc) : Prop where
  mem : ∀ y ∈ l, ∃ j, j < n ∧ f j = true ∧ y = Rn j
  all : ∀ j, j < n → f j = true → Rn j ∈ l
theorem dropL_a {l : List Rc} {a : Nat} {z : Rc} (h : a < l.length - 1) : (dropL l a z)[a]? = some z := by
  unfold dropL
  rw [List.getElem?_take, if_pos h, List.getElem?_set_self (by omega)]
theorem dropL_c {l : List Rc} {a c : Nat} {z : Rc} (h : c < l.length - 1) (hne : c ≠ a) : (dropL l a z)[c]? = l[c]? := by
  unfold dropL
  rw [List.getElem?_take, if_pos h, List.getElem?_set_ne (fun e => hne e.symm)]
theorem DInv.drop {n : Nat} {f : Nat → Bool} {l : List Rc} (h : DInv n f l) (hn : Names l) {a t : Nat} {z : Rc} (ha : l[a]? = some (Rn t)) (hz : l[l.length - 1]? = some z) : DInv n (updB f t false) (dropL l a z) := by
  have hal := (List.getElem?_eq_some_iff.1 ha).1
  refine ⟨fun y hy => ?_, fun j hj hf => ?_⟩
  · obtain ⟨b, hb⟩ := List.mem_iff_getElem?.1 hy
    have key : ∃ c, c ≠ a ∧ l[c]? = some y := by
      obtain ⟨b1, ⟨rfl, rfl⟩ | ⟨b2, b3⟩⟩ := dropL_get hal hb
      · exact ⟨_, by omega, hz⟩
      · exact ⟨b, b2, b3⟩
    obtain ⟨c, hc, hy2⟩ := key
    obtain ⟨j, j1, j2, rfl⟩ := h.mem y (List.mem_of_getElem? hy2)
    refine ⟨j, j1, ?_, rfl⟩
    unfold updB
    rw [if_neg]
    · exact j2
    · rintro rfl
      exact hc (nodup_map_inj hn hy2 ha rfl)
  · unfold updB at hf
    split at hf
    · cases hf
    · rename_i hne
      obtain ⟨c, hc⟩ := List.mem_iff_getElem?.1 (h.all j hj hf)
      have hcl := (List.getElem?_eq_some_iff.1 hc).1
      have hca : c ≠ a := fun e => by
        subst e
        rw [hc] at ha
        have e2 := congrArg Rc.id (Option.some.inj ha)
        unfold Rn at e2
        simp at e2
        exact hne e2
      by_cases hlast : c = l.length - 1
      · subst hlast
        rw [hc] at hz
        rw [Option.some.inj hz]
        exact List.mem_of_getElem? (dropL_a (by omega))
      · exact List.mem_of_getElem? ((dropL_c (by omega) hca).trans hc)
theorem recs_inv (k n : Nat) (hk : k ≤ n) : DInv n (fun j => decide (j < k)) (recsS 110 (fun i => i + 1) k) := by
  refine ⟨fun y hy => ?_, fun j hj hf => ?_⟩
  · obtain ⟨i, hi, rfl⟩ := recsS_mem hy
    exact ⟨i, by omega, decide_eq_true hi, rfl⟩
  · exact List.mem_of_getElem? (recsS_get (of_decide_eq_true hf))
theorem dir_Size {w wr : World} {bD bt bx bc bj bm bd q : Nat} {ys : List Int} {F : Nat → Prop} (h : DirB w bD bt bx bc bj bm bd ys q F wr) :
    Calls Tryz.prog 13 #[.pointer (some ⟨bt, 0, none⟩), .int .i64 1] wr fun e w' => e = .returned (.tuple #[.int .i64 ys.length, .nilIface]) ∧ Kp (fun _ => False) wr w' := by
  obtain ⟨R, h1, h2, _⟩ := h.iu
  have := iu_size h1 (ino := 1) (by omega) (by omega) (by rw [h2]; exact (by decide : (2 : Nat) ≠ 0))
  rw [h2] at this
  exact this
theorem updB_lt (k : Nat) : updB (fun j => decide (j < k)) k true = fun j => decide (j < k + 1) := by
  funext j
  unfold updB
  by_cases e : j = k
  · rw [if_pos e, e]; simp
  · rw [if_neg e]
    by_cases h : j < k
    · simp [h]; omega
    · simp [h]; omega
/-- A block of the loop's own is written: the directory stands. -/
theorem DirS.other {w wr w' : World} {bD bt bx bc bj bm bd q g n : Nat} {l : List Rc} {F : Nat → Prop} {f : Nat → Bool} (h : DirS w bD bt bx bc bj bm bd l q F wr) (k : Kp (fun b => b = g) wr w') (hg : ¬ F g) (hlo : w.heap.size ≤ g) (hb : BlB wr g n f) : DirS w bD bt bx bc bj bm bd l q F w' := by
  obtain ⟨⟨⟨R, ⟨⟨C, T, A, ht, rest⟩, h3, h4, h5⟩, hr⟩, hblk, hout⟩, ok, nm, few⟩ := h
  have hm := ht.map
  have n1 : bt ≠ g := fun e => by
    have h1 := ht.blk
    unfold TBlk at h1
    rw [e, show wr.heap[g]? = _ from hb] at h1
    simp only [Option.some.injEq, Obj.cells.injEq] at h1
    exact absurd h1.2.1 (by decide)
  have n2 : bx ≠ g := fun e => by
    have h1 := hm.blk
    unfold MBlk at h1
    rw [e, show wr.heap[g]? = _ from hb] at h1
    simp only [Option.some.injEq, Obj.cells.injEq] at h1
    exact absurd h1.2.1 (by decide)
  have n3 : bD ≠ g := fun e => by
    unfold DBlk at hblk
    rw [e, show wr.heap[g]? = _ from hb] at hblk
    simp only [Option.some.injEq, Obj.cells.injEq] at hblk
    exact absurd hblk.2.1 (by decide)
  have hm' : MapOn w' bx bc bj bm bd 0 20 80 C F := ⟨k.blk hm.blk n2, hm.out, hm.rep.kp k (fun i hi e => hg (by have : i = g := e; exact this ▸ hi)) (fun i e => by have : i = g := e; omega), hm.live, hm.vb, hm.n1, hm.n2, hm.inb, hm.far⟩
  exact ⟨⟨⟨R, ⟨⟨C, T, A, ⟨k.blk ht.blk n1, ht.out, hm', ht.geo, ht.ti⟩, rest⟩, h3.trans k (fun i e => .inr (by have : i = g := e; omega)), h4, h5⟩, hr⟩, k.blk hblk n3, hout⟩, ok, nm, few⟩
/-- How far it is to j, going round. -/
def distC (k j t : Nat) : Nat := if t ≤ j then j - t else j + k - t
theorem distC_lt {k j t : Nat} (hj : j < k) (ht : t < k) (hne : t ≠ j) : distC k j ((t + 1) % k) < distC k j t := by
  by_cases e : t + 1 = k
  · rw [e, Nat.mod_self]
    unfold distC
    rw [if_pos (Nat.zero_le _), if_neg (by omega)]
    omega
  · rw [Nat.mod_eq_of_lt (by omega)]
    unfold distC
    split <;> split <;> omega
theorem dirDrops_walk {w : World} (hg : Gl w) (hng : NG ≤ w.heap.size) (a b : Int) :
    Calls Tryz.prog 3 #[.int .i64 a, .int .i64 b] w fun e w' => e = .returned (.bool true) ∧ Kp (fun _ => False) w w' := by
  obtain ⟨q, hq, hq255⟩ := and_nat' a 255 (by decide)
  obtain ⟨p, hp, hp255⟩ := and_nat' b 255 (by decide)
  simp only [Int.cast_ofNat_Int] at hq hp
  obtain ⟨n, hn⟩ : ∃ n, n = q % 40 + 1 := ⟨_, rfl⟩
  have hnz : (q : Int) % 40 + 1 = (n : Int) := by omega
  have hn40 : n ≤ 40 := by have := Nat.mod_lt q (show 0 < 40 by omega); omega
  have hn1 : 1 ≤ n := by omega
  have hnw : IntKind.i64.wrap (n : Int) = (n : Int) := IntWalk.i64_in _ (by omega)
  have hmk := make_boolsD n (by omega)
  have HM := Lib.hid (made10_ok (w := w) hg hng)
  have HA := Lib.hid (fun (W : World) (h1 : Gl W) (h2 : NG ≤ W.heap.size) => awake10_ok (w := W) h1 h2)
  clear hg hng hn hq255
  go_enter Tryz.func3, Tryz.ntmps3
  go_wp2_with fail
  refine HM.out.mono ?_
  rintro e w1 ⟨bD, bt, bx, bc, bj, bm, bd, F, rfl, hd, _⟩
  have HD1 := Lib.hid hd
  clear hd HM
  go_upto_region 6 with fail
  have HDa := Lib.hid (HD1.out.kp0 ((Kp.refl _ w1).alloc (.cells (arB n fun _ => false) 4)))
  have HTa : Hid (BlB (w1.alloc (.cells (arB n fun _ => false) 4)) w1.heap.size n (fun j => decide (j < 0))) := by
    have e : (fun j => decide (j < 0)) = (fun _ => false : Nat → Bool) := by funext j; simp
    rw [e]
    exact new_blk w1 (.cells (arB n fun _ => false) 4)
  have HgF : Hid (¬ F w1.heap.size) := fun hF => by
    obtain ⟨R, h1, _⟩ := HD1.out.b.iu
    have := h1.fresh _ hF; omega
  have hgw : w.heap.size ≤ w1.heap.size := HD1.out.b.iu.choose_spec.1.kp.size
  clear HD1 hmk hq
  generalize w1.alloc (.cells (arB n fun _ => false) 4) = w2 at *
  generalize w1.heap.size = g at *
  go_wp2_with fail
  go_loopw [8] (fun i W => ∃ (k : Nat) (F' : Nat → Prop), i = .int .i64 k ∧ k ≤ n ∧ DirS w bD bt bx bc bj bm bd (recsS 110 (fun i => i + 1) k) (bks (32 * k)) F' W ∧ BlB W g n (fun j => decide (j < k)) ∧ ¬ F' g) (fun i _ => n - (intOf i).toNat)
  case atStart => exact ⟨0, F, rfl, Nat.zero_le _, HDa.out, HTa.out, HgF.out⟩
  case round =>
    obtain ⟨k, F2, rfl, hk, hd, ht, hgF2⟩ := hrel
    have HD := Lib.hid hd
    have HT := Lib.hid ht
    have HG := Lib.hid hgF2
    clear hd ht hgF2 HDa HTa HgF
    by_cases hlt : k < n
    · have hltz : (k : Int) < (n : Int) := by omega
      have hz0 : (0 : Int) ≤ (k : Int) := by omega
      have hw1 : IntKind.i64.wrap ((k : Int) + 1) = (k : Int) + 1 := IntWalk.i64_in _ (by omega)
      have HN := Lib.hid (ref_Num (w := wr) (k : Int) (by omega) (by omega))
      go_wp2_with fail
      refine HN.out.mono ?_
      rintro e w3 ⟨rfl, hk2⟩
      have HD2 := Lib.hid (HD.out.kp0 hk2)
      have HT2 := Lib.hid (HT.out.kp hk2 (fun h => h))
      have hsz := tx_num (i := k) (by omega)
      have hle := bks_leD (n := 32 * k) (m := 32 * (k + 1)) (by omega)
      have HP := Lib.hid (dir_Put_ok HD2.out (x := ⟨nmS 110 k, k + 1⟩) (Rn_ok (by omega)) (recsS_new (.inr rfl) (by omega)) (by rw [recsS_len]; omega) (Nat.le_trans (bks_33 (by omega)) (by omega)) (q' := bks (32 * (k + 1))) (by rw [recsS_len]; omega))
      rw [← recsS_succ, ← cat_num] at HP
      clear hk2 HN HD HT hle
      go_wp2_with fail
      refine HP.out.mono ?_
      rintro e w4 ⟨rfl, F3, hd, hk4, hg4⟩
      have HD4 := Lib.hid hd
      have hT4 := HT2.out.kp hk4 HG.out
      have HT4 := Lib.hid hT4
      have HG4 := Lib.hid (hg4.not HG.out (lt_blk HT2.out))
      have cb := hT4.cell hlt
      have fb := hT4.fz k
      clear hd hk4 hg4 HP HD2 HT2 hT4
      go_wp2_with fail
      have HT5 := Lib.hid (HT4.out.set k true)
      rw [updB_lt] at HT5
      have HD5 : Hid (DirS w bD bt bx bc bj bm bd (recsS 110 (fun i => i + 1) (k + 1)) (bks (32 * (k + 1))) F3 (w4.setCell ⟨g, k, none⟩ (.bool true))) := HD4.out.other (setCell_step (Kp.refl _ _)) HG4.out hgw HT4.out
      generalize w4.setCell ⟨g, k, none⟩ (.bool true) = w5 at *
      go_roundw
      case rel => exact ⟨k + 1, F3, by go_num, by omega, HD5.out, HT5.out, HG4.out⟩
      case measure => simp [intOf]; omega
    · have hkn : k = n := by omega
      subst hkn
      have HI := Lib.hid (recs_inv k k (Nat.le_refl _))
      have Hlen := Lib.hid (recsS_len 110 (fun i => i + 1) k)
      have hq11 := Lib.hid (show bks (32 * k) ≤ 36 from Nat.le_trans (bks_33 (by omega)) (by omega))
      have hltz : ¬ (k : Int) < (k : Int) := by omega
      generalize recsS 110 (fun i => i + 1) k = l0 at *
      generalize bks (32 * k) = q0 at *
      generalize (fun j => decide (j < k)) = f0 at *
      clear hlt hk hnz
      go_wp2_with fail
      go_loopw [9, 10, 11, 12, 13, 14, 15, 16, 17] (fun at_ left _ _ _ _ _ _ _ W => ∃ (t m : Nat) (l : List Rc) (f : Nat → Bool) (F' : Nat → Prop), at_ = .int .i64 t ∧ left = .int .i64 m ∧ t < k ∧ l.length = m ∧ m ≤ k ∧ DInv k f l ∧ DirS w bD bt bx bc bj bm bd l q0 F' W ∧ BlB W g k f ∧ ¬ F' g) (fun _ left _ _ _ _ _ _ _ _ => (intOf left).toNat)
      case atStart => exact ⟨0, k, l0, f0, F2, rfl, rfl, by omega, Hlen.out, Nat.le_refl _, HI.out, HD.out, HT.out, HG.out⟩
      case round =>
        clear HI Hlen HD HT HG
        obtain ⟨t, m, l, f, F3, rfl, rfl, htk, hlm, hmk, hinv, hd, ht, hgF3⟩ := hrel
        have HD := Lib.hid hd
        have HT := Lib.hid ht
        have HG := Lib.hid hgF3
        have HI := Lib.hid hinv
        clear hd ht hgF3 hinv
        by_cases hm0 : 0 < m
        · have hmz : (0 : Int) < (m : Int) := by omega
          have hsum : IntKind.i64.wrap ((t : Int) + (p : Int)) = (t : Int) + (p : Int) := IntWalk.i64_in _ (by omega)
          have hkne : ¬ (k : Int) = 0 := by omega
          obtain ⟨t1, ht1⟩ : ∃ t1, t1 = (t + p) % k := ⟨_, rfl⟩
          have ht1k : t1 < k := by rw [ht1]; exact Nat.mod_lt _ (by omega)
          have hrem : ((t : Int) + (p : Int)).tmod (k : Int) = (t1 : Int) := by
            rw [Int.tmod_eq_emod_of_nonneg (by omega), ht1]; simp
          have hrem2 : ((t : Int) + (p : Int)) % (k : Int) = (t1 : Int) := by rw [ht1]; simp
          clear ht1
          obtain ⟨j0, hj0k, hj0⟩ : ∃ j0, j0 < k ∧ f j0 = true := by
            obtain ⟨y, hy⟩ : ∃ y, l[0]? = some y := ⟨_, List.getElem?_eq_getElem (by omega)⟩
            obtain ⟨j, j1, j2, _⟩ := HI.out.mem y (List.mem_of_getElem? hy)
            exact ⟨j, j1, j2⟩
          have Hj0 := Lib.hid hj0
          clear hj0
          go_wp2_with fail
          clear hsum hrem hrem2
          go_loopw [9] (fun x W => ∃ t2 : Nat, x = .int .i64 t2 ∧ t2 < k ∧ W = wr) (fun x _ => distC k j0 (intOf x).toNat)
          case atStart => exact ⟨t1, rfl, ht1k, rfl⟩
          case round =>
            obtain ⟨t2, rfl, ht2k, hw⟩ := hrel
            generalize wr = W0 at *
            subst hw
            have cb := HT.out.cell ht2k
            have hz0 : (0 : Int) ≤ (t2 : Int) := by omega
            have hzk : (t2 : Int) < (k : Int) := by omega
            by_cases hf : f t2 = true
            · rw [hf] at cb
              have hfz := HT.out.fz t2
              have HT1 := Lib.hid (HT.out.set t2 false)
              have HD1 : Hid (DirS w bD bt bx bc bj bm bd l q0 F3 (W0.setCell ⟨g, t2, none⟩ (.bool false))) := HD.out.other (setCell_step (Kp.refl _ _)) HG.out hgw HT.out
              have Hf := Lib.hid hf
              clear hf
              go_upto_region 20 with fail
              generalize W0.setCell ⟨g, t2, none⟩ (.bool false) = W1 at *
              clear cb hfz HD HT
              obtain ⟨ai, ha⟩ := List.mem_iff_getElem?.1 (HI.out.all t2 ht2k Hf.out)
              obtain ⟨z, hz⟩ : ∃ z, l[l.length - 1]? = some z := ⟨_, List.getElem?_eq_getElem (by omega)⟩
              have HP := Lib.hid (fun (W : World) (hk : Kp (fun _ => False) W1 W) => dir_Drop_ok (HD1.out.kp0 hk) ha hz hq11.out)
              have hI2 := HI.out.drop HD1.out.nm ha hz
              have hl2 := dropL_len l ai z
              rw [show str (Rn t2).s = str (nmS 110 t2) from rfl, ← cat_num] at HP
              have HI2 := Lib.hid hI2
              have Hl2 := Lib.hid hl2
              clear hI2 hl2 ha hz HI
              generalize dropL l ai z = l2 at *
              generalize hf2 : updB f t2 false = f2 at *
              clear hf2
              have HN := Lib.hid (ref_Num (w := W1) (t2 : Int) (by omega) (by omega))
              have hsz := tx_num (i := t2) (by omega)
              go_wp2_with fail
              refine HN.out.mono ?_
              rintro e w3 ⟨rfl, hk3⟩
              have HP3 := Lib.hid (HP.out _ hk3)
              have HT3 := Lib.hid (HT1.out.kp hk3 (fun h => h))
              clear HP HN hk3 HT1 HD1
              go_wp2_with fail
              refine HP3.out.mono ?_
              rintro e w4 ⟨rfl, F4, hd, hk4, hg4⟩
              have HD4 := Lib.hid hd
              have HT4 := Lib.hid (HT3.out.kp hk4 HG.out)
              have HG4 := Lib.hid (hg4.not HG.out (lt_blk HT3.out))
              clear hd hk4 hg4 HP3 HT3
              have HL := Lib.hid (dir_Len HD4.out)
              rw [Hl2.out, hlm] at HL
              go_wp2_with fail
              refine HL.out.mono ?_
              rintro e w5 ⟨rfl, hk5⟩
              have HD5 := Lib.hid (HD4.out.kp0 hk5)
              have HT5 := Lib.hid (HT4.out.kp hk5 (fun h => h))
              clear hk5 HL HD4 HT4
              have HS := Lib.hid (dir_Size HD5.out.b)
              rw [dirRow_len HD5.out.ok, Hl2.out, hlm] at HS
              obtain ⟨m1, hm1⟩ : ∃ m1, m = m1 + 1 := ⟨m - 1, by omega⟩
              have e1 : m - 1 = m1 := by omega
              rw [e1] at HS
              have e2 : (m : Int) - 1 = (m1 : Int) := by omega
              have e3 : ((m - 1 : Nat) : Int) = (m1 : Int) := by omega
              have q1 : IntKind.i64.wrap (m1 : Int) = (m1 : Int) := IntWalk.i64_in _ (by omega)
              have q2 : IntKind.i64.wrap (32 * (m1 : Int)) = 32 * (m1 : Int) := IntWalk.i64_in _ (by omega)
              have hl2m : Hid (l2.length = m1) := by rw [Hl2.out, hlm]; exact e1
              go_wp2_with fail
              refine HS.out.mono ?_
              rintro e w6 ⟨rfl, hk6⟩
              have HD6 := Lib.hid (HD5.out.kp0 hk6)
              have HT6 := Lib.hid (HT5.out.kp hk6 (fun h => h))
              clear hk6 HS HD5 HT5
              go_wp2_with fail
              go_loopw [15, 16, 17] (fun x _ _ W => ∃ c : Nat, x = .int .i64 c ∧ c ≤ k ∧ DirS w bD bt bx bc bj bm bd l2 q0 F4 W ∧ BlB W g k f2) (fun x _ _ _ => k - (intOf x).toNat)
              case atStart => exact ⟨0, rfl, Nat.zero_le _, HD6.out, HT6.out⟩
              case round =>
                obtain ⟨c, rfl, hck, hd, ht⟩ := hrel
                have HD := Lib.hid hd
                have HT := Lib.hid ht
                clear hd ht HD6 HT6
                by_cases hclt : c < k
                · have hcz : (c : Int) < (k : Int) := by omega
                  have hc0 : (0 : Int) ≤ (c : Int) := by omega
                  have hcw : IntKind.i64.wrap ((c : Int) + 1) = (c : Int) + 1 := IntWalk.i64_in _ (by omega)
                  have HN := Lib.hid (ref_Num (w := wr) (c : Int) (by omega) (by omega))
                  have hszc := tx_num (i := c) (by omega)
                  clear hsz
                  go_wp2_with fail
                  refine HN.out.mono ?_
                  rintro e w7 ⟨rfl, hk7⟩
                  have HD7 := Lib.hid (HD.out.kp0 hk7)
                  have HT7 := Lib.hid (HT.out.kp hk7 (fun h => h))
                  clear hk7 HN HD HT
                  by_cases hfc : f2 c = true
                  · obtain ⟨d, hd⟩ := List.mem_iff_getElem?.1 (HI2.out.all c hclt hfc)
                    have HF := Lib.hid (dir_Find_ok HD7.out hd)
                    rw [show str (Rn c).s = str (nmS 110 c) from rfl, ← cat_num, show ((Rn c).id : Int) = (c : Int) + 1 by unfold Rn; simp] at HF
                    clear hd
                    go_wp2_with fail
                    refine HF.out.mono ?_
                    rintro e w8 ⟨rfl, hk8⟩
                    have HD8 := Lib.hid (HD7.out.kp0 hk8)
                    have hT8 := HT7.out.kp hk8 (fun h => h)
                    have HT8 := Lib.hid hT8
                    have cb := hT8.cell hclt
                    rw [hfc] at cb
                    clear hk8 HF HD7 HT7 hT8 hfc
                    go_wp2_with fail
                    go_quiet (fail)
                    go_wp2_with fail
                    go_roundw
                    case rel => exact ⟨c + 1, by go_num, by omega, HD8.out.kp0 (Kp.drewN (Kp.refl _ _) nq), HT8.out.kp (Kp.drewN (Kp.refl (fun _ => False) _) nq) (fun h => h)⟩
                    case measure => simp [intOf]; omega
                  · have hfc' : f2 c = false := by simpa using hfc
                    have HF := Lib.hid (dir_Find_none HD7.out (nmS 110 c) (nmS_ok (.inr rfl) (by omega)) (fun y hy e => by
                      obtain ⟨d, d1, d2, rfl⟩ := HI2.out.mem y hy
                      have := nmS_inj (c := 110) (.inr rfl) (by omega) (by omega) e
                      rw [this, hfc'] at d2
                      cases d2))
                    rw [← cat_num] at HF
                    go_wp2_with fail
                    refine HF.out.mono ?_
                    rintro e w8 ⟨v, rfl, hv, hk8⟩
                    obtain ⟨ty, yv, rfl⟩ := hv.iface
                    have HD8 := Lib.hid (HD7.out.kp0 hk8)
                    have hT8 := HT7.out.kp hk8 (fun h => h)
                    have HT8 := Lib.hid hT8
                    have cb := hT8.cell hclt
                    rw [hfc'] at cb
                    clear hv hk8 HF HD7 HT7 hT8 hfc hfc'
                    go_wp2_with fail
                    go_quiet (fail)
                    go_wp2_with fail
                    go_roundw
                    case rel => exact ⟨c + 1, by go_num, by omega, HD8.out.kp0 (Kp.drewN (Kp.refl _ _) nq), HT8.out.kp (Kp.drewN (Kp.refl (fun _ => False) _) nq) (fun h => h)⟩
                    case measure => simp [intOf]; omega
                · have hcz : ¬ (c : Int) < (k : Int) := by omega
                  clear hsz
                  go_wp2_with fail
                  go_roundw
                  case rel => exact ⟨t2, m1, l2, f2, F4, rfl, by go_num, ht2k, hl2m.out, by omega, HI2.out, HD.out, HT.out, HG4.out⟩
                  case measure => simp [intOf]; omega
            · have hf' : f t2 = false := by simpa using hf
              rw [hf'] at cb
              have hne : t2 ≠ j0 := fun e => by rw [e, Hj0.out] at hf'; cases hf'
              have hw1 : IntKind.i64.wrap ((t2 : Int) + 1) = (t2 : Int) + 1 := IntWalk.i64_in _ (by omega)
              have hr1 : ((t2 : Int) + 1).tmod (k : Int) = (((t2 + 1) % k : Nat) : Int) := by rw [Int.tmod_eq_emod_of_nonneg (by omega)]; simp
              have hr2 : ((t2 : Int) + 1) % (k : Int) = (((t2 + 1) % k : Nat) : Int) := by simp
              have Hdl := Lib.hid (distC_lt hj0k ht2k hne)
              have Hmk := Lib.hid (Nat.mod_lt (t2 + 1) (show 0 < k by omega))
              clear hf hf' hne
              generalize (t2 + 1) % k = t3 at *
              go_wp2_with fail
              go_roundw
              case rel => exact ⟨t3, rfl, Hmk.out, trivial⟩
              case measure => simpa [intOf] using Hdl.out
        · have hmz : ¬ (0 : Int) < (m : Int) := by omega
          go_wp2_with fail
          refine (HA.out _ HD.out.gl HD.out.ngr).mono ?_
          rintro e w3 ⟨rfl, hk3⟩
          have HKe := Lib.hid (HD.out.kp.trans hk3 (Gr.refl _ _))
          clear hk3
          go_wp2_with fail
          go_ret
          exact ⟨rfl, HKe.out⟩
end Go.Proofs.YthjbpbahcemfgaaGreatDoor
