/- The disk: what its functions answer on a disk that lives. -/
/- A new disk; what a dead disk, or a block that is not there, is told by. -/
/- The journal: its small functions. -/
import Derived.Test.YthjbpbahcemfgaaGreatDoorSl
import Derived.Deep.RegionHeld3
import Derived.Deep.RegionWith
import Derived.Deep.Cut
import Derived.Deep.DeepCutAuto
namespace Go.Proofs.YthjbpbahcemfgaaGreatDoor
open Go.RowKit
set_option maxHeartbeats 1000000
set_option maxRecDepth 20000

/-- A disk: how many blocks, what each holds, the writes so far, the limit, whether it is dead. -/
structure DSt where
  n : Nat
  row : Nat → List Int
  writes : Int
  fuse : Int
  dead : Bool

/-- A block of the disk in memory: nil where it was never written. -/
def RowV (w : World) (F : Nat → Prop) (v : Value) (xs : List Int) : Prop :=
  (v = .slice none 0 0 ∧ xs = zs 128) ∨ ∃ g c, v = .slice (some ⟨g, 0, none⟩) 128 c ∧ 128 ≤ c ∧ Row w g xs ∧ F g ∧ xs.length = 128 ∧ c ≤ maxLen

structure DRep (w : World) (bd : Nat) (D : DSt) (F : Nat → Prop) : Prop where
  ex : ∃ bl rows, w.heap[bd]? = some (.cells #[.slice (some ⟨bl, 0, none⟩) D.n D.n, .int .i64 D.writes, .int .i64 D.fuse, .bool D.dead] 195 (0, 0)) ∧
    w.heap[bl]? = some (.cells rows 52 (0, 0)) ∧ rows.size = D.n ∧ F bl ∧ (∀ i, i < D.n → ∃ v, rows[i]? = some v ∧ RowV w F v (D.row i))
  own : F bd
  lt : ∀ k, F k → k < w.heap.size
  few : D.n ≤ 2048
  gl : Gl w
  hi : Hi F
  cl : FCl w F

theorem RowV.kp {w w' : World} {F : Nat → Prop} {v : Value} {xs : List Int} {S : Nat → Prop} (h : RowV w F v xs) (k : Kp S w w') (hs : ∀ i, F i → ¬ S i) : RowV w' F v xs := by
  rcases h with h | ⟨g, c, h1, h2, h3, h4, h5, h6⟩
  · exact .inl h
  · exact .inr ⟨g, c, h1, h2, h3.kp k (hs g h4), h4, h5, h6⟩
theorem FCl.kp {w w' : World} {F S : Nat → Prop} (h : FCl w F) (k : Kp S w w') (hs : ∀ i, F i → ¬ S i) (hl : ∀ k, F k → k < w.heap.size) : FCl w' F := fun i hi cs fr => by
  rw [k.block i (hl i hi) (hs i hi)]; exact h i hi cs fr
theorem DRep.kp {w w' : World} {bd : Nat} {D : DSt} {F S : Nat → Prop} (h : DRep w bd D F) (k : Kp S w w') (hs : ∀ i, F i → ¬ S i) (hS : Hi S) : DRep w' bd D F := by
  obtain ⟨⟨bl, rows, h1, h2, h3, h4, h5⟩, ho, hl, hf, hg, hh, hc⟩ := h
  exact ⟨⟨bl, rows, k.blk h1 (hs _ ho), k.blk h2 (hs _ h4), h3, h4, fun i hi => let ⟨v, a, b⟩ := h5 i hi; ⟨v, a, b.kp k hs⟩⟩, ho, fun i hi => k.lt (hl i hi), hf, hg.kp k hS, hh, hc.kp k hs hl⟩
theorem DRep.kp0 {w w' : World} {bd : Nat} {D : DSt} {F : Nat → Prop} (h : DRep w bd D F) (k : Kp (fun _ => False) w w') : DRep w' bd D F :=
  h.kp k (fun _ _ h => h) Hi.none

theorem disk_may_ok {w : World} {bd : Nat} {D : DSt} {F : Nat → Prop} (h : DRep w bd D F) (i : Int) (h0 : 0 ≤ i) (hi : i < D.n) (hd : D.dead = false) :
    Calls Tryz.prog 138 #[.pointer (some ⟨bd, 0, none⟩), .int .i64 i, .bool true] w fun e w' => e = .returned .nilIface ∧ w' = w := by
  obtain ⟨⟨bl, rows, h1, h2, h3, h4, h5⟩, ho, hl, hf, hg, hh, hc⟩ := h
  have c0 := cell_blk h1 0
  have c3 := cell_blk h1 3
  simp [hd] at c0 c3
  clear h1 h2 h5 hl hg hh hc
  go_enter Tryz.func138, Tryz.ntmps138
  go_wp2
  go_ret
  exact ⟨rfl, rfl⟩

theorem min_128 : Nat.min 128 128 = 128 := rfl

theorem RowV.len {w : World} {F : Nat → Prop} {v : Value} {xs : List Int} (h : RowV w F v xs) : xs.length = 128 := by
  rcases h with ⟨_, rfl⟩ | ⟨_, _, _, _, _, _, h, _⟩
  · simp
  · exact h
theorem RowV.sl {w : World} {F : Nat → Prop} {v : Value} {xs : List Int} (h : RowV w F v xs) : ∃ ys, Sl w v ys ∧ (ys = xs ∨ ys = [] ∧ xs = zs 128) ∧ ys.length ≤ 128 ∧ (∀ b, blockOf v = some b → F b) := by
  rcases h with ⟨rfl, hx⟩ | ⟨g, c, rfl, hc, hrow, hF, hlen, hm⟩
  · exact ⟨[], Sl.nil w, .inr ⟨rfl, hx⟩, by simp, fun b hb => by simp [blockOf] at hb⟩
  · refine ⟨xs, ?_, .inl rfl, by omega, fun b hb => by simp [blockOf] at hb; subst hb; exact hF⟩
    have h := hrow.sl c (by omega) hm
    rw [hlen] at h; exact h
theorem splice_zs (ys xs : List Int) (h : ys = xs ∨ ys = [] ∧ xs = zs 128) (hl : xs.length = 128) : splice (zs 128) 0 (ys.take 128) = xs := by
  rcases h with rfl | ⟨rfl, rfl⟩
  · rw [List.take_of_length_le (by omega)]; simp [splice, zs, hl]
  · simp [splice]

theorem disk_Read_ok {w : World} {bd : Nat} {D : DSt} {F : Nat → Prop} (h : DRep w bd D F) (i : Int) (h0 : 0 ≤ i) (hi : i < D.n) (hd : D.dead = false) :
    Calls Tryz.prog 154 #[.pointer (some ⟨bd, 0, none⟩), .int .i64 i] w fun e w' => e = .returned (.tuple #[.slice (some ⟨w.heap.size, 0, none⟩) 128 128, .nilIface]) ∧
      RowE w' w.heap.size (D.row i.toNat) ∧ Kp (fun _ => False) w w' := by
  have hm := disk_may_ok h i h0 hi hd
  obtain ⟨⟨bl, rows, h1, h2, h3, h4, h5⟩, ho, hl, hf, hg, hh, hc⟩ := h
  obtain ⟨n, rfl⟩ := Int.eq_ofNat_of_zero_le h0
  have hn : n < D.n := by omega
  obtain ⟨v, hv, hr⟩ := h5 n hn
  have c0 := cell_blk h1 0
  have c1 := cell_blk h2 n
  rw [hv] at c1
  simp at c0
  have hb1 : bd < w.heap.size := lt_blk h1
  have hb2 : bl < w.heap.size := lt_blk h2
  obtain ⟨ys, hs, hys, hlen, _⟩ := hr.sl
  have hrl := hr.len
  clear h1 h2 h5 hl hv h3 hr hg hh hc
  have H := Lib.hid hm
  have Hs := Lib.hid hs
  have Hsp := Lib.hid (splice_zs ys (D.row n) hys hrl)
  have Hfit : Hid (0 + Nat.min ys.length 128 ≤ (zs 128).length) := (show 0 + Nat.min ys.length 128 ≤ (zs 128).length by rw [zs_length, Nat.zero_add]; exact Nat.min_le_right _ _)
  clear hm hs hys hd hrl
  go_enter Tryz.func154, Tryz.ntmps154
  go_wp2_with fail
  refine (H.out).mono ?_
  rintro e w' ⟨rfl, rfl⟩
  go_wp2_with (first | (at_make; refine wpList_make128 rfl rfl ?_) | ((with_reducible refine at_copy rfl ?_); (refine wpList_copyB rfl _ _ rfl _ _ _ rfl _ rfl _ 0 _ ys (rowE_new _ _) (Hs.out.kp (Kp.alloc (F := fun _ => False) (Kp.refl _ _) _) (fun _ _ h => h)) (fun _ => rfl) Hfit.out ?_); intro w1 hk1 hz1 hr1))
  go_ret2
  refine ⟨rfl, ?_, ?_⟩
  · exact Hsp.out ▸ hr1
  · exact ((Kp.alloc (F := fun _ => False) (Kp.refl _ _) (zrow 128)).trans (F1 := fun k => k = w'.heap.size) hk1 (fun k hk => .inr (by simp only [] at hk; omega)))

theorem disk_Blocks {w : World} {bd : Nat} {D : DSt} {F : Nat → Prop} (h : DRep w bd D F) :
    Calls Tryz.prog 115 #[.pointer (some ⟨bd, 0, none⟩)] w fun e w' => e = .returned (.int .i64 D.n) ∧ w = w' := by
  obtain ⟨⟨bl, rows, h1, h2, h3, h4, h5⟩, ho, hl, hf, hg, hh, hc⟩ := h
  have c0 := cell_blk h1 0
  simp at c0
  clear h1 h2 h5 hl hg hh hc
  go_enter Tryz.func115, Tryz.ntmps115
  go_wp2
  go_ret
  exact ⟨rfl, rfl⟩

/-- The disk behind a write. -/
def DSt.wr (D : DSt) (i : Nat) (ys : List Int) : DSt :=
  { D with row := fun k => if k = i then ys else D.row k, writes := wrap64 (D.writes + 1), fuse := if 0 < D.fuse then D.fuse - 1 else D.fuse, dead := if 0 < D.fuse then (D.fuse - 1 == 0) else D.dead }

/-- Where the disk's rows lie. -/
def DL (w : World) (bd bl : Nat) : Prop := ∃ n, w.cell? ⟨bd, 0, none⟩ = some (.slice (some ⟨bl, 0, none⟩) n n)
/-- Within the disk's own two blocks. -/
def KpD (bd : Nat) (w w' : World) : Prop := ∀ bl, DL w bd bl → Kp (fun k => k = bd ∨ k = bl) w w' ∧ DL w' bd bl
theorem KpD.of0 {bd : Nat} {w w' : World} (h : Kp (fun _ => False) w w') : KpD bd w w' := fun _ ⟨n, hn⟩ => ⟨h.mono (fun _ h => h.elim), n, h.cell hn (fun h => h)⟩
theorem KpD.trans {bd : Nat} {w w1 w2 : World} (h : KpD bd w w1) (k : KpD bd w1 w2) : KpD bd w w2 := fun bl hb => ⟨(h bl hb).1.trans (k bl (h bl hb).2).1 (Gr.refl _ _), (k bl (h bl hb).2).2⟩
/-- What the assignment in Write leaves. -/
def WrMid (w : World) (bl n : Nat) (rows : Array Value) (ys : List Int) (W : World) : Prop :=
  ∃ g, w.heap.size ≤ g ∧ Row W g ys ∧ W.heap[bl]? = some (.cells (rows.setIfInBounds n (.slice (some ⟨g, 0, none⟩) 128 128)) 52 (0, 0)) ∧ Kp (fun k => k = bl) w W
theorem wrMid_of {w w0 w1 : World} {bl n g : Nat} {rows : Array Value} {ys : List Int} (h2 : w.heap[bl]? = some (.cells rows 52 (0, 0))) (h0 : Kp (fun _ => False) w w0) (hk : Kp (fun _ => False) w0 w1) (hr : Row w1 g ys)
    (hg : w0.heap.size ≤ g) : WrMid w bl n rows ys (w1.setCell ⟨bl, n, none⟩ (.slice (some ⟨g, 0, none⟩) 128 128)) := by
  have hk' : Kp (fun _ => False) w w1 := h0.trans hk (Gr.refl _ _)
  have hb := lt_blk h2
  have h01 := h0.size
  refine ⟨g, by omega, ?_, set_blk (hk'.blk h2 (fun h => h)) _ _, Kp.setCell (F := fun k => k = bl) (p := ⟨bl, n, none⟩) (hk'.mono (fun _ h => h.elim)) (.inl rfl) _⟩
  exact hr.kp (F := fun k => k = bl) (Kp.setCell (F := fun k => k = bl) (p := ⟨bl, n, none⟩) (Kp.refl _ _) (.inl rfl) _) (by omega)

theorem wr_fin {w : World} {bd bl n g : Nat} {D : DSt} {F : Nat → Prop} {rows : Array Value} {ys : List Int} {W W' : World} (h1 : w.heap[bd]? = some (.cells #[.slice (some ⟨bl, 0, none⟩) D.n D.n, .int .i64 D.writes, .int .i64 D.fuse, .bool D.dead] 195 (0, 0)))
    (h2 : w.heap[bl]? = some (.cells rows 52 (0, 0))) (h3 : rows.size = D.n) (h4 : F bl) (h5 : ∀ i, i < D.n → ∃ v, rows[i]? = some v ∧ RowV w F v (D.row i)) (ho : F bd) (hl : ∀ k, F k → k < w.heap.size) (hf : D.n ≤ 2048) (hgl : Gl w) (hh : Hi F) (hc : FCl w F)
    (hy : ys.length = 128) (hn : n < D.n) (hne : bl ≠ bd) (hg : w.heap.size ≤ g) (hr : Row W g ys) (hbl : W.heap[bl]? = some (.cells (rows.setIfInBounds n (.slice (some ⟨g, 0, none⟩) 128 128)) 52 (0, 0))) (hk : Kp (fun k => k = bl) w W)
    (hbd : W'.heap[bd]? = some (.cells #[.slice (some ⟨bl, 0, none⟩) D.n D.n, .int .i64 (D.wr n ys).writes, .int .i64 (D.wr n ys).fuse, .bool (D.wr n ys).dead] 195 (0, 0))) (hk2 : Kp (fun k => k = bd) W W') :
    ∃ F', DRep W' bd (D.wr n ys) F' ∧ Kp F w W' ∧ Gr F F' w.heap.size ∧ KpD bd w W' := by
  have hlb := hl _ ho
  have hlW := hk.size
  have hlW' := hk2.size
  have hgW := hr.lt
  have hkk : Kp (fun k => k = bl ∨ k = bd) w W' := (hk.mono (fun _ h => .inl h)).trans (hk2.mono (fun _ h => .inr h)) (Gr.refl _ _)
  have hkF : Kp F w W' := hkk.mono (by rintro k (rfl | rfl) <;> assumption)
  have hgr : Row W' g ys := hr.kp hk2 (by omega)
  have hnot : ∀ {j : Nat} {xs : List Int}, Row w j xs → Row W' j xs := fun {j xs} hj => by
    refine hj.kp hkk ?_
    obtain ⟨cs, rest, hb, _⟩ := hj
    rintro (rfl | rfl)
    · rw [h2] at hb; simp at hb
    · rw [h1] at hb; simp at hb
  refine ⟨fun k => F k ∨ k = g, ⟨⟨bl, _, hbd, hk2.blk hbl hne, by simpa [DSt.wr] using h3, .inl h4, fun i hi => ?_⟩, .inl ho, ?_, hf, hgl.kp hkF hh, ?_, ?_⟩, hkF, ?_, ?_⟩
  · by_cases e : i = n
    · subst e
      refine ⟨.slice (some ⟨g, 0, none⟩) 128 128, by simp [h3, hn], ?_⟩
      simp only [DSt.wr, if_pos]
      exact .inr ⟨g, 128, rfl, Nat.le_refl _, hgr, .inr rfl, hy, by simp [maxLen]⟩
    · obtain ⟨v, hv, hrv⟩ := h5 i hi
      refine ⟨v, by rw [Array.getElem?_setIfInBounds, if_neg (fun h => e h.symm)]; exact hv, ?_⟩
      simp only [DSt.wr, if_neg e]
      rcases hrv with h | ⟨g', c', e1, e2, e3, e4, e5, e6⟩
      · exact .inl h
      · exact .inr ⟨g', c', e1, e2, hnot e3, .inl e4, e5, e6⟩
  · rintro k (hk' | rfl)
    · have := hl k hk'; have := hkF.size; omega
    · exact hgr.lt
  · rintro k (hk' | rfl)
    · exact hh k hk'
    · have := hh _ ho; omega
  · rintro k (hk' | rfl) cs fr hcs
    · by_cases e1 : k = bl
      · subst e1; rw [hk2.blk hbl hne] at hcs; simp at hcs
      · by_cases e2 : k = bd
        · subst e2; rw [hbd] at hcs; simp at hcs
        · rw [hkk.block k (hl k hk') (by rintro (h | h); exact e1 h; exact e2 h)] at hcs
          exact hc k hk' cs fr hcs
    · obtain ⟨cs', _, hb, _⟩ := hgr
      rw [hb] at hcs; simp at hcs
  · rintro k (hk' | rfl)
    · exact .inl hk'
    · exact .inr hg
  · rintro bl' ⟨m, hm⟩
    have c0 := cell_blk h1 0
    have c1 := cell_blk hbd 0
    rw [hm] at c0
    simp at c0
    obtain ⟨rfl, rfl, _⟩ := c0
    exact ⟨hkk.mono (fun _ h => h.symm), D.n, by simpa using c1⟩

theorem disk_Write_ok {w : World} {bd : Nat} {D : DSt} {F : Nat → Prop} (h : DRep w bd D F) (i : Int) (h0 : 0 ≤ i) (hi : i < D.n) (hd : D.dead = false) (hfu : D.fuse ≤ 9223372036854775807) (hfl : -9223372036854775808 ≤ D.fuse)
    (v : Value) (ys : List Int) (hv : Sl w v ys) (hy : ys.length = 128) :
    Calls Tryz.prog 106 #[.pointer (some ⟨bd, 0, none⟩), .int .i64 i, v] w fun e w' => e = .returned .nilIface ∧
      ∃ F', DRep w' bd (D.wr i.toNat ys) F' ∧ Kp F w w' ∧ Gr F F' w.heap.size ∧ KpD bd w w' := by
  have hm := disk_may_ok h i h0 hi hd
  obtain ⟨⟨bl, rows, h1, h2, h3, h4, h5⟩, ho, hl, hf, hg, hh, hc⟩ := h
  obtain ⟨n, rfl⟩ := Int.eq_ofNat_of_zero_le h0
  obtain ⟨A, c, hve, hv1, hv2, hv3⟩ := id hv
  rw [hy] at hve hv1
  subst hve
  have c0 := cell_blk h1 0
  simp at c0
  obtain ⟨old, hold, _⟩ := h5 n (by omega)
  have cn := cell_blk h2 n
  rw [hold] at cn
  have fn := frozen_blk h2 n
  have H := Lib.hid hm
  have H1 := Lib.hid h1
  have H2 := Lib.hid h2
  have H3 := Lib.hid h3
  have H5 := Lib.hid h5
  have Hv := Lib.hid hv
  have Hy := Lib.hid hy
  have Hd := Lib.hid hd
  have Hl := Lib.hid hl
  have Hg := Lib.hid hg
  have Hh := Lib.hid hh
  have Hc := Lib.hid hc
  have hb1 : bd < w.heap.size := lt_blk h1
  have hb2 : bl < w.heap.size := lt_blk h2
  have hne : bl ≠ bd := fun e => by rw [e, h1] at h2; simp at h2
  clear hm hv hy h1 h2 h3 h5 hl hg hh hc hv3 hd hold
  go_enter Tryz.func106, Tryz.ntmps106
  go_wp2_with fail
  refine H.out.mono ?_
  rintro e w' ⟨rfl, rfl⟩
  go_upto_region 4 with fail
  have hn0 : (0 : Int) ≤ (n : Int) := by omega
  have hn1 : (n : Int) < (D.n : Int) := hi
  go_cut [] (fun W => WrMid w' bl n rows ys W)
  case first =>
    go_region_with (first | (go_at_call 59; refine (clone_n _ _ ys _ (Hv.out.kp (F := fun _ => False) (by first | exact (Kp.refl _ _).drew | exact (Kp.refl _ _)) (fun _ _ h => h)) Hy.out (by omega) (by omega)).mono ?_; rintro e w1 ⟨g, c1, rfl, hc1, hc2, hrow, hg1, hkc⟩; have cA := hkc.cell (p := ⟨bd, 0, none⟩) c0 (fun h => h); have cB := hkc.cell (p := ⟨bl, n, none⟩) cn (fun h => h); have cC := hkc.frz (p := ⟨bl, n, none⟩) fn hb2 (fun h => h)) | (go_at_call 58; refine (clip_any _ _ _ _ (by omega) hc2).mono ?_; rintro e w2 ⟨rfl, rfl⟩))
    all_goals (go_wp2_with fail; go_meet; exact wrMid_of H2.out (by first | exact (Kp.refl _ _).drew | exact (Kp.refl _ _)) hkc hrow hg1)
  case rest =>
    obtain ⟨g, hg, hrow, hbl, hkp⟩ := hcut
    have b1 := hkp.blk H1.out (fun e => hne e.symm)
    have c0 := cell_blk b1 0
    have c1 := cell_blk b1 1
    have c2 := cell_blk b1 2
    have c3 := cell_blk b1 3
    have f1 := frozen_blk b1 1
    have f2 := frozen_blk b1 2
    have f3 := frozen_blk b1 3
    simp at c0 c1 c2 c3
    have B1 := Lib.hid b1
    have Bl := Lib.hid hbl
    have Hr := Lib.hid hrow
    have Hk := Lib.hid hkp
    clear b1 hbl hrow hkp
    by_cases hfz : 0 < D.fuse
    · go_wp2_with fail
      go_ret
      refine ⟨rfl, wr_fin H1.out H2.out H3.out h4 H5.out ho Hl.out hf Hg.out Hh.out Hc.out Hy.out (by omega) hne hg Hr.out Bl.out Hk.out ?_ (Kp.setCell (F := fun k => k = bd) (Kp.setCell (F := fun k => k = bd) (Kp.setCell (F := fun k => k = bd) (Kp.refl _ _) (.inl rfl) _) (.inl rfl) _) (.inl rfl) _)⟩
      rw [set_blk (set_blk (set_blk B1.out 1 _) 2 _) 3 _]
      simp [DSt.wr, hfz]
    · go_wp2_with fail
      go_ret
      refine ⟨rfl, wr_fin H1.out H2.out H3.out h4 H5.out ho Hl.out hf Hg.out Hh.out Hc.out Hy.out (by omega) hne hg Hr.out Bl.out Hk.out ?_ (Kp.setCell (F := fun k => k = bd) (Kp.refl _ _) (.inl rfl) _)⟩
      have hz : ¬ 0 < D.fuse := by omega
      rw [set_blk B1.out 1 _]
      simp [DSt.wr, hz]
end Go.Proofs.YthjbpbahcemfgaaGreatDoor
namespace Go.Proofs.YthjbpbahcemfgaaGreatDoor
open Go.RowKit
set_option maxHeartbeats 1000000
set_option maxRecDepth 20000

theorem Tryz.infoRow : (Tryz.prog.info? 52).map (fun i => (i.zero, i.size, i.bytes)) = some (some (.slice none 0 0), 1, 24) := by kernel_rfl

/-- A disk of noughts. -/
def DSt.new (n : Nat) : DSt := { n := n, row := fun _ => zs 128, writes := 0, fuse := -1, dead := false }

theorem disk_New_ok {w : World} (hg : Gl w) (hng : NG ≤ w.heap.size) (n : Int) (h0 : 16 ≤ n) (h1 : n ≤ 2048) :
    Calls Tryz.prog 70 #[.int .i64 n] w fun e w' => ∃ bd F, e = .returned (.tuple #[.pointer (some ⟨bd, 0, none⟩), .nilIface]) ∧ DRep w' bd (DSt.new n.toNat) F ∧ Kp (fun _ => False) w w' ∧ (∀ k, F k → w.heap.size ≤ k) := by
  have Hg := Lib.hid hg
  have Hn := Lib.hid hng
  clear hg hng
  go_enter Tryz.func70, Tryz.ntmps70
  go_wp2_with (at_make; refine wpList_makeN rfl 186 52 (.slice none 0 0) 24 Tryz.underlying186 Tryz.infoRow rfl _ _ rfl n rfl rfl (by omega) (by omega) (by omega) ?_; obtain ⟨X, hX⟩ : ∃ X, X = Obj.cells (List.replicate n.toNat (Value.slice none 0 0)).toArray 52 := ⟨_, rfl⟩; rw [← hX]; have HX := Lib.hid hX; clear hX)
  go_ret2
  obtain ⟨Y, hY⟩ : ∃ Y, Y = Obj.cells #[.slice (some ⟨w.heap.size, 0, none⟩) n.toNat n.toNat, .int .i64 0, .int .i64 (-1), .bool false] 195 := ⟨_, rfl⟩
  have e1 := new_blk w X
  have e2 := new_blk (w.alloc X) Y
  have kp : Kp (fun _ => False) w ((w.alloc X).alloc Y) := ((Kp.refl _ _).alloc _).alloc _
  have s1 := size_alloc w X
  have s2 := size_alloc (w.alloc X) Y
  rw [s1] at e2 s2
  have e3 := (Kp.alloc (F := fun _ => False) (Kp.refl _ (w.alloc X)) Y).blk e1 (fun h => h)
  have hng := Hn.out
  have hX := HX.out
  refine ⟨w.heap.size + 1, fun k => k = w.heap.size ∨ k = w.heap.size + 1, rfl, ?_⟩
  show DRep ((w.alloc X).alloc (Obj.cells #[.slice (some ⟨w.heap.size, 0, none⟩) n.toNat n.toNat, .int .i64 0, .int .i64 (-1), .bool false] 195)) _ _ _ ∧ Kp _ _ ((w.alloc X).alloc (Obj.cells #[.slice (some ⟨w.heap.size, 0, none⟩) n.toNat n.toNat, .int .i64 0, .int .i64 (-1), .bool false] 195)) ∧ _
  rw [← hY]
  refine ⟨⟨⟨w.heap.size, (List.replicate n.toNat (Value.slice none 0 0)).toArray, by rw [e2, hY]; rfl, by rw [e3, hX], by simp [DSt.new], .inl rfl, ?_⟩, .inr rfl, ?_, ?_, Hg.out.kp kp Hi.none, ?_, ?_⟩, kp, ?_⟩
  · intro i hi
    refine ⟨.slice none 0 0, ?_, .inl ⟨rfl, rfl⟩⟩
    have hi' : i < n.toNat := hi
    rw [List.getElem?_toArray, List.getElem?_replicate, if_pos hi']
  · rintro k (rfl | rfl) <;> rw [s2] <;> omega
  · simp [DSt.new]; omega
  · rintro k (rfl | rfl) <;> omega
  · rintro k (rfl | rfl) cs fr hcs
    · rw [e3, hX] at hcs; simp at hcs
    · rw [e2, hY] at hcs; simp at hcs
  · rintro k (rfl | rfl) <;> omega
end Go.Proofs.YthjbpbahcemfgaaGreatDoor
namespace Go.Proofs.YthjbpbahcemfgaaGreatDoor
open Go.RowKit
set_option maxHeartbeats 1000000
set_option maxRecDepth 20000

/-- A journal in memory. -/
def JBlk (w : World) (bj bd : Nat) (at_ most : Nat) : Prop :=
  w.heap[bj]? = some (.cells #[.pointer (some ⟨bd, 0, none⟩), .int .i64 at_, .int .i64 most] 185 (0, 0))
/-- How many blocks a journal has. -/
def need (m : Nat) : Nat := m + m / 16 + min (m % 16) 1 + 2

theorem journal_Need {w : World} (m : Nat) (h1 : 1 ≤ m) (h2 : m ≤ 2048) :
    Calls Tryz.prog 116 #[.int .i64 m] w fun e w' => e = .returned (.int .i64 (need m)) ∧ w = w' := by
  have e : (need m : Int) = (m : Int) + (m : Int) / 16 + min ((m : Int) % 16) 1 + 2 := by unfold need; omega
  have E := Lib.hid e
  clear e
  go_enter Tryz.func116, Tryz.ntmps116
  go_wp2
  go_ret
  refine ⟨ret_int ?_, rfl⟩
  rw [E.out]
  omega

theorem journal_Most {w : World} {bj bd at_ most : Nat} (h : JBlk w bj bd at_ most) :
    Calls Tryz.prog 129 #[.pointer (some ⟨bj, 0, none⟩)] w fun e w' => e = .returned (.int .i64 most) ∧ w = w' := by
  have c2 := cell_blk h 2
  simp at c2
  clear h
  go_enter Tryz.func129, Tryz.ntmps129
  go_wp2
  go_ret
  exact ⟨rfl, rfl⟩

theorem journal_told (v : Value) (E : EV) (w : World) (hv : ErrV w v E) :
    Calls Tryz.prog 107 #[v] w fun e w' => ∃ v', e = .returned v' ∧ ErrV w' v' (wrapE (tx [106, 111, 117, 114, 110, 97, 108]) (tx []) E) ∧ Kp (fun _ => False) w w' := by
  have H := Lib.hid hv
  clear hv
  go_enter Tryz.func107, Tryz.ntmps107
  go_wp2_with fail
  refine (fault_Wrap _ _ v E _ H.out).mono ?_
  rintro e w1 ⟨v', rfl, h1, h2⟩
  go_wp2_with fail
  go_ret
  exact ⟨v', rfl, h1, h2⟩

theorem journal_Read_ok {w : World} {bj bd at_ most : Nat} {D : DSt} {F : Nat → Prop} (hj : JBlk w bj bd at_ most) (h : DRep w bd D F) (i : Int) (h0 : 0 ≤ i) (hi : i < D.n) (hd : D.dead = false) :
    Calls Tryz.prog 130 #[.pointer (some ⟨bj, 0, none⟩), .int .i64 i] w fun e w' => e = .returned (.tuple #[.slice (some ⟨w.heap.size, 0, none⟩) 128 128, .nilIface]) ∧
      RowE w' w.heap.size (D.row i.toNat) ∧ Kp (fun _ => False) w w' := by
  have c0 := cell_blk hj 0
  simp at c0
  have H := Lib.hid (disk_Read_ok h i h0 hi hd)
  clear hj h hd
  go_enter Tryz.func130, Tryz.ntmps130
  go_wp2_with fail
  refine H.out.mono ?_
  rintro e w1 ⟨rfl, hr, hk⟩
  have Hr := Lib.hid hr
  have Hk := Lib.hid hk
  clear hr hk
  go_wp2_with fail
  refine (journal_told .nilIface none _ rfl).mono ?_
  rintro e w2 ⟨v', rfl, h1, h2⟩
  obtain rfl : v' = .nilIface := h1
  go_wp2_with fail
  go_ret2
  exact ⟨rfl, Hr.out.kp h2 (fun h => h), Hk.out.trans h2 (Gr.refl _ _)⟩
end Go.Proofs.YthjbpbahcemfgaaGreatDoor
