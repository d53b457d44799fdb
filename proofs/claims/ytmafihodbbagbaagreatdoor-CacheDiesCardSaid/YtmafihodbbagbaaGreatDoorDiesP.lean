/- CacheDies: its plain laws: the first eight blocks that are asked for; their bytes. -/
import Derived.Test.YtmafihodbbagbaaGreatDoorDiesL
import Derived.Test.YtmafihodbbagbaaGreatDoorCPL
import Derived.Test.YtmafihodbbagbaaGreatDoorCR
namespace Go.Proofs.YtmafihodbbagbaaGreatDoor
open Go.RowKit
set_option maxHeartbeats 1000000
set_option maxRecDepth 20000

/-- Whether a number has this bit. -/
def bt (a : Int) (k : Nat) : Bool := bits BinOp.and IntKind.i64 (a / 2 ^ k) 1 == 1
/-- The first eight of its bits below k. -/
def bsUp (a : Int) (k : Nat) : List Nat := ((List.range k).filter (bt a)).take 8
theorem bsUp_zero (a : Int) : bsUp a 0 = [] := rfl
theorem bsUp_le (a : Int) (k : Nat) : (bsUp a k).length ≤ 8 := by rw [bsUp, List.length_take]; omega
theorem bsUp_lt {a : Int} {k x : Nat} (h : x ∈ bsUp a k) : x < k := by
  have := List.mem_of_mem_take h
  simp at this
  exact this.1
theorem bsUp_bt {a : Int} {k x : Nat} (h : x ∈ bsUp a k) : bt a x = true := by
  have := List.mem_of_mem_take h
  simp at this
  exact this.2
theorem bsUp_no {a : Int} {k : Nat} (h : bt a k = false) : bsUp a (k + 1) = bsUp a k := by
  rw [bsUp, List.range_succ, List.filter_append]
  simp [h, bsUp]
theorem bsUp_yes {a : Int} {k : Nat} (h : bt a k = true) (hl : (bsUp a k).length < 8) : bsUp a (k + 1) = bsUp a k ++ [k] := by
  have hl' : ((List.range k).filter (bt a)).length < 8 := by rw [bsUp, List.length_take] at hl; omega
  rw [bsUp, List.range_succ, List.filter_append, bsUp, List.take_of_length_le (by omega : ((List.range k).filter (bt a)).length ≤ 8), List.take_of_length_le]
  · simp [h]
  · simp [h]; omega
theorem bsUp_full {a : Int} {k : Nat} (hl : 8 ≤ (bsUp a k).length) : bsUp a (k + 1) = bsUp a k := by
  have hl' : 8 ≤ ((List.range k).filter (bt a)).length := by rw [bsUp, List.length_take] at hl; omega
  rw [bsUp, List.range_succ, List.filter_append, List.take_append_of_le_length hl']
  rfl
theorem bsUp_end {a : Int} {k : Nat} (hl : 8 ≤ (bsUp a k).length) : ∀ j, bsUp a (k + j) = bsUp a k
  | 0 => rfl
  | j + 1 => by
    have ih := bsUp_end hl j
    rw [← Nat.add_assoc, bsUp_full (by rw [ih]; exact hl), ih]
theorem bsUp_mono {a : Int} {k : Nat} : ∀ j, ∀ x ∈ bsUp a k, x ∈ bsUp a (k + j)
  | 0, x, h => h
  | j + 1, x, h => by
    have ih := bsUp_mono j x h
    rw [← Nat.add_assoc]
    by_cases hl : (bsUp a (k + j)).length < 8
    · by_cases hb : bt a (k + j) = true
      · rw [bsUp_yes hb hl]; exact List.mem_append_left _ ih
      · rw [bsUp_no (by simpa using hb)]; exact ih
    · rw [bsUp_full (by omega)]; exact ih
theorem bt_one (a : Int) (k : Nat) : ∃ q : Nat, bits BinOp.and IntKind.i64 (a / 2 ^ k) 1 = (q : Int) ∧ q ≤ 1 := by
  obtain ⟨q, h1, h2⟩ := and_nat (a / 2 ^ k) 1 (by decide)
  exact ⟨q, by simpa using h1, h2⟩
/-- What the first Flush lays, and what the second one is to lay. -/
def R0 : List Int := splice (zs 128) 0 ((fillRow 7).take 5)
def R1 (x y : Int) : List Int := splice R0 3 [x, y]
theorem fill7 (i : Nat) (h : i < 128) : (fillRow 7)[i]? = some 7 := by
  rw [fillRow, part_get _ _ _ h]
  simp [fillAt, h]
theorem fill7_3 : (fillRow 7).take 3 = [7, 7, 7] := by decide +kernel
theorem add0' (g j : Nat) : (⟨g, 0, none⟩ : Addr).add j = ⟨g, j, none⟩ := by unfold Addr.add; split <;> simp_all
theorem R0_len : R0.length = 128 := by decide +kernel
theorem R0_3 : R0[3]? = some 7 ∧ R0[4]? = some 7 ∧ R0.take 3 = [7, 7, 7] := by decide +kernel
theorem R1_len (x y : Int) : (R1 x y).length = 128 := by
  rw [R1, length_splice _ _ _ (by rw [R0_len]; simp), R0_len]
theorem R1_3 (x y : Int) : (R1 x y)[3]? = some x ∧ (R1 x y)[4]? = some y ∧ (R1 x y).take 3 = [7, 7, 7] := by
  have e : R1 x y = [7, 7, 7] ++ ([x, y] ++ R0.drop 5) := by
    have : R0.take 3 = [7, 7, 7] := R0_3.2.2
    rw [R1, splice, this]; rfl
  rw [e]
  exact ⟨rfl, rfl, rfl⟩
theorem fuse_kd {w : World} {bd : Nat} {cs : Array Value} {T : TypeId} {fr : Nat × Nat} (hb : w.heap[bd]? = some (.cells cs T fr)) (u2 u3 : Value) : KpD bd w ((w.setCell ⟨bd, 2, none⟩ u2).setCell ⟨bd, 3, none⟩ u3) := fun bl ⟨m, hm⟩ => by
  have hk : Kp (fun k => k = bd) w ((w.setCell ⟨bd, 2, none⟩ u2).setCell ⟨bd, 3, none⟩ u3) := Kp.setCell (F := fun k => k = bd) (p := ⟨bd, 3, none⟩) (Kp.setCell (F := fun k => k = bd) (p := ⟨bd, 2, none⟩) (Kp.refl _ _) (.inl rfl) _) (.inl rfl) _
  refine ⟨hk.mono (fun _ e => .inl e), m, ?_⟩
  rw [cell_blk hb] at hm
  rw [cell_blk (set_blk (set_blk hb 2 u2) 3 u3), Array.getElem?_setIfInBounds_ne (by decide), Array.getElem?_setIfInBounds_ne (by decide)]
  exact hm
/-- A Fuse turns the disk's own block alone. -/
theorem disk_FuseD {w : World} {bd : Nat} {D : DSt} {F : Nat → Prop} (h : DRep w bd D F) (n : Int) (h0 : 0 ≤ n) :
    Calls Tryz.prog 17 #[.pointer (some ⟨bd, 0, none⟩), .int .i64 n] w fun e w' => e = .returned (.tuple #[]) ∧ DRep w' bd (D.fused n) F ∧ Kp F w w' ∧ KpD bd w w' := by
  have hx := h.ex
  obtain ⟨bl, rows, h1, _⟩ := hx
  have c2 := cell_blk h1 2
  have c3 := cell_blk h1 3
  have f2 := frozen_blk h1 2
  have f3 := frozen_blk h1 3
  simp at c2 c3
  have hmax : max n (-1) = n := by omega
  have H := Lib.hid h
  have H1 := Lib.hid h1
  clear h h1
  go_enter Tryz.func17, Tryz.ntmps17
  go_wp2
  all_goals (
    go_end0
    refine ⟨rfl, and_assoc.1 ⟨H.out.head (Kp.setCell (F := fun k => k = bd) (p := ⟨bd, 3, none⟩) (Kp.setCell (F := fun k => k = bd) (p := ⟨bd, 2, none⟩) (Kp.refl _ _) (.inl rfl) _) (.inl rfl) _) (D.fused n) rfl rfl (fun bl' hbl' => ?_), fuse_kd H1.out _ _⟩⟩
    rw [cell_blk H1.out] at hbl'
    simp at hbl'
    subst hbl'
    rw [set_blk (set_blk H1.out 2 _) 3 _]
    simp [DSt.fused, *])
theorem runs_err : ∀ (l : List (Nat × List Int)) (D : DSt), (D.runs l).1 = none ∨ ∃ o p, (D.runs l).1 = some ([(o, p)], 50)
  | [], _ => .inl rfl
  | x :: l, D => by
    rw [DSt.runs]
    split
    · exact .inr ⟨_, _, rfl⟩
    · exact runs_err l _
/-- The journal is opened on a disk that died within a Flush and lives again. -/
theorem open_dies {w : World} {bd : Nat} {C : CSt} {F : Nat → Prop} (h : DRep w bd (C.D.runs (cwOf 20 C.group)).2.power F) (h20 : C.D.row 20 = zs 128) (hn : C.D.n = 60) (hjat : C.jat = 20) (hch : ∀ no ∈ C.ch, no < 12) (hnd : C.ch.Nodup) (hne : C.group ≠ []) (hlen : ∀ no ∈ C.ch, (C.cont no).length = 128) (hfew : C.group.length ≤ 8) :
    Calls Tryz.prog 19 #[.pointer (some ⟨bd, 0, none⟩), .int .i64 20, .int .i64 8] w fun e w' => ∃ bj D3 F', e = .returned (.tuple #[.pointer (some ⟨bj, 0, none⟩), .nilIface]) ∧ JBlk w' bj bd 20 8 ∧
      DRep w' bd D3 F' ∧ D3.n = 60 ∧ D3.dead = false ∧ (((C.D.runs (cwOf 20 C.group)).1 ≠ none ∧ ∀ k, k < 12 → D3.row k = C.D.row k) ∨ ∀ k, k < 12 → D3.row k = C.view k) ∧ Kp F w w' := by
  obtain ⟨D2, rfl, e1, e2, e3, hcase⟩ := dies_law (C := C) (D0 := C.D) (fun _ => rfl) h20 hjat hch hnd hne
  have hneed : 20 + need 8 ≤ 60 := by decide
  rcases hcase with ⟨hb, hold⟩ | ⟨hb, hbody, hnew⟩
  · refine (journal_Open_blank (at_ := 20) (most := 8) h (by omega) (by omega) (by rw [e1, hn]; exact hneed) e2 (by rw [hb]; exact blank_zs)).mono ?_
    rintro e w' ⟨bj, rfl, hj, hk, _⟩
    exact ⟨bj, _, F, rfl, hj, h.kp0 hk, e1.trans hn, e2, hold, hk.mono (fun _ h => h.elim)⟩
  · have hin : ∀ x ∈ C.group, x.1 < (C.D.runs (cwOf 20 C.group)).2.power.n ∧ x.1 < 20 ∧ x.2.length = 128 := fun x hx => by
      obtain ⟨no, hno, rfl⟩ := List.mem_map.1 hx
      have hc := CSt.chs_mem.1 hno
      have := hch no hc
      rw [e1, hn]
      exact ⟨by show no < 60; omega, by show no < 20; omega, hlen no hc⟩
    have hgnd : (C.group.map (·.1)).Nodup := by
      rw [show C.group.map (·.1) = C.chs by rw [CSt.group, List.map_map]; exact List.map_id _]
      exact C.chs_perm.nodup_iff.2 hnd
    refine (journal_Open_real (at_ := 20) (most := 8) h (by omega) (by omega) (by rw [e1, hn]; exact hneed) e2 e3 C.group hne hfew hin hgnd hb hbody).mono ?_
    rintro e w' ⟨bj, F', rfl, hj, hr, hk, hg, _⟩
    have hal := DSt.runs_alive (C.group ++ [(20, zs 128)]) e2 (by rw [e3]; decide)
    exact ⟨bj, _, F', rfl, hj, hr, (DSt.runs_n _ _).trans (e1.trans hn), hal.2.1, .inr hnew, hk⟩
theorem runs_row20 {C : CSt} (h : C.D.dead = false) (hf : C.D.fuse ≤ 0) (h20 : C.D.row 20 = zs 128) (hjat : C.jat = 20) : C.commit.2.row 20 = zs 128 := by
  unfold CSt.commit
  split
  · exact h20
  · have e := (DSt.runs_alive (cwOf C.jat C.group) h hf).2.2.2
    rw [e, cwOf, List.foldl_append, List.foldl_cons, List.foldl_append, hjat]
    simp [DSt.wr]
theorem conv_fill3 {w : World} {g : Nat} {s : ByteArray} (h : RowE w g (fillRow 7)) (hs : s = str [7, 7, 7]) : (convert 29 9 (.slice (some ⟨g, 0, none⟩) 3 128)).run Tryz.prog w = .ok (.string s) w := by
  have := conv_str ((fill_sl h).take (m := 3) (by rw [fillRow, part_len]; omega))
  rw [fill7_3, ← hs] at this
  exact this
theorem fill7_c {w : World} {g : Nat} (h : RowE w g (fillRow 7)) (i : Nat) (hi : i < 128) : w.cell? ⟨g, i, none⟩ = some (.int .u8 7) := by
  have := h.row.cells i (.int .u8 7) (by rw [bs, List.getElem?_map, fill7 i hi]; rfl)
  rw [add0'] at this
  exact this
end Go.Proofs.YtmafihodbbagbaaGreatDoor
