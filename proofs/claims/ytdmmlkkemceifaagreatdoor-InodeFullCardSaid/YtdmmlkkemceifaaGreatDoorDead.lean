/- The disk when it is dead. -/
import Derived.Test.YtdmmlkkemceifaaGreatDoorJrnl
namespace Go.Proofs.YtdmmlkkemceifaaGreatDoor
open Go.RowKit
set_option maxHeartbeats 1000000
set_option maxRecDepth 20000

theorem disk_may_dead {w : World} {bd : Nat} {D : DSt} {F : Nat → Prop} (h : DRep w bd D F) (i : Int) (h0 : 0 ≤ i) (hi : i < D.n) (hd : D.dead = true) :
    Calls Tryz.prog 106 #[.pointer (some ⟨bd, 0, none⟩), .int .i64 i, .bool true] w fun e w' => ∃ v, e = .returned v ∧ IsErr w' v [(tx [100, 105, 115, 107], tx (Lib.itoa i))] 50 ∧ Kp (fun _ => False) w w' := by
  obtain ⟨⟨bl, rows, h1, h2, h3, h4, h5⟩, ho, hl, hf, hg, hh, hc⟩ := h
  have c0 := cell_blk h1 0
  have c3 := cell_blk h1 3
  simp [hd] at c0 c3
  have HG := Lib.hid hg
  clear h1 h2 h5 hl hg hh hc
  go_enter Tryz.func106, Tryz.ntmps106
  go_wp2_with fail
  refine (disk_wrong _ _ _ HG.out (by omega) (by omega) (by decide)).mono ?_
  rintro e w1 ⟨v5, rfl, hv5, hk5⟩
  replace hv5 := Lib.hid hv5
  replace hk5 := Lib.hid hk5
  go_wp2_with fail
  go_ret
  exact ⟨v5, rfl, hv5.out, hk5.out⟩

theorem disk_Read_dead {w : World} {bd : Nat} {D : DSt} {F : Nat → Prop} (h : DRep w bd D F) (i : Int) (h0 : 0 ≤ i) (hi : i < D.n) (hd : D.dead = true) :
    Calls Tryz.prog 115 #[.pointer (some ⟨bd, 0, none⟩), .int .i64 i] w fun e w' => ∃ v, e = .returned (.tuple #[.slice none 0 0, v]) ∧ IsErr w' v [(tx [100, 105, 115, 107], tx (Lib.itoa i))] 50 ∧ Kp (fun _ => False) w w' := by
  have HM := Lib.hid (disk_may_dead h i h0 hi hd)
  clear h
  go_enter Tryz.func115, Tryz.ntmps115
  go_wp2_with fail
  refine HM.out.mono ?_
  rintro e w1 ⟨v5, rfl, hv5, hk5⟩
  obtain ⟨t5, x5, rfl⟩ := hv5.iface
  replace hv5 := Lib.hid hv5
  replace hk5 := Lib.hid hk5
  go_wp2_with fail
  go_ret2
  exact ⟨_, rfl, hv5.out, hk5.out⟩

theorem disk_Write_dead {w : World} {bd : Nat} {D : DSt} {F : Nat → Prop} (h : DRep w bd D F) (i : Int) (h0 : 0 ≤ i) (hi : i < D.n) (hd : D.dead = true)
    (v : Value) (ys : List Int) (hv : Sl w v ys) (hy : ys.length = 128) :
    Calls Tryz.prog 69 #[.pointer (some ⟨bd, 0, none⟩), .int .i64 i, v] w fun e w' => ∃ v, e = .returned v ∧ IsErr w' v [(tx [100, 105, 115, 107], tx (Lib.itoa i))] 50 ∧ Kp (fun _ => False) w w' := by
  have HM := Lib.hid (disk_may_dead h i h0 hi hd)
  obtain ⟨A, c, hve, hv1, hv2, hv3⟩ := id hv
  rw [hy] at hve hv1
  subst hve
  clear h hv hv3
  go_enter Tryz.func69, Tryz.ntmps69
  go_wp2_with fail
  refine HM.out.mono ?_
  rintro e w1 ⟨v5, rfl, hv5, hk5⟩
  obtain ⟨t5, x5, rfl⟩ := hv5.iface
  replace hv5 := Lib.hid hv5
  replace hk5 := Lib.hid hk5
  go_wp2_with fail
  go_ret
  exact ⟨_, rfl, hv5.out, hk5.out⟩
/-- A fuse that an int holds. -/
def DSt.Fz (D : DSt) : Prop := D.fuse ≤ 9223372036854775807 ∧ -9223372036854775808 ≤ D.fuse
theorem DSt.Fz.wr {D : DSt} (h : D.Fz) (i : Nat) (ys : List Int) : (D.wr i ys).Fz := by
  obtain ⟨h1, h2⟩ := h
  unfold DSt.Fz DSt.wr
  simp only
  split <;> omega
/-- The disk behind a Write, dead or not. -/
def DSt.put (D : DSt) (i : Nat) (ys : List Int) : DSt := if D.dead then D else D.wr i ys
/-- What a Write answers. -/
def DSt.tells (D : DSt) (i : Nat) : EV := if D.dead then some ([(tx [100, 105, 115, 107], tx (Lib.itoa i))], 50) else none
theorem DSt.Fz.put {D : DSt} (h : D.Fz) (i : Nat) (ys : List Int) : (D.put i ys).Fz := by
  unfold DSt.put; split
  · exact h
  · exact h.wr i ys
theorem DSt.put_n (D : DSt) (i : Nat) (ys : List Int) : (D.put i ys).n = D.n := by unfold DSt.put; split <;> rfl
theorem disk_Write_any {w : World} {bd : Nat} {D : DSt} {F : Nat → Prop} (h : DRep w bd D F) (hz : D.Fz) (i : Nat) (hi : i < D.n)
    (v : Value) (ys : List Int) (hv : Sl w v ys) (hy : ys.length = 128) :
    Calls Tryz.prog 69 #[.pointer (some ⟨bd, 0, none⟩), .int .i64 (i : Nat), v] w fun e w' => ∃ u, e = .returned u ∧ ErrV w' u (D.tells i) ∧
      ∃ F', DRep w' bd (D.put i ys) F' ∧ Kp F w w' ∧ Gr F F' w.heap.size ∧ KpD bd w w' := by
  cases hd : D.dead with
  | true =>
    refine (disk_Write_dead h i (by omega) (by omega) hd v ys hv hy).mono ?_
    rintro e w' ⟨u, rfl, hu, hk⟩
    refine ⟨u, rfl, by simpa [DSt.tells, hd, ErrV] using hu, F, by simpa [DSt.put, hd] using h.kp0 hk, hk.mono (fun _ h => h.elim), Gr.refl _ _, KpD.of0 hk⟩
  | false =>
    refine (disk_Write_ok h i (by omega) (by omega) hd hz.1 hz.2 v ys hv hy).mono ?_
    rintro e w' ⟨rfl, F', hr, hk, hg, hkd⟩
    refine ⟨_, rfl, by simp [DSt.tells, hd, ErrV], F', by simpa [DSt.put, hd] using hr, hk, hg, hkd⟩
end Go.Proofs.YtdmmlkkemceifaaGreatDoor
