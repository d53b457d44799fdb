/- dir: errors; an inode's directory. -/
import Derived.Test.YthjbpbahcemfgaaGreatDoorName
import Derived.Test.YthjbpbahcemfgaaGreatDoorIU
namespace Go.Proofs.YthjbpbahcemfgaaGreatDoor
open Go.RowKit
set_option maxHeartbeats 1000000
set_option maxRecDepth 20000
variable {w wr : World} {bt bx bc bj bm bd : Nat} {R : Nat → Nat × List Int} {q : Nat} {F : Nat → Prop}

theorem dir_told (s : ByteArray) (v : Value) (E : EV) (w : World) (hv : ErrV w v E) :
    Calls Tryz.prog 39 #[.string s, v] w fun e w' => ∃ v', e = .returned v' ∧ ErrV w' v' (wrapE (tx [100, 105, 114]) s E) ∧ Kp (fun _ => False) w w' := by
  have H := Lib.hid hv
  clear hv
  go_enter Tryz.func39, Tryz.ntmps39
  go_wp2_with fail
  refine (fault_Wrap _ _ v E _ H.out).mono ?_
  rintro e w2 ⟨v', rfl, h1, h2⟩
  go_wp2_with fail
  go_ret
  exact ⟨v', rfl, h1, h2⟩
theorem dir_wrong (s : ByteArray) (n : Int) (w : World) (h : n ≠ 0) :
    Calls Tryz.prog 38 #[.string s, .int .i64 n] w fun e w' => ∃ v, e = .returned v ∧ IsErr w' v [(tx [100, 105, 114], s)] n ∧ Kp (fun _ => False) w w' := by
  go_enter Tryz.func38, Tryz.ntmps38
  go_wp2_with fail
  refine (fault_New _ _ _ _ h).mono ?_
  rintro e w2 ⟨v, rfl, hv, hk2⟩
  go_wp2_with fail
  go_ret
  exact ⟨v, rfl, hv, hk2⟩
/-- A directory in memory. -/
def DBlk (w : World) (bD bt ino : Nat) : Prop := w.heap[bD]? = some (.cells #[.pointer (some ⟨bt, 0, none⟩), .int .i64 ino] 84 (0, 0))
theorem dir_Of_ok (h : IU w bt bx bc bj bm bd R q F wr) {ino : Nat} (h1 : 1 ≤ ino) (h2 : ino ≤ 6) (hk : (R ino).1 = 2) :
    Calls Tryz.prog 30 #[.pointer (some ⟨bt, 0, none⟩), .int .i64 ino] wr fun e w' => ∃ bD, e = .returned (.tuple #[.pointer (some ⟨bD, 0, none⟩), .nilIface]) ∧ DBlk w' bD bt ino ∧ Kp (fun _ => False) wr w' ∧ wr.heap.size ≤ bD := by
  have HK := Lib.hid (fun (W : World) (k : Kp (fun _ => False) wr W) => iu_kind (h.kp0 k) h1 h2)
  rw [hk] at HK
  have Hg := Lib.hid h.gl
  clear h
  go_enter Tryz.func30, Tryz.ntmps30
  go_wp2_with fail
  refine (itoa_any (ino : Int) (by omega) (by omega) _ Hg.out).mono ?_
  rintro e w1 ⟨rfl, hk1⟩
  have Hk1 := Lib.hid hk1
  clear hk1
  go_wp2_with fail
  refine (HK.out w1 Hk1.out).mono ?_
  rintro e w2 ⟨rfl, hk2⟩
  have Hk2 := Lib.hid (Hk1.out.trans hk2 (Gr.refl _ _))
  clear hk2
  go_wp2_with fail
  go_ret2
  exact ⟨_, rfl, new_blk w2 _, Hk2.out.alloc _, Hk2.out.size⟩
theorem dir_Of_nil (hg : Gl w) (no : Int) (h0 : -9223372036854775808 ≤ no) (h1 : no ≤ 9223372036854775807) :
    Calls Tryz.prog 30 #[.pointer none, .int .i64 no] w fun e w' => ∃ v, e = .returned (.tuple #[.pointer none, v]) ∧ IsErr w' v [(tx [100, 105, 114], tx (Lib.itoa no))] 1 ∧ Kp (fun _ => False) w w' := by
  have Hg := Lib.hid hg
  clear hg
  go_enter Tryz.func30, Tryz.ntmps30
  go_wp2_with fail
  refine (itoa_any no h0 h1 _ Hg.out).mono ?_
  rintro e w1 ⟨rfl, hk1⟩
  have Hk1 := Lib.hid hk1
  clear hk1
  go_wp2_with fail
  refine (dir_wrong _ 1 _ (by decide)).mono ?_
  rintro e w2 ⟨v, rfl, hv, hk2⟩
  have Hv := Lib.hid hv
  have Hk2 := Lib.hid (Hk1.out.trans hk2 (Gr.refl _ _))
  clear hv hk2
  go_wp2_with fail
  go_ret2
  exact ⟨v, rfl, Hv.out, Hk2.out⟩
/-- No directory: error 14. -/
theorem dir_Of_not (h : IU w bt bx bc bj bm bd R q F wr) {ino : Nat} (h1 : 1 ≤ ino) (h2 : ino ≤ 6) (hk : (R ino).1 ≠ 2) :
    Calls Tryz.prog 30 #[.pointer (some ⟨bt, 0, none⟩), .int .i64 ino] wr fun e w' => ∃ v, e = .returned (.tuple #[.pointer none, v]) ∧ IsErr w' v [(tx [100, 105, 114], tx (Lib.itoa ino))] 14 ∧ Kp (fun _ => False) wr w' := by
  have HK := Lib.hid (fun (W : World) (k : Kp (fun _ => False) wr W) => iu_kind (h.kp0 k) h1 h2)
  have Hg := Lib.hid h.gl
  have hk2 : ¬ ((R ino).1 : Int) = 2 := by omega
  have hkb : (((R ino).1 : Int) == 2) = false := by simpa using hk2
  clear h
  generalize (R ino).1 = kd at *
  go_enter Tryz.func30, Tryz.ntmps30
  go_wp2_with fail
  refine (itoa_any (ino : Int) (by omega) (by omega) _ Hg.out).mono ?_
  rintro e w1 ⟨rfl, hk1⟩
  have Hk1 := Lib.hid hk1
  clear hk1
  go_wp2_with fail
  refine (HK.out w1 Hk1.out).mono ?_
  rintro e w2 ⟨rfl, hk2⟩
  have Hk2 := Lib.hid (Hk1.out.trans hk2 (Gr.refl _ _))
  clear hk2
  go_wp2_with fail
  refine (dir_wrong _ 14 _ (by decide)).mono ?_
  rintro e w3 ⟨v, rfl, hv, hk3⟩
  have Hv := Lib.hid hv
  have Hk3 := Lib.hid (Hk2.out.trans hk3 (Gr.refl _ _))
  clear hv hk3
  go_wp2_with fail
  go_ret2
  exact ⟨v, rfl, Hv.out, Hk3.out⟩
/-- No inode: error 1. -/
theorem dir_Of_arg (h : IU w bt bx bc bj bm bd R q F wr) {ino : Int} (hno : ino < 1 ∨ (6 : Int) < ino) (h0 : -9223372036854775808 ≤ ino) (h9 : ino ≤ 9223372036854775807) :
    Calls Tryz.prog 30 #[.pointer (some ⟨bt, 0, none⟩), .int .i64 ino] wr fun e w' => ∃ v l, e = .returned (.tuple #[.pointer none, v]) ∧ IsErr w' v ((tx [100, 105, 114], tx (Lib.itoa ino)) :: l) 1 ∧ Kp (fun _ => False) wr w' := by
  have HK := Lib.hid (fun (W : World) (k : Kp (fun _ => False) wr W) => iu_kindNo (h.kp0 k) hno h0 h9)
  have Hg := Lib.hid h.gl
  clear h hno
  go_enter Tryz.func30, Tryz.ntmps30
  go_wp2_with fail
  refine (itoa_any ino h0 h9 _ Hg.out).mono ?_
  rintro e w1 ⟨rfl, hk1⟩
  have Hk1 := Lib.hid hk1
  clear hk1
  go_wp2_with fail
  refine (HK.out w1 Hk1.out).mono ?_
  rintro e w2 ⟨v, rfl, hv, hk2⟩
  obtain ⟨t, y, rfl⟩ := hv.iface
  have Hv := Lib.hid hv
  have Hk2 := Lib.hid (Hk1.out.trans hk2 (Gr.refl _ _))
  clear hk2 hv
  go_wp2_with fail
  refine (dir_told _ _ (some ([(tx [105, 110, 111, 100, 101], tx (Lib.itoa ino))], 1)) _ Hv.out).mono ?_
  rintro e w3 ⟨v, rfl, hv, hk3⟩
  have Hv3 := Lib.hid hv
  have Hk3 := Lib.hid (Hk2.out.trans hk3 (Gr.refl _ _))
  clear hv hk3
  go_wp2_with fail
  go_ret2
  exact ⟨v, _, rfl, Hv3.out, Hk3.out⟩
end Go.Proofs.YthjbpbahcemfgaaGreatDoor
