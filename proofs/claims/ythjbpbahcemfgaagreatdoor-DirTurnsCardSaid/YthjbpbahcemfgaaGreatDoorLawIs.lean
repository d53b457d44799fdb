/- errors.Is at a number, and the statements' own Num and Is. -/
/- The statements' own Is, at an error that is what is asked for. -/
import Derived.Test.YthjbpbahcemfgaaGreatDoorAsW
import Derived.Lib.IfaceEq
namespace Go.Proofs.YthjbpbahcemfgaaGreatDoor
open Go.RowKit Go.Extern.Stop Go.Stop Go.Extern
set_option maxHeartbeats 4000000
set_option maxRecDepth 20000

theorem is_typeOf (v : Value) (w : World) : (ReflectliteType.typeOf #[.iface 81 v]).run Tryz.prog w = .ok (.iface 203 (.agg #[.pointer (some ⟨5, 81, none⟩)])) w := by kernel_rfl
theorem is_comparable (w : World) : ((ReflectliteType.method fun t => do Rtype.noPackHeld "Comparable" t; (fun a => Value.bool a.comparable) <$> typeInfo t) #[.agg #[.pointer (some ⟨5, 81, none⟩)]]).run Tryz.prog w = .ok (.bool true) w := by kernel_rfl
theorem is_mComparable (v : Value) (w : World) : (Go.method 397 203 v "Comparable").run Tryz.prog w = .ok (220, v) w := by kernel_rfl
theorem is_eqE (w : World) (a b : Int) : (binOp .eql 28 (.iface 81 (.int .i64 a)) (.iface 81 (.int .i64 b))).run Tryz.prog w = .ok (.bool (a == b)) w :=
  Lib.run_eql_iface_int w a b Tryz.underlying28 (by kernel_rfl) Tryz.underlying81
theorem is_eqF (w : World) (a b : Value) : (binOp .eql 28 (.iface 106 a) (.iface 81 b)).run Tryz.prog w = .ok (.bool false) w :=
  run_eql_iface_types _ _ a b Tryz.underlying28 (by decide) w

theorem is_E {w : World} {v : Value} {l : List (ByteArray × ByteArray)} {n : Int} (hv : IsErr w v l n) :
    Calls Tryz.prog 90 #[v, .iface 81 (.int .i64 n), .bool true] w fun e w' => e = .returned (.bool true) ∧ w = w' := by
  have eE := is_eqE
  have eF := is_eqF
  have tis := ta_IsF
  have tun := ta_UnF
  have mU := as_mUnwrap
  have Hv := Lib.hid hv
  clear hv
  go_enter Tryz.func90, Tryz.ntmps90
  go_wp2
  go_loop [0] (fun e => ∃ k, IsErr w e k n) (fun e => depth w e)
  case atStart => exact ⟨l, Hv.out⟩
  case round =>
    obtain ⟨k, hk⟩ := hrel
    cases k with
    | nil =>
      obtain rfl : u0 = _ := hk
      go_wp2
      go_ret
      exact ⟨rfl, rfl⟩
    | cons p k =>
      obtain ⟨o, m⟩ := p
      have hd : depth w u0 = k.length + 1 := depth_of hk
      obtain ⟨b, x, rfl, hb, hx⟩ := hk
      have hd2 := depth_of hx
      have Hx := Lib.hid hx
      have Hb := Lib.hid hb
      clear hx hb
      go_wp2_with fail
      refine (fault_Unwrap Hb.out).mono ?_
      rintro e w1 ⟨rfl, rfl⟩
      obtain ⟨tt, y, rfl⟩ := Hx.out.iface
      go_wp2_with fail
      go_round
      case rel => exact ⟨k, Hx.out⟩
      case measure => omega

theorem Is_E {w : World} {v : Value} {l : List (ByteArray × ByteArray)} {n : Int} (hv : IsErr w v l n) :
    Calls Tryz.prog 50 #[v, .iface 81 (.int .i64 n)] w fun e w' => e = .returned (.bool true) ∧ w = w' := by
  have h45 := @run_callFunc_extern Tryz.prog 89 _ ReflectliteType.typeOf Tryz.func89 (by kernel_rfl) (by kernel_rfl) (by kernel_rfl) (by kernel_rfl)
  have hcm := @run_callFunc_extern Tryz.prog 220 _ (ReflectliteType.method fun t => do Rtype.noPackHeld "Comparable" t; pure (.bool (← typeInfo t).comparable)) Tryz.func220 (by kernel_rfl) (by kernel_rfl) (by kernel_rfl) (by kernel_rfl)
  have tT := is_typeOf
  have cT := is_comparable
  have mR := is_mComparable
  obtain ⟨tt, y, rfl⟩ := hv.iface
  have H := Lib.hid (is_E hv)
  clear hv
  go_enter Tryz.func50, Tryz.ntmps50
  go_wp2_with (go_at_call 90; refine H.out.mono ?_; rintro e w1 ⟨rfl, rfl⟩)
  go_ret
  exact ⟨rfl, rfl⟩

theorem law_Num {w : World} {v : Value} {l : List (ByteArray × ByteArray)} {n : Int} (hv : IsErr w v l n) (hg : Ge w) :
    Calls Tryz.prog 31 #[v] w fun e w' => e = .returned (.int .i64 n) ∧ Kp (fun _ => False) w w' := by
  obtain ⟨tt, y, rfl⟩ := hv.iface
  have HA := fun (o : Obj) (old : Value) (a : Addr) (h1 : (w.alloc o).cell? a = some old) (h2 : (w.alloc o).frozen? a = false) => As_E (hv.kp ((Kp.refl (fun _ => False) w).alloc o) (FCl.none w)) (show Ge (w.alloc o) from ((Kp.refl (fun _ => False) w).alloc o).cell hg (fun h => h)) h1 h2
  have HA := Lib.hid HA
  clear hv hg
  go_enter Tryz.func31, Tryz.ntmps31
  go_wp2_with (go_at_call 49; refine (HA.out _ _ _ (cell_blk (new_blk w _) 0) (frozen_blk (new_blk w _) 0)).mono ?_; rintro e w1 ⟨rfl, hc, hk⟩)
  go_ret
  exact ⟨rfl, ((Kp.refl _ w).alloc _).trans hk (fun k h => .inr (Nat.le_of_eq (show w.heap.size = k from Eq.symm h)))⟩
theorem law_Num_nil (w : World) :
    Calls Tryz.prog 31 #[.nilIface] w fun e w' => e = .returned (.int .i64 0) ∧ w = w' := by
  go_enter Tryz.func31, Tryz.ntmps31
  go_wp2
  go_ret
  exact ⟨rfl, rfl⟩
end Go.Proofs.YthjbpbahcemfgaaGreatDoor
namespace Go.Proofs.YthjbpbahcemfgaaGreatDoor
open Go.RowKit
set_option maxHeartbeats 4000000
set_option maxRecDepth 20000

theorem law_Is_nil (w : World) (o m : ByteArray) (n : Int) :
    Calls Tryz.prog 20 #[.nilIface, .string o, .string m, .int .i64 n] w fun e w' => e = .returned (.bool (n == 0)) ∧ w = w' := by
  go_enter Tryz.func20, Tryz.ntmps20
  go_wp2
  go_ret
  exact ⟨rfl, rfl⟩

theorem law_Is {w : World} {v : Value} {o m : ByteArray} {l : List (ByteArray × ByteArray)} {n : Int} (hv : IsErr w v ((o, m) :: l) n) (hn : n ≠ 0) (hg : Ge w) :
    Calls Tryz.prog 20 #[v, .string o, .string m, .int .i64 n] w fun e w' => e = .returned (.bool true) ∧ Kp (fun _ => False) w w' := by
  have hv0 := hv
  obtain ⟨b, x, rfl, hb, hx⟩ := hv
  have h' : (n == 0) = false := by simpa using hn
  have HA := fun (W : World) (hk : Kp (fun _ => False) w W) (old : Value) (a : Addr) (h1 : W.cell? a = some old) (h2 : W.frozen? a = false) => As_F (hv0.kp hk (FCl.none w)) (show Ge W from hk.cell hg (fun h => h)) h1 h2
  have HI := fun (W : World) (hk : Kp (fun _ => False) w W) => Is_E (hv0.kp hk (FCl.none w))
  have hbl := lt_blk hb
  have HA := Lib.hid HA
  have HI := Lib.hid HI
  have Hb := Lib.hid hb
  clear hv0 hg hb hx
  go_enter Tryz.func20, Tryz.ntmps20
  go_wp2_with (first | (go_at_call 49; refine (HA.out _ (by repeat (first | exact Kp.refl _ _ | refine Kp.alloc ?_ _ | refine Kp.drew ?_ | refine Kp.drewN ?_ _)) _ _ (cell_blk (new_blk w _) 0) (frozen_blk (new_blk w _) 0)).mono ?_; rintro e w1 ⟨rfl, ⟨b', x', hbe, hb', hc⟩, hk⟩; cases hbe; have q := hk.blk hb' (fun h => absurd hbl (Nat.not_lt.mpr (Nat.le_of_eq (Eq.symm h)))); have c0 := cell_blk q 0; have c1 := cell_blk q 1; simp at c0 c1; clear hb' q; have hk0 : Kp (fun _ => False) w w1 := ((Kp.refl _ w).alloc _).trans hk (fun k h => .inr (Nat.le_of_eq (show w.heap.size = k from Eq.symm h))); clear hk) | (go_at_call 50; refine (HI.out _ hk0).mono ?_; rintro e w2 ⟨rfl, rfl⟩))
  go_ret
  exact ⟨by simp, hk0⟩
end Go.Proofs.YthjbpbahcemfgaaGreatDoor
