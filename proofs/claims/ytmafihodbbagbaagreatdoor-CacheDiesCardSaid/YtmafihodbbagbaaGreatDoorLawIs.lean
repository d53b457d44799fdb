/- The statements' own Is, at an error that is what is asked for. -/
import Derived.Test.YtmafihodbbagbaaGreatDoorIs
namespace Go.Proofs.YtmafihodbbagbaaGreatDoor
open Go.RowKit
set_option maxHeartbeats 4000000
set_option maxRecDepth 20000

theorem law_Is_nil (w : World) (o m : ByteArray) (n : Int) :
    Calls Tryz.prog 9 #[.nilIface, .string o, .string m, .int .i64 n] w fun e w' => e = .returned (.bool (n == 0)) ∧ w = w' := by
  go_enter Tryz.func9, Tryz.ntmps9
  go_wp2
  go_ret
  exact ⟨rfl, rfl⟩

theorem law_Is {w : World} {v : Value} {o m : ByteArray} {l : List (ByteArray × ByteArray)} {n : Int} (hv : IsErr w v ((o, m) :: l) n) (hn : n ≠ 0) (hg : Ge w) :
    Calls Tryz.prog 9 #[v, .string o, .string m, .int .i64 n] w fun e w' => e = .returned (.bool true) ∧ Kp (fun _ => False) w w' := by
  have hv0 := hv
  obtain ⟨b, x, rfl, hb, hx⟩ := hv
  have h' : (n == 0) = false := by simpa using hn
  have HA := fun (W : World) (hk : Kp (fun _ => False) w W) (old : Value) (a : Addr) (h1 : W.cell? a = some old) (h2 : W.frozen? a = false) => As_F (hv0.kp hk (FCl.none w)) (show Ge W from hk.cell hg (fun h => h)) h1 h2
  have HI := fun (W : World) (hk : Kp (fun _ => False) w W) => Is_E (hv0.kp hk (FCl.none w))
  have hbl := lt_blk hb
  have HA := Lib.hid HA
  have HI := Lib.hid HI
  have Hb := Lib.hid hb
  clear hv0 hg hb hx
  go_enter Tryz.func9, Tryz.ntmps9
  go_wp2_with (first | (go_at_call 25; refine (HA.out _ (by repeat (first | exact Kp.refl _ _ | refine Kp.alloc ?_ _ | refine Kp.drew ?_ | refine Kp.drewN ?_ _)) _ _ (cell_blk (new_blk w _) 0) (frozen_blk (new_blk w _) 0)).mono ?_; rintro e w1 ⟨rfl, ⟨b', x', hbe, hb', hc⟩, hk⟩; cases hbe; have q := hk.blk hb' (fun h => absurd hbl (Nat.not_lt.mpr (Nat.le_of_eq (Eq.symm h)))); have c0 := cell_blk q 0; have c1 := cell_blk q 1; simp at c0 c1; clear hb' q; have hk0 : Kp (fun _ => False) w w1 := ((Kp.refl _ w).alloc _).trans hk (fun k h => .inr (Nat.le_of_eq (show w.heap.size = k from Eq.symm h))); clear hk) | (go_at_call 26; refine (HI.out _ hk0).mono ?_; rintro e w2 ⟨rfl, rfl⟩))
  go_ret
  exact ⟨by simp, hk0⟩
end Go.Proofs.YtmafihodbbagbaaGreatDoor
