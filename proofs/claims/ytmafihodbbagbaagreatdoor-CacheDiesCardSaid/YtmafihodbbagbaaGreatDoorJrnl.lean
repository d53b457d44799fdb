/- The journal: its small functions. -/
import Derived.Test.YtmafihodbbagbaaGreatDoorDiskN
namespace Go.Proofs.YtmafihodbbagbaaGreatDoor
open Go.RowKit
set_option maxHeartbeats 1000000
set_option maxRecDepth 20000

/-- A journal in memory. -/
def JBlk (w : World) (bj bd : Nat) (at_ most : Nat) : Prop :=
  w.heap[bj]? = some (.cells #[.pointer (some ⟨bd, 0, none⟩), .int .i64 at_, .int .i64 most] 91 (0, 0))
/-- How many blocks a journal has. -/
def need (m : Nat) : Nat := m + m / 16 + min (m % 16) 1 + 2

theorem journal_Need {w : World} (m : Nat) (h1 : 1 ≤ m) (h2 : m ≤ 2048) :
    Calls Tryz.prog 40 #[.int .i64 m] w fun e w' => e = .returned (.int .i64 (need m)) ∧ w = w' := by
  have e : (need m : Int) = (m : Int) + (m : Int) / 16 + min ((m : Int) % 16) 1 + 2 := by unfold need; omega
  have E := Lib.hid e
  clear e
  go_enter Tryz.func40, Tryz.ntmps40
  go_wp2
  go_ret
  refine ⟨ret_int ?_, rfl⟩
  rw [E.out]
  omega

theorem journal_Most {w : World} {bj bd at_ most : Nat} (h : JBlk w bj bd at_ most) :
    Calls Tryz.prog 29 #[.pointer (some ⟨bj, 0, none⟩)] w fun e w' => e = .returned (.int .i64 most) ∧ w = w' := by
  have c2 := cell_blk h 2
  simp at c2
  clear h
  go_enter Tryz.func29, Tryz.ntmps29
  go_wp2
  go_ret
  exact ⟨rfl, rfl⟩

theorem journal_told (v : Value) (E : EV) (w : World) (hv : ErrV w v E) :
    Calls Tryz.prog 43 #[v] w fun e w' => ∃ v', e = .returned v' ∧ ErrV w' v' (wrapE (tx [106, 111, 117, 114, 110, 97, 108]) (tx []) E) ∧ Kp (fun _ => False) w w' := by
  have H := Lib.hid hv
  clear hv
  go_enter Tryz.func43, Tryz.ntmps43
  go_wp2_with fail
  refine (fault_Wrap _ _ v E _ H.out).mono ?_
  rintro e w1 ⟨v', rfl, h1, h2⟩
  go_wp2_with fail
  go_ret
  exact ⟨v', rfl, h1, h2⟩

theorem journal_Read_ok {w : World} {bj bd at_ most : Nat} {D : DSt} {F : Nat → Prop} (hj : JBlk w bj bd at_ most) (h : DRep w bd D F) (i : Int) (h0 : 0 ≤ i) (hi : i < D.n) (hd : D.dead = false) :
    Calls Tryz.prog 20 #[.pointer (some ⟨bj, 0, none⟩), .int .i64 i] w fun e w' => e = .returned (.tuple #[.slice (some ⟨w.heap.size, 0, none⟩) 128 128, .nilIface]) ∧
      RowE w' w.heap.size (D.row i.toNat) ∧ Kp (fun _ => False) w w' := by
  have c0 := cell_blk hj 0
  simp at c0
  have H := Lib.hid (disk_Read_ok h i h0 hi hd)
  clear hj h hd
  go_enter Tryz.func20, Tryz.ntmps20
  go_wp2_with fail
  refine H.out.mono ?_
  rintro e w1 ⟨rfl, hr, hk⟩
  have Hr := Lib.hid hr
  have Hk := Lib.hid hk
  clear hr hk
  go_wp2_with fail
  refine (journal_told .nilIface none _ rfl).mono ?_
  rintro e w2 ⟨v', rfl, h1, h2⟩
  obtain rfl : v' = .nilIface := h1
  go_wp2_with fail
  go_ret2
  exact ⟨rfl, Hr.out.kp h2 (fun h => h), Hk.out.trans h2 (Gr.refl _ _)⟩
end Go.Proofs.YtmafihodbbagbaaGreatDoor
