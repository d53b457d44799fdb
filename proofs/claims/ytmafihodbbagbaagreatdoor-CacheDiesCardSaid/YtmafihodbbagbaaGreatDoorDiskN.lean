/- A new disk; what a dead disk, or a block that is not there, is told by. -/
import Derived.Test.YtmafihodbbagbaaGreatDoorDisk
namespace Go.Proofs.YtmafihodbbagbaaGreatDoor
open Go.RowKit
set_option maxHeartbeats 1000000
set_option maxRecDepth 20000

theorem Tryz.infoRow : (Tryz.prog.info? 29).map (fun i => (i.zero, i.size, i.bytes)) = some (some (.slice none 0 0), 1, 24) := by kernel_rfl

/-- A disk of noughts. -/
def DSt.new (n : Nat) : DSt := { n := n, row := fun _ => zs 128, writes := 0, fuse := -1, dead := false }

theorem disk_New_ok {w : World} (hg : Gl w) (hng : NG ≤ w.heap.size) (n : Int) (h0 : 16 ≤ n) (h1 : n ≤ 2048) :
    Calls Tryz.prog 21 #[.int .i64 n] w fun e w' => ∃ bd F, e = .returned (.tuple #[.pointer (some ⟨bd, 0, none⟩), .nilIface]) ∧ DRep w' bd (DSt.new n.toNat) F ∧ Kp (fun _ => False) w w' ∧ (∀ k, F k → w.heap.size ≤ k) := by
  have Hg := Lib.hid hg
  have Hn := Lib.hid hng
  clear hg hng
  go_enter Tryz.func21, Tryz.ntmps21
  go_wp2_with (at_make; refine wpList_makeN rfl 85 29 (.slice none 0 0) 24 Tryz.underlying85 Tryz.infoRow rfl _ _ rfl n rfl rfl (by omega) (by omega) (by omega) ?_; obtain ⟨X, hX⟩ : ∃ X, X = Obj.cells (List.replicate n.toNat (Value.slice none 0 0)).toArray 29 := ⟨_, rfl⟩; rw [← hX]; have HX := Lib.hid hX; clear hX)
  go_ret2
  obtain ⟨Y, hY⟩ : ∃ Y, Y = Obj.cells #[.slice (some ⟨w.heap.size, 0, none⟩) n.toNat n.toNat, .int .i64 0, .int .i64 (-1), .bool false] 87 := ⟨_, rfl⟩
  have e1 := new_blk w X
  have e2 := new_blk (w.alloc X) Y
  have kp : Kp (fun _ => False) w ((w.alloc X).alloc Y) := ((Kp.refl _ _).alloc _).alloc _
  have s1 := size_alloc w X
  have s2 := size_alloc (w.alloc X) Y
  rw [s1] at e2 s2
  have e3 := (Kp.alloc (F := fun _ => False) (Kp.refl _ (w.alloc X)) Y).blk e1 (fun h => h)
  have hng := Hn.out
  have hX := HX.out
  refine ⟨w.heap.size + 1, fun k => k = w.heap.size ∨ k = w.heap.size + 1, rfl, ?_⟩
  show DRep ((w.alloc X).alloc (Obj.cells #[.slice (some ⟨w.heap.size, 0, none⟩) n.toNat n.toNat, .int .i64 0, .int .i64 (-1), .bool false] 87)) _ _ _ ∧ Kp _ _ ((w.alloc X).alloc (Obj.cells #[.slice (some ⟨w.heap.size, 0, none⟩) n.toNat n.toNat, .int .i64 0, .int .i64 (-1), .bool false] 87)) ∧ _
  rw [← hY]
  refine ⟨⟨⟨w.heap.size, (List.replicate n.toNat (Value.slice none 0 0)).toArray, by rw [e2, hY]; rfl, by rw [e3, hX], by simp [DSt.new], .inl rfl, ?_⟩, .inr rfl, ?_, ?_, Hg.out.kp kp Hi.none, ?_, ?_⟩, kp, ?_⟩
  · intro i hi
    refine ⟨.slice none 0 0, ?_, .inl ⟨rfl, rfl⟩⟩
    have hi' : i < n.toNat := hi
    rw [List.getElem?_toArray, List.getElem?_replicate, if_pos hi']
  · rintro k (rfl | rfl) <;> rw [s2] <;> omega
  · simp [DSt.new]; omega
  · rintro k (rfl | rfl) <;> omega
  · rintro k (rfl | rfl) cs fr hcs
    · rw [e3, hX] at hcs; simp at hcs
    · rw [e2, hY] at hcs; simp at hcs
  · rintro k (rfl | rfl) <;> omega
end Go.Proofs.YtmafihodbbagbaaGreatDoor
