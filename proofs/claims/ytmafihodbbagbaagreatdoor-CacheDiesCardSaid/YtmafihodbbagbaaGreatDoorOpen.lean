/- A journal is opened where none has been: nothing is to be done. -/
import Derived.Test.YtmafihodbbagbaaGreatDoorGet
namespace Go.Proofs.YtmafihodbbagbaaGreatDoor
open Go.RowKit
set_option maxHeartbeats 1000000
set_option maxRecDepth 20000

/-- A head that is no journal's. -/
def Blank (xs : List Int) : Prop := xs.length = 128 ∧ (∀ x ∈ xs, 0 ≤ x ∧ x ≤ 255) ∧ ¬ (str (xs.take 8)).toList = [99, 114, 101, 100, 101, 110, 122, 97]
theorem blank_zs : Blank (zs 128) := by
  refine ⟨by simp, fun x hx => ?_, fun h => ?_⟩
  · rw [zs, List.mem_replicate] at hx; omega
  · revert h
    decide +kernel

theorem journal_group_blank {w : World} {bj bd at_ most : Nat} {D : DSt} {F : Nat → Prop} (hj : JBlk w bj bd at_ most) (h : DRep w bd D F) (hi : at_ < D.n) (hd : D.dead = false) (hb : Blank (D.row at_)) :
    Calls Tryz.prog 61 #[.pointer (some ⟨bj, 0, none⟩)] w fun e w' => e = .returned (.tuple #[.slice none 0 0, .nilIface]) ∧ Kp (fun _ => False) w w' := by
  have c0 := cell_blk hj 0
  have c1 := cell_blk hj 1
  simp at c0 c1
  obtain ⟨hb1, hb2, hb3⟩ := hb
  have Hb2 := Lib.hid hb2
  have Hb1 := Lib.hid hb1
  have hR := fun (W : World) (hk : Kp (fun _ => False) w W) => disk_Read_ok (h.kp0 hk) at_ (by omega) (by omega) hd
  simp only [Int.toNat_natCast] at hR
  have HR := Lib.hid hR
  clear hj h hd hb1 hb2 hR
  go_enter Tryz.func61, Tryz.ntmps61
  go_wp2_with fail
  go_region_held3 (fun W => W.cell? ⟨bj, 0, none⟩ = some (.pointer (some ⟨bd, 0, none⟩)) ∧ W.cell? ⟨bj, 1, none⟩ = some (.int .i64 at_))
    (first | go_keep | exact ⟨hk1.cell (by assumption) (fun h => h), hk1.cell (by assumption) (fun h => h)⟩)
    (first | (go_at_call 16; refine (HR.out _ (Kp.refl _ _).drew).mono ?_; rintro e w1 ⟨rfl, hr1, hk1⟩))
  go_wp2_with fail
  have hsl : Sl w1 (.slice (some ⟨w.heap.size, 0, none⟩) 128 128) (D.row at_) := by
    have := hr1.sl (by rw [Hb1.out]; simp [maxLen])
    rw [Hb1.out] at this; exact this
  have hcv := conv_str (hsl.take (m := 8) (by rw [Hb1.out]; omega))
  have Hsl := Lib.hid hsl
  clear hsl hr1
  refine (journal_get _ _ _ (Hsl.out.drop (m := 8) (by rw [Hb1.out]; omega) (by omega)) (by rw [List.length_drop, Hb1.out]; omega) (fun x hx => Hb2.out x (List.mem_of_mem_drop hx))).mono ?_
  rintro e w2 ⟨rfl, rfl⟩
  generalize le 8 ((D.row at_).drop 8) = q
  go_wp2_with fail
  go_ret2
  exact ⟨rfl, (Kp.drew (Kp.refl _ _)).trans hk1 (Gr.refl _ _)⟩

theorem journal_replay_blank {w : World} {bj bd at_ most : Nat} {D : DSt} {F : Nat → Prop} (hj : JBlk w bj bd at_ most) (h : DRep w bd D F) (hi : at_ < D.n) (hd : D.dead = false) (hb : Blank (D.row at_)) :
    Calls Tryz.prog 42 #[.pointer (some ⟨bj, 0, none⟩)] w fun e w' => e = .returned .nilIface ∧ Kp (fun _ => False) w w' := by
  have H := Lib.hid (journal_group_blank hj h hi hd hb)
  clear hj h hd hb
  go_enter Tryz.func42, Tryz.ntmps42
  go_wp2_with fail
  refine H.out.mono ?_
  rintro e w1 ⟨rfl, hk⟩
  go_wp2_with fail
  go_ret
  exact ⟨rfl, hk⟩

theorem journal_Open_blank {w : World} {bd at_ most : Nat} {D : DSt} {F : Nat → Prop} (h : DRep w bd D F) (hm1 : 1 ≤ most) (hm2 : most ≤ 200) (hi : at_ + need most ≤ D.n) (hd : D.dead = false) (hb : Blank (D.row at_)) :
    Calls Tryz.prog 19 #[.pointer (some ⟨bd, 0, none⟩), .int .i64 at_, .int .i64 most] w fun e w' => ∃ bj, e = .returned (.tuple #[.pointer (some ⟨bj, 0, none⟩), .nilIface]) ∧ JBlk w' bj bd at_ most ∧ Kp (fun _ => False) w w' ∧ w.heap.size ≤ bj := by
  have hneed : 3 ≤ need most := by unfold need; omega
  have hn2 := h.few
  have H := Lib.hid h
  have Hd := Lib.hid hd
  have Hb := Lib.hid hb
  clear h hd hb
  go_enter Tryz.func19, Tryz.ntmps19
  go_wp2_with (first | (go_at_call 39; refine (disk_Blocks H.out).mono ?_; rintro e w1 ⟨rfl, rfl⟩) | (go_at_call 40; refine (journal_Need _ hm1 (by omega)).mono ?_; rintro e w1 ⟨rfl, rfl⟩) | (go_at_call 42; refine (journal_replay_blank (new_blk _ _) (H.out.kp0 ((Kp.refl _ _).alloc _)) (by omega) Hd.out Hb.out).mono ?_; rintro e w1 ⟨rfl, hk⟩))
  go_ret2
  exact ⟨w.heap.size, rfl, hk.blk (new_blk _ _) (fun h => h), ((Kp.refl _ _).alloc _).trans hk (Gr.refl _ _), Nat.le_refl _⟩
end Go.Proofs.YtmafihodbbagbaaGreatDoor
