/- A group that stands in the journal is done when it is opened. -/
import Derived.Test.YtmafihodbbagbaaGreatDoorGroup
import Derived.Test.YtmafihodbbagbaaGreatDoorFlushV
namespace Go.Proofs.YtmafihodbbagbaaGreatDoor
open Go.RowKit
set_option maxHeartbeats 4000000
set_option maxRecDepth 20000

theorem BT.lays {w : World} {bd : Nat} {D : DSt} {F : Nat → Prop} {v : Value} {l : List (Nat × List Int)} (ht : BT w v l) (h : DRep w bd D F) : ∀ W, KpD bd w W → BS W v l := fun _ k => (ht.kpD h k).bs
theorem journal_replay_real {w : World} {bj bd at_ most : Nat} {D : DSt} {F : Nat → Prop} (hj : JBlk w bj bd at_ most) (h : DRep w bd D F) (hd : D.dead = false) (hz : D.fuse = -1) (hm : most ≤ 200) (hat : at_ + need most ≤ D.n)
    (l : List (Nat × List Int)) (hne : l ≠ []) (hll : l.length ≤ most) (hin : ∀ x ∈ l, x.1 < D.n ∧ x.1 < at_ ∧ x.2.length = 128) (hnd : (l.map (·.1)).Nodup)
    (hhead : D.row at_ = headRow (l.length : Nat) (bodyRows l)) (hbody : ∀ i r, (bodyRows l)[i]? = some r → D.row (at_ + 1 + i) = r) :
    Calls Tryz.prog 42 #[.pointer (some ⟨bj, 0, none⟩)] w fun e w' => e = .returned .nilIface ∧
      ∃ F', DRep w' bd (D.runs (l ++ [(at_, zs 128)])).2 F' ∧ JBlk w' bj bd at_ most ∧ Kp F w w' ∧ Gr F F' w.heap.size := by
  have hpos : 1 ≤ l.length := List.length_pos_iff.2 hne
  have hatn : at_ < D.n := by have : 2 ≤ need most := by unfold need; omega
                              omega
  have HG := Lib.hid (journal_group_real hj h hd hm hat l hne hll hin hnd hhead hbody)
  have HL := Lib.hid (fun (W : World) (hk : Kp (fun _ => False) w W) (v : Value) (hv : BT W v l) => journal_lay (hk.blk hj (fun h => h)) (h.kp0 hk) (show D.Fz by unfold DSt.Fz; rw [hz]; omega) v l (hv.lays (h.kp0 hk)) (fun x hx => ⟨(hin x hx).1, (hin x hx).2.2⟩) hatn (by omega))
  have HJ := Lib.hid (fun (W : World) (hk : Kp (fun _ => False) w W) (W' : World) (hk' : KpD bd W W') => JBlk.kpD (hk.blk hj (fun h => h)) (h.kp0 hk) hk')
  have Hal := Lib.hid (DSt.runs_alive (l ++ [(at_, zs 128)]) hd (by omega)).1
  clear hj h hd hz hin hnd hhead hbody
  have hl0 : ((l.length : Int) == 0) = false := by simp; exact hne
  go_enter Tryz.func42, Tryz.ntmps42
  go_wp2_with fail
  refine HG.out.mono ?_
  rintro e w1 ⟨v, rfl, hb, hk⟩
  have Hb := Lib.hid hb
  have Hk := Lib.hid hk
  obtain ⟨A, c, rfl, _, _, _⟩ := id hb
  clear hb hk
  go_wp2_with fail
  refine (HL.out _ Hk.out _ Hb.out).mono ?_
  rintro e w2 ⟨u, rfl, hu, F', hr, hk2, hg2, hkd⟩
  rw [Hal.out] at hu
  obtain rfl : u = .nilIface := hu
  have HJ2 := Lib.hid (HJ.out _ Hk.out _ hkd)
  have Hr := Lib.hid hr
  have Hg := Lib.hid hg2
  have Hk2 := Lib.hid hk2
  clear hr hg2 hk2 hkd
  go_wp2_with fail
  go_ret
  have hs := Hk.out.size
  exact ⟨rfl, F', Hr.out, HJ2.out, (Hk.out.mono (fun _ h => h.elim)).trans Hk2.out (Gr.refl _ _), Hg.out.mono hs⟩
theorem journal_Open_real {w : World} {bd at_ most : Nat} {D : DSt} {F : Nat → Prop} (h : DRep w bd D F) (hm1 : 1 ≤ most) (hm2 : most ≤ 200) (hi : at_ + need most ≤ D.n) (hd : D.dead = false) (hz : D.fuse = -1)
    (l : List (Nat × List Int)) (hne : l ≠ []) (hll : l.length ≤ most) (hin : ∀ x ∈ l, x.1 < D.n ∧ x.1 < at_ ∧ x.2.length = 128) (hnd : (l.map (·.1)).Nodup)
    (hhead : D.row at_ = headRow (l.length : Nat) (bodyRows l)) (hbody : ∀ i r, (bodyRows l)[i]? = some r → D.row (at_ + 1 + i) = r) :
    Calls Tryz.prog 19 #[.pointer (some ⟨bd, 0, none⟩), .int .i64 at_, .int .i64 most] w fun e w' => ∃ bj F', e = .returned (.tuple #[.pointer (some ⟨bj, 0, none⟩), .nilIface]) ∧ JBlk w' bj bd at_ most ∧
      DRep w' bd (D.runs (l ++ [(at_, zs 128)])).2 F' ∧ Kp F w w' ∧ Gr F F' w.heap.size ∧ w.heap.size ≤ bj := by
  have hneed : 3 ≤ need most := by unfold need; omega
  have hn2 := h.few
  have H := Lib.hid h
  have HR := Lib.hid (journal_replay_real (new_blk w (.cells #[.pointer (some ⟨bd, 0, none⟩), .int .i64 at_, .int .i64 most] 91)) (h.kp0 ((Kp.refl _ _).alloc _)) hd hz hm2 hi l hne hll hin hnd hhead hbody)
  clear h hd hz hin hnd hhead hbody
  go_enter Tryz.func19, Tryz.ntmps19
  go_wp2_with (first | (go_at_call 39; refine (disk_Blocks H.out).mono ?_; rintro e w1 ⟨rfl, rfl⟩) | (go_at_call 40; refine (journal_Need _ hm1 (by omega)).mono ?_; rintro e w1 ⟨rfl, rfl⟩) | (go_at_call 42; refine HR.out.mono ?_; rintro e w1 ⟨rfl, F', hr, hj, hk, hg⟩; have Hr := Lib.hid hr; have Hj := Lib.hid hj; have Hk := Lib.hid hk; have Hg := Lib.hid hg; clear hr hj hk hg))
  go_ret2
  exact ⟨w.heap.size, F', rfl, Hj.out, Hr.out, (((Kp.refl F w).alloc _)).trans Hk.out (Gr.refl _ _), Hg.out.mono (by simp), Nat.le_refl _⟩
end Go.Proofs.YtmafihodbbagbaaGreatDoor
