/- Inodes: kind, size, how many are free. -/
import Derived.Test.YthjbpbahcemfgaaGreatDoorInoH
namespace Go.Proofs.YthjbpbahcemfgaaGreatDoor
open Go.RowKit
set_option maxHeartbeats 4000000
set_option maxRecDepth 20000
variable {w : World} {bt bx bc bj bm bd at_ n mat lo nbl : Nat} {C : CSt} {F : Nat → Prop} {T : Nat → Nd}

theorem inode_Kind_ok (h : Tab w bt bx bc bj bm bd at_ n mat lo nbl C F T) {ino : Nat} (h1 : 1 ≤ ino) (h2 : ino ≤ n) :
    Calls Tryz.prog 60 #[.pointer (some ⟨bt, 0, none⟩), .int .i64 ino] w fun e w' => e = .returned (.tuple #[.int .i64 (T ino).kind, .nilIface]) ∧ Kp (fun _ => False) w w' := by
  have HT := Lib.hid (inode_there h.blk (ino : Int) (by omega) (by omega))
  have HR := Lib.hid (tab_read h h1 h2)
  have hn := h.geo.g5
  have HG := Lib.hid h.gl
  generalize T ino = x at *
  clear h
  go_enter Tryz.func60, Tryz.ntmps60
  go_wp2_with (first | (go_at_call 76; refine (HT.out).mono ?_; rintro e w1 ⟨rfl, rfl⟩))
  refine HR.out.mono ?_
  rintro e w3 ⟨A, c, rfl, hown, hk3⟩
  have Hk3 := Lib.hid hk3
  clear hown hk3 HT HR
  go_upto_region 4 with fail
  have hka := (Kp.refl (fun _ => False) w3).alloc (.cells #[.int .i64 x.kind, .int .i64 x.size, .slice A x.l.length c, .int .i64 x.more] 94)
  have Hp := Lib.hid (new_blk w3 (.cells #[.int .i64 x.kind, .int .i64 x.size, .slice A x.l.length c, .int .i64 x.more] 94))
  have HK := Lib.hid (Hk3.out.trans hka (Gr.refl _ _))
  clear hka
  generalize w3.alloc (.cells #[.int .i64 x.kind, .int .i64 x.size, .slice A x.l.length c, .int .i64 x.more] 94) = w4 at *
  generalize w3.heap.size = p at *
  have c0 : ∀ W : World, Kp (fun _ => False) w4 W → W.cell? ⟨p, 0, none⟩ = some (.int .i64 x.kind) := fun W hk => hk.cell (by rw [cell_blk Hp.out]; simp) (fun h => h)
  have hs4 : Kp (fun _ => False) w4 w4 := Kp.refl _ _
  go_region_held_law (fun W => Kp (fun _ => False) w4 W)
    (first | exact Kp.refl _ _ | assumption | exact Kp.drew (by assumption) | exact Kp.trans (by assumption) (by assumption) (Gr.refl _ _))
    (first | (go_at_call 52; refine (inode_told (ino : Int) .nilIface none _ (HG.out.kp (HK.out.trans (F1 := fun _ => False) (by first | exact Kp.refl _ _ | exact (Kp.refl _ _).drew) (Gr.refl _ _)) Hi.none) (by omega) (by omega) rfl).mono ?_; rintro e w5 ⟨v5, rfl, hv5, hk5⟩; obtain rfl : v5 = .nilIface := hv5; have hk5' : Kp (fun _ => False) w4 w5 := Kp.trans (F1 := fun _ => False) (by first | exact Kp.refl _ _ | exact (Kp.refl _ _).drew) hk5 (Gr.refl _ _)))
  have Hend := Lib.hid (HK.out.trans (F1 := fun _ => False) (show Kp (fun _ => False) w4 w5 from hk5') (Gr.refl _ _))
  go_wp2_with fail
  go_ret2
  exact ⟨rfl, Hend.out⟩
theorem inode_Kind_arg (h : Tab w bt bx bc bj bm bd at_ n mat lo nbl C F T) {ino : Int} (hno : ino < 1 ∨ (n : Int) < ino) (h0 : -9223372036854775808 ≤ ino) (h9 : ino ≤ 9223372036854775807) :
    Calls Tryz.prog 60 #[.pointer (some ⟨bt, 0, none⟩), .int .i64 ino] w fun e w' => ∃ v, e = .returned (.tuple #[.int .i64 0, v]) ∧ IsErr w' v [(tx [105, 110, 111, 100, 101], tx (Lib.itoa ino))] 1 ∧ Kp (fun _ => False) w w' := by
  have HT := Lib.hid (inode_there_no h.blk ino hno)
  have HW := Lib.hid (inode_wrong ino 1 w h.gl h0 h9 (by decide))
  clear h hno
  go_enter Tryz.func60, Tryz.ntmps60
  go_wp2_with (first | (go_at_call 76; refine (HT.out).mono ?_; rintro e w1 ⟨rfl, rfl⟩))
  refine HW.out.mono ?_
  rintro e w4 ⟨v, rfl, hv, hk4⟩
  have Hv := Lib.hid hv
  have Hk4 := Lib.hid hk4
  clear hv hk4
  go_wp2_with fail
  go_ret2
  exact ⟨v, rfl, Hv.out, Hk4.out⟩
theorem inode_Size_ok (h : Tab w bt bx bc bj bm bd at_ n mat lo nbl C F T) {ino : Nat} (h1 : 1 ≤ ino) (h2 : ino ≤ n) (hkd : (T ino).kind ≠ 0) :
    Calls Tryz.prog 13 #[.pointer (some ⟨bt, 0, none⟩), .int .i64 ino] w fun e w' => e = .returned (.tuple #[.int .i64 (T ino).size, .nilIface]) ∧ Kp (fun _ => False) w w' := by
  have HR := Lib.hid (inode_had_ok h h1 h2 hkd)
  generalize T ino = x at *
  clear h hkd
  go_enter Tryz.func13, Tryz.ntmps13
  go_wp2_with fail
  refine HR.out.mono ?_
  rintro e w3 ⟨A, c, rfl, hown, hk3⟩
  have Hk3 := Lib.hid (hk3.trans ((Kp.refl (fun _ => False) w3).alloc (.cells #[.int .i64 x.kind, .int .i64 x.size, .slice A x.l.length c, .int .i64 x.more] 94)) (Gr.refl _ _))
  clear hown hk3 HR
  go_wp2_with fail
  go_ret2
  exact ⟨rfl, Hk3.out⟩
theorem inode_Size_err {ino k : Int} (h : ∀ W : World, W = w → Calls Tryz.prog 43 #[.pointer (some ⟨bt, 0, none⟩), .int .i64 ino, .bool true] W fun e w' => ∃ v, e = .returned (.tuple #[.agg #[.int .i64 0, .int .i64 0, .slice none 0 0, .int .i64 0], v]) ∧ IsErr w' v [(tx [105, 110, 111, 100, 101], tx (Lib.itoa ino))] k ∧ Kp (fun _ => False) w w') :
    Calls Tryz.prog 13 #[.pointer (some ⟨bt, 0, none⟩), .int .i64 ino] w fun e w' => ∃ v, e = .returned (.tuple #[.int .i64 0, v]) ∧ IsErr w' v [(tx [105, 110, 111, 100, 101], tx (Lib.itoa ino))] k ∧ Kp (fun _ => False) w w' := by
  have HR := Lib.hid (h w rfl)
  clear h
  go_enter Tryz.func13, Tryz.ntmps13
  go_wp2_with fail
  refine HR.out.mono ?_
  rintro e w3 ⟨v, rfl, hv, hk3⟩
  have hka := (Kp.refl (fun _ => False) w3).alloc (.cells #[.int .i64 0, .int .i64 0, .slice none 0 0, .int .i64 0] 94)
  have Hk3 := Lib.hid (hk3.trans hka (Gr.refl _ _))
  have Hv := Lib.hid (hv.kp hka (FCl.none _))
  clear hv hk3 HR hka
  go_wp2_with fail
  go_ret2
  exact ⟨v, rfl, Hv.out, Hk3.out⟩
theorem inode_Size_arg (h : Tab w bt bx bc bj bm bd at_ n mat lo nbl C F T) {ino : Int} (hno : ino < 1 ∨ (n : Int) < ino) (h0 : -9223372036854775808 ≤ ino) (h9 : ino ≤ 9223372036854775807) :
    Calls Tryz.prog 13 #[.pointer (some ⟨bt, 0, none⟩), .int .i64 ino] w fun e w' => ∃ v, e = .returned (.tuple #[.int .i64 0, v]) ∧ IsErr w' v [(tx [105, 110, 111, 100, 101], tx (Lib.itoa ino))] 1 ∧ Kp (fun _ => False) w w' :=
  inode_Size_err (fun W e => by subst e; exact inode_had_arg h (.inl hno) h0 h9)
theorem inode_Size_none (h : Tab w bt bx bc bj bm bd at_ n mat lo nbl C F T) {ino : Nat} (h1 : 1 ≤ ino) (h2 : ino ≤ n) (hkd : (T ino).kind = 0) :
    Calls Tryz.prog 13 #[.pointer (some ⟨bt, 0, none⟩), .int .i64 ino] w fun e w' => ∃ v, e = .returned (.tuple #[.int .i64 0, v]) ∧ IsErr w' v [(tx [105, 110, 111, 100, 101], tx (Lib.itoa ino))] 11 ∧ Kp (fun _ => False) w w' :=
  inode_Size_err (fun W e => by subst e; exact inode_had_none h h1 h2 hkd)
/-- How many inodes are free. -/
def leftT (T : Nat → Nd) : Nat → Nat
  | 0 => 0
  | k + 1 => leftT T k + if (T (k + 1)).kind = 0 then 1 else 0
theorem leftT_le (T : Nat → Nd) (k : Nat) : leftT T k ≤ k := by
  induction k with
  | zero => exact Nat.le_refl _
  | succ k ih => rw [leftT]; split <;> omega
theorem inode_Left (h : Tab w bt bx bc bj bm bd at_ n mat lo nbl C F T) :
    Calls Tryz.prog 63 #[.pointer (some ⟨bt, 0, none⟩)] w fun e w' => e = .returned (.tuple #[.int .i64 (leftT T n : Nat), .nilIface]) ∧ Kp (fun _ => False) w w' := by
  have HR := Lib.hid (fun (W : World) (hk : Kp (fun _ => False) w W) (ino : Nat) (h1 : 1 ≤ ino) (h2 : ino ≤ n) => tab_read (h.kp0 hk) h1 h2)
  have c3 := cell_blk h.blk 3
  simp at c3
  have C3 := Lib.hid c3
  have hn := h.geo.g5
  clear h c3
  go_enter Tryz.func63, Tryz.ntmps63
  go_wp2_with fail
  go_loopw [4, 5] (fun c i wr => ∃ k : Nat, k ≤ n ∧ c = .int .i64 (leftT T k : Nat) ∧ i = .int .i64 ((k : Int) + 1) ∧ Kp (fun _ => False) w wr) (fun _ i _ => n + 1 - (intOf i).toNat)
  case atStart => exact ⟨0, Nat.zero_le _, rfl, rfl, Kp.refl _ _⟩
  case round =>
    obtain ⟨k, hk, rfl, rfl, hkp⟩ := hrel
    have c3 := hkp.cell C3.out (fun h => h)
    have Hkp := Lib.hid hkp
    have hle := leftT_le T k
    clear hkp
    by_cases hlt : k < n
    · have hlt' : (k : Int) < (n : Int) := by omega
      have HR1 := Lib.hid (show Calls Tryz.prog 77 #[.pointer (some ⟨bt, 0, none⟩), .int .i64 ((k : Int) + 1)] wr fun e w' => ∃ A c, e = .returned (.tuple #[.agg #[.int .i64 (T (k + 1)).kind, .int .i64 (T (k + 1)).size, .slice A (T (k + 1)).l.length c, .int .i64 (T (k + 1)).more], .nilIface]) ∧ w'.ownsRow wr.heap.size 3 1 (.slice A (T (k + 1)).l.length c) (T (k + 1)).l.length (ints (natI (T (k + 1)).l)) ∧ Kp (fun _ => False) wr w' from by have := HR.out wr Hkp.out (k + 1) (by omega) (by omega); simpa only [Int.natCast_add, Int.cast_ofNat_Int] using this)
      have Hs := Lib.hid (show leftT T (k + 1) = leftT T k + if (T (k + 1)).kind = 0 then 1 else 0 from rfl)
      generalize hx : T (k + 1) = x at *
      clear hx
      by_cases hz : x.kind = 0
      · have Hz := Lib.hid (show (x.kind : Int) = 0 by omega)
        have Hz2 := Lib.hid (show leftT T (k + 1) = leftT T k + 1 by rw [Hs.out, if_pos hz])
        clear hz
        go_wp2_with fail
        refine HR1.out.mono ?_
        rintro e w3 ⟨A, c, rfl, hown, hk3⟩
        rw [Hz.out]
        have Hk3 := Lib.hid (Kp.alloc (Hkp.out.trans hk3 (Gr.refl _ _)) (.cells #[.int .i64 0, .int .i64 x.size, .slice A x.l.length c, .int .i64 x.more] 94))
        clear hown hk3
        go_wp2_with fail
        go_roundw
        case rel => exact ⟨k + 1, by omega, by rw [Hz2.out]; simp, by go_num, Hk3.out⟩
        case measure => simp [intOf]; omega
      · have hzi : ¬ (x.kind : Int) = 0 := by omega
        have hzb : ((x.kind : Int) == 0) = false := by simpa using hzi
        have Hz2 := Lib.hid (show leftT T (k + 1) = leftT T k by rw [Hs.out, if_neg hz]; rfl)
        clear hz hzi
        go_wp2_with fail
        refine HR1.out.mono ?_
        rintro e w3 ⟨A, c, rfl, hown, hk3⟩
        have Hk3 := Lib.hid (Kp.alloc (Hkp.out.trans hk3 (Gr.refl _ _)) (.cells #[.int .i64 x.kind, .int .i64 x.size, .slice A x.l.length c, .int .i64 x.more] 94))
        clear hown hk3
        go_wp2_with fail
        go_roundw
        case rel => exact ⟨k + 1, by omega, by rw [Hz2.out], by go_num, Hk3.out⟩
        case measure => simp [intOf]; omega
    · have hkn : k = n := by omega
      subst hkn
      go_wp2_with fail
      go_ret2
      exact ⟨rfl, Hkp.out⟩
end Go.Proofs.YthjbpbahcemfgaaGreatDoor
