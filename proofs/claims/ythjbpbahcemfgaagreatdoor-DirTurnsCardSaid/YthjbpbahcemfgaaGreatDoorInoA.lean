/- Inodes: the small functions: numbers in bytes, errors, New. -/
import Derived.Test.YthjbpbahcemfgaaGreatDoorTab
import Derived.Test.YthjbpbahcemfgaaGreatDoorInts
namespace Go.Proofs.YthjbpbahcemfgaaGreatDoor
open Go.RowKit
set_option maxHeartbeats 1000000
set_option maxRecDepth 20000

theorem or_i64 (a b : Nat) (ha : a ≤ 255) (hb : b ≤ 255) : bits BinOp.or IntKind.i64 (a : Int) ((b : Int) * 256) = (a : Int) + (b : Int) * 256 := by
  have hor : a ||| b * 2 ^ 8 = a + b * 2 ^ 8 := by
    have := Nat.two_pow_add_eq_or_of_lt (show a < 2 ^ 8 by omega) b
    rw [Nat.or_comm, Nat.mul_comm b, ← this, Nat.add_comm]
  have e : bits BinOp.or IntKind.i64 (a : Int) ((b : Int) * 256) = IntKind.i64.wrap ((BitVec.ofInt 64 (a : Int) ||| BitVec.ofInt 64 ((b : Int) * 256)).toNat : Int) := rfl
  have t : (BitVec.ofInt 64 (a : Int) ||| BitVec.ofInt 64 ((b : Int) * 256)).toNat = a + b * 256 := by
    have e2 : ((b : Int) * 256) = ((b * 256 : Nat) : Int) := by omega
    rw [e2, BitVec.toNat_or, BitVec.ofInt_natCast, BitVec.ofInt_natCast, BitVec.toNat_ofNat, BitVec.toNat_ofNat, Nat.mod_eq_of_lt (by omega), Nat.mod_eq_of_lt (by omega)]
    exact hor
  rw [e, t, IntWalk.i64_in _ (by omega)]
  omega
theorem inode_number {w : World} (v : Value) (ys : List Int) (hs : Sl w v ys) (h2 : 2 ≤ ys.length) (hb : Byt ys) :
    Calls Tryz.prog 120 #[v] w fun e w' => e = .returned (.int .i64 (num2 ys 0)) ∧ ∃ k, w' = w.drewN k := by
  obtain ⟨A, c, rfl, h1, hc, h3⟩ := hs
  obtain ⟨ad, rfl, h4⟩ := h3 (by rintro rfl; simp at h2)
  have c0 : w.cell? ad = some (.int .u8 (ys.getD 0 0)) := by
    have := h4 0 (.int .u8 (ys.getD 0 0)) (by simp [bs, List.getD_eq_getElem?_getD, show 0 < ys.length by omega])
    rwa [show ad.add 0 = ad by simp [Addr.add]] at this
  have c1 : w.cell? ⟨ad.block, ad.off + 1, none⟩ = some (.int .u8 (ys.getD 1 0)) := by
    have := h4 1 (.int .u8 (ys.getD 1 0)) (by simp [bs, List.getD_eq_getElem?_getD, show 1 < ys.length by omega])
    rwa [show ad.add 1 = ⟨ad.block, ad.off + 1, none⟩ by simp [Addr.add]] at this
  have b0 := hb.getD 0
  have b1 := hb.getD 1
  have e : num2 ys 0 = ys.getD 0 0 + ys.getD 1 0 * 256 := rfl
  generalize ys.getD 0 0 = x at *
  generalize ys.getD 1 0 = y at *
  obtain ⟨p, rfl⟩ := Int.eq_ofNat_of_zero_le b0.1
  obtain ⟨q, rfl⟩ := Int.eq_ofNat_of_zero_le b1.1
  have ho := or_i64 p q (by omega) (by omega)
  rw [← e] at ho
  have HO := Lib.hid ho
  have hl1 : (1 : Int) < (ys.length : Int) := by omega
  have hl1' : 1 < ys.length := by omega
  have hl0 : 0 < ys.length := by omega
  have q0 : IntKind.i64.wrap (p : Int) = (p : Int) := IntWalk.i64_in _ (by omega)
  have q1 : IntKind.i64.wrap (q : Int) = (q : Int) := IntWalk.i64_in _ (by omega)
  clear h4 h3 hb ho e
  unfold maxLen at hc
  go_enter Tryz.func120, Tryz.ntmps120
  go_wp2_with fail
  go_quiet (fail)
  go_wp2
  go_ret
  exact ⟨by rw [← HO.out]; rfl, _, rfl⟩
theorem inode_data {w : World} (n : Nat) (hn : n ≤ 1000000) :
    Calls Tryz.prog 91 #[.int .i64 n] w fun e w' => e = .returned (.int .i64 (dat n : Nat)) ∧ w = w' := by
  have e : ((n : Int) + 127) / 128 = ((dat n : Nat) : Int) := by unfold dat; omega
  have E := Lib.hid e
  clear e
  go_enter Tryz.func91, Tryz.ntmps91
  go_wp2
  go_ret
  exact ⟨ret_int (by rw [← E.out]; omega), rfl⟩
theorem inode_told (no : Int) (v : Value) (E : EV) (w : World) (hg : Gl w) (h0 : -9223372036854775808 ≤ no) (h1 : no ≤ 9223372036854775807) (hv : ErrV w v E) :
    Calls Tryz.prog 52 #[.int .i64 no, v] w fun e w' => ∃ v', e = .returned v' ∧ ErrV w' v' (wrapE (tx [105, 110, 111, 100, 101]) (tx (Lib.itoa no)) E) ∧ Kp (fun _ => False) w w' := by
  have H := Lib.hid hv
  have Hg := Lib.hid hg
  clear hv hg
  go_enter Tryz.func52, Tryz.ntmps52
  go_wp2_with fail
  refine (itoa_any no h0 h1 _ Hg.out).mono ?_
  rintro e w1 ⟨rfl, hk⟩
  go_wp2_with fail
  refine (fault_Wrap _ _ v E _ (H.out.kp hk (FCl.none _))).mono ?_
  rintro e w2 ⟨v', rfl, h1, h2⟩
  go_wp2_with fail
  go_ret
  exact ⟨v', rfl, h1, hk.trans h2 (Gr.refl _ _)⟩
theorem inode_wrong (no n : Int) (w : World) (hg : Gl w) (h0 : -9223372036854775808 ≤ no) (h1 : no ≤ 9223372036854775807) (h : n ≠ 0) :
    Calls Tryz.prog 55 #[.int .i64 no, .int .i64 n] w fun e w' => ∃ v, e = .returned v ∧ IsErr w' v [(tx [105, 110, 111, 100, 101], tx (Lib.itoa no))] n ∧ Kp (fun _ => False) w w' := by
  have Hg := Lib.hid hg
  clear hg
  go_enter Tryz.func55, Tryz.ntmps55
  go_wp2_with fail
  refine (itoa_any no h0 h1 _ Hg.out).mono ?_
  rintro e w1 ⟨rfl, hk⟩
  go_wp2_with fail
  refine (fault_New _ _ _ _ h).mono ?_
  rintro e w2 ⟨v, rfl, hv, hk2⟩
  go_wp2_with fail
  go_ret
  exact ⟨v, rfl, hv, hk.trans hk2 (Gr.refl _ _)⟩

/-- A table of inodes in memory. -/
def TBlk (w : World) (bt bc bx at_ n : Nat) : Prop :=
  w.heap[bt]? = some (.cells #[.pointer (some ⟨bc, 0, none⟩), .pointer (some ⟨bx, 0, none⟩), .int .i64 at_, .int .i64 n] 145 (0, 0))
theorem inode_New_ok {w : World} (bc bx : Nat) (a n : Nat) (h1 : 1 ≤ n) (h2 : n ≤ 200) :
    Calls Tryz.prog 36 #[.pointer (some ⟨bc, 0, none⟩), .pointer (some ⟨bx, 0, none⟩), .int .i64 a, .int .i64 n] w fun e w' => e = .returned (.tuple #[.pointer (some ⟨w.heap.size, 0, none⟩), .nilIface]) ∧ TBlk w' w.heap.size bc bx a n ∧ Kp (fun _ => False) w w' := by
  have h1' : ¬ (n : Int) < 1 := by omega
  have h2' : ¬ (200 : Int) < (n : Int) := by omega
  go_enter Tryz.func36, Tryz.ntmps36
  go_wp2
  go_ret2
  exact ⟨rfl, new_blk w _, (Kp.refl _ w).alloc _⟩
theorem inode_there {w : World} {bt bc bx at_ n : Nat} (h : TBlk w bt bc bx at_ n) (id : Int) (h0 : 1 ≤ id) (h1 : id ≤ n) :
    Calls Tryz.prog 76 #[.pointer (some ⟨bt, 0, none⟩), .int .i64 id] w fun e w' => e = .returned (.bool true) ∧ w = w' := by
  have c1 := cell_blk h 3
  simp at c1
  clear h
  go_enter Tryz.func76, Tryz.ntmps76
  go_wp2
  go_ret
  exact ⟨rfl, rfl⟩
theorem inode_there_no {w : World} {bt bc bx at_ n : Nat} (h : TBlk w bt bc bx at_ n) (id : Int) (h0 : id < 1 ∨ (n : Int) < id) :
    Calls Tryz.prog 76 #[.pointer (some ⟨bt, 0, none⟩), .int .i64 id] w fun e w' => e = .returned (.bool false) ∧ w = w' := by
  have c1 := cell_blk h 3
  simp at c1
  clear h
  by_cases hn : id < 1
  · go_enter Tryz.func76, Tryz.ntmps76
    go_wp2
    go_ret
    exact ⟨rfl, rfl⟩
  · have hz : (n : Int) < id := by omega
    clear h0
    have hdz : decide (id ≤ (n : Int)) = false := by simp; omega
    go_enter Tryz.func76, Tryz.ntmps76
    go_wp2
    go_ret
    exact ⟨by simp, rfl⟩
end Go.Proofs.YthjbpbahcemfgaaGreatDoor
