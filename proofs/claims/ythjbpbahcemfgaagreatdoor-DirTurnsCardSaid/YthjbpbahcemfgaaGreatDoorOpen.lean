/- Numbers in bytes. -/
/- A journal is opened where none has been: nothing is to be done. -/
import Derived.Test.YthjbpbahcemfgaaGreatDoorJrnl
namespace Go.Proofs.YthjbpbahcemfgaaGreatDoor
open Go.RowKit
set_option maxHeartbeats 1000000
set_option maxRecDepth 20000

/-- The number of the first k bytes, the least first. -/
def le (k : Nat) (xs : List Int) : Int := match k with
  | 0 => 0
  | k + 1 => le k xs + xs.getD k 0 * 256 ^ k

theorem le_range (k : Nat) (xs : List Int) (hb : ∀ x ∈ xs, 0 ≤ x ∧ x ≤ 255) : 0 ≤ le k xs ∧ le k xs < 256 ^ k := by
  induction k with
  | zero => simp [le]
  | succ k ih =>
    have hx : 0 ≤ xs.getD k 0 ∧ xs.getD k 0 ≤ 255 := by
      rw [List.getD_eq_getElem?_getD]
      cases h : xs[k]? with
      | none => simp
      | some x => exact hb x (List.mem_of_getElem? h)
    obtain ⟨h1, h2⟩ := ih
    have e1 : le (k + 1) xs = le k xs + xs.getD k 0 * 256 ^ k := rfl
    have e : (256 : Int) ^ (k + 1) = 256 ^ k * 256 := Int.pow_succ _ _
    rw [e1, e]
    generalize xs.getD k 0 = x at *
    have hp : (0 : Int) < 256 ^ k := Int.pow_pos (by decide)
    generalize (256 : Int) ^ k = p at *
    have h3 : 0 ≤ x * p := Int.mul_nonneg hx.1 (by omega)
    have h4 : x * p ≤ 255 * p := Int.mul_le_mul_of_nonneg_right hx.2 (by omega)
    constructor
    · omega
    · omega
theorem bits_or_le (k : Nat) (a x : Int) (hk : k < 8) (h0 : 0 ≤ a) (h1 : a < 256 ^ k) (hx : 0 ≤ x ∧ x ≤ 255) :
    bits BinOp.or IntKind.u64 a (IntKind.u64.wrap (x * 2 ^ (8 * k))) = a + x * 256 ^ k := by
  obtain ⟨n, rfl⟩ := Int.eq_ofNat_of_zero_le h0
  obtain ⟨m, rfl⟩ := Int.eq_ofNat_of_zero_le hx.1
  have e : (256 : Int) ^ k = ((2 ^ (8 * k) : Nat) : Int) := by rw [Nat.pow_mul]; norm_cast
  have e' : (2 : Int) ^ (8 * k) = ((2 ^ (8 * k) : Nat) : Int) := by norm_cast
  have hn : n < 2 ^ (8 * k) := by rw [e] at h1; exact_mod_cast h1
  have hm : m ≤ 255 := by omega
  have hp : 2 ^ (8 * k) ≤ 2 ^ 56 := Nat.pow_le_pow_right (by decide) (by omega)
  have hmp : m * 2 ^ (8 * k) ≤ 255 * 2 ^ 56 := Nat.mul_le_mul hm hp
  rw [e, e']
  generalize 8 * k = j at *
  have hw : IntKind.u64.wrap ((m : Int) * ((2 ^ j : Nat) : Int)) = ((m * 2 ^ j : Nat) : Int) := by
    unfold IntKind.wrap IntKind.signed IntKind.bits
    simp only [Bool.false_and, Bool.false_eq_true, if_false]
    rw [← Int.natCast_mul]
    generalize m * 2 ^ j = q at *
    omega
  rw [hw]
  have hor : n ||| m * 2 ^ j = n + m * 2 ^ j := by
    have := Nat.two_pow_add_eq_or_of_lt hn m
    rw [Nat.or_comm, Nat.mul_comm m, ← this, Nat.add_comm]
  have hb : bits BinOp.or IntKind.u64 (n : Int) ((m * 2 ^ j : Nat) : Int) = IntKind.u64.wrap ((BitVec.ofInt 64 (n : Int) ||| BitVec.ofInt 64 ((m * 2 ^ j : Nat) : Int)).toNat : Int) := rfl
  have t : (BitVec.ofInt 64 (n : Int) ||| BitVec.ofInt 64 ((m * 2 ^ j : Nat) : Int)).toNat = n + m * 2 ^ j := by
    rw [BitVec.toNat_or, BitVec.ofInt_natCast, BitVec.ofInt_natCast, BitVec.toNat_ofNat, BitVec.toNat_ofNat, Nat.mod_eq_of_lt (by omega), Nat.mod_eq_of_lt (by omega), hor]
  rw [hb, t]
  unfold IntKind.wrap IntKind.signed IntKind.bits
  simp only [Bool.false_and, Bool.false_eq_true, if_false]
  rw [← Int.natCast_mul]
  generalize m * 2 ^ j = q at *
  omega
theorem journal_get (v : Value) (xs : List Int) (w : World) (hs : Sl w v xs) (h8 : 8 ≤ xs.length) (hb : ∀ x ∈ xs, 0 ≤ x ∧ x ≤ 255) :
    Calls Tryz.prog 172 #[v] w fun e w' => e = .returned (.int .u64 (le 8 xs)) ∧ w = w' := by
  obtain ⟨A, c, rfl, h1, h2, h3⟩ := hs
  obtain ⟨ad, rfl, h4⟩ := h3 (by rintro rfl; simp at h8)
  have H4 := Lib.hid h4
  have Hb := Lib.hid hb
  clear h4 h3 hb
  go_enter Tryz.func172, Tryz.ntmps172
  go_wp2
  go_loop [3, 5] (fun n i => ∃ k : Nat, k ≤ 8 ∧ i = .int .i64 k ∧ n = .int .u64 (le k xs)) (fun _ i => 8 - (intOf i).toNat)
  case atStart => exact ⟨0, Nat.zero_le _, rfl, rfl⟩
  case round =>
    obtain ⟨k, hk, rfl, rfl⟩ := hrel
    by_cases hlt : k < 8
    · have hkx : k < xs.length := by omega
      have hc : w.cell? (ad.add k) = some (.int .u8 (xs.getD k 0)) := H4.out k _ (by simp [bs, List.getD_eq_getElem?_getD, hkx])
      have hbk := Hb.out (xs.getD k 0) (by simp [List.getD_eq_getElem?_getD, hkx])
      have hr := le_range k xs Hb.out
      generalize hxx : xs.getD k 0 = x at hc hbk
      have hor : le (k + 1) xs = bits BinOp.or IntKind.u64 (le k xs) (IntKind.u64.wrap (x * 2 ^ (8 * k))) := by
        rw [bits_or_le k _ _ hlt hr.1 hr.2 hbk]; simp only [le, hxx]
      have HO := Lib.hid hor
      clear hor hxx hr
      go_wp2
      go_round
      case rel => exact ⟨k + 1, by omega, by go_num, by rw [HO.out]⟩
      case measure => simp [intOf]; omega
    · go_wp2
      go_ret
      obtain rfl : k = 8 := by omega
      exact ⟨rfl, rfl⟩
end Go.Proofs.YthjbpbahcemfgaaGreatDoor
namespace Go.Proofs.YthjbpbahcemfgaaGreatDoor
open Go.RowKit
set_option maxHeartbeats 1000000
set_option maxRecDepth 20000

/-- A head that is no journal's. -/
def Blank (xs : List Int) : Prop := xs.length = 128 ∧ (∀ x ∈ xs, 0 ≤ x ∧ x ≤ 255) ∧ ¬ (str (xs.take 8)).toList = [99, 114, 101, 100, 101, 110, 122, 97]
theorem blank_zs : Blank (zs 128) := by
  refine ⟨by simp, fun x hx => ?_, fun h => ?_⟩
  · rw [zs, List.mem_replicate] at hx; omega
  · revert h
    decide +kernel

theorem journal_group_blank {w : World} {bj bd at_ most : Nat} {D : DSt} {F : Nat → Prop} (hj : JBlk w bj bd at_ most) (h : DRep w bd D F) (hi : at_ < D.n) (hd : D.dead = false) (hb : Blank (D.row at_)) :
    Calls Tryz.prog 142 #[.pointer (some ⟨bj, 0, none⟩)] w fun e w' => e = .returned (.tuple #[.slice none 0 0, .nilIface]) ∧ Kp (fun _ => False) w w' := by
  have c0 := cell_blk hj 0
  have c1 := cell_blk hj 1
  simp at c0 c1
  obtain ⟨hb1, hb2, hb3⟩ := hb
  have Hb2 := Lib.hid hb2
  have Hb1 := Lib.hid hb1
  have hR := fun (W : World) (hk : Kp (fun _ => False) w W) => disk_Read_ok (h.kp0 hk) at_ (by omega) (by omega) hd
  simp only [Int.toNat_natCast] at hR
  have HR := Lib.hid hR
  clear hj h hd hb1 hb2 hR
  go_enter Tryz.func142, Tryz.ntmps142
  go_wp2_with fail
  go_region_held3 (fun W => W.cell? ⟨bj, 0, none⟩ = some (.pointer (some ⟨bd, 0, none⟩)) ∧ W.cell? ⟨bj, 1, none⟩ = some (.int .i64 at_))
    (first | go_keep | exact ⟨hk1.cell (by assumption) (fun h => h), hk1.cell (by assumption) (fun h => h)⟩)
    (first | (go_at_call 154; refine (HR.out _ (Kp.refl _ _).drew).mono ?_; rintro e w1 ⟨rfl, hr1, hk1⟩))
  go_wp2_with fail
  have hsl : Sl w1 (.slice (some ⟨w.heap.size, 0, none⟩) 128 128) (D.row at_) := by
    have := hr1.sl (by rw [Hb1.out]; simp [maxLen])
    rw [Hb1.out] at this; exact this
  have hcv := conv_str (hsl.take (m := 8) (by rw [Hb1.out]; omega))
  have Hsl := Lib.hid hsl
  clear hsl hr1
  refine (journal_get _ _ _ (Hsl.out.drop (m := 8) (by rw [Hb1.out]; omega) (by omega)) (by rw [List.length_drop, Hb1.out]; omega) (fun x hx => Hb2.out x (List.mem_of_mem_drop hx))).mono ?_
  rintro e w2 ⟨rfl, rfl⟩
  generalize le 8 ((D.row at_).drop 8) = q
  go_wp2_with fail
  go_ret2
  exact ⟨rfl, (Kp.drew (Kp.refl _ _)).trans hk1 (Gr.refl _ _)⟩

theorem journal_replay_blank {w : World} {bj bd at_ most : Nat} {D : DSt} {F : Nat → Prop} (hj : JBlk w bj bd at_ most) (h : DRep w bd D F) (hi : at_ < D.n) (hd : D.dead = false) (hb : Blank (D.row at_)) :
    Calls Tryz.prog 117 #[.pointer (some ⟨bj, 0, none⟩)] w fun e w' => e = .returned .nilIface ∧ Kp (fun _ => False) w w' := by
  have H := Lib.hid (journal_group_blank hj h hi hd hb)
  clear hj h hd hb
  go_enter Tryz.func117, Tryz.ntmps117
  go_wp2_with fail
  refine H.out.mono ?_
  rintro e w1 ⟨rfl, hk⟩
  go_wp2_with fail
  go_ret
  exact ⟨rfl, hk⟩

theorem journal_Open_blank {w : World} {bd at_ most : Nat} {D : DSt} {F : Nat → Prop} (h : DRep w bd D F) (hm1 : 1 ≤ most) (hm2 : most ≤ 200) (hi : at_ + need most ≤ D.n) (hd : D.dead = false) (hb : Blank (D.row at_)) :
    Calls Tryz.prog 71 #[.pointer (some ⟨bd, 0, none⟩), .int .i64 at_, .int .i64 most] w fun e w' => ∃ bj, e = .returned (.tuple #[.pointer (some ⟨bj, 0, none⟩), .nilIface]) ∧ JBlk w' bj bd at_ most ∧ Kp (fun _ => False) w w' ∧ w.heap.size ≤ bj := by
  have hneed : 3 ≤ need most := by unfold need; omega
  have hn2 := h.few
  have H := Lib.hid h
  have Hd := Lib.hid hd
  have Hb := Lib.hid hb
  clear h hd hb
  go_enter Tryz.func71, Tryz.ntmps71
  go_wp2_with (first | (go_at_call 115; refine (disk_Blocks H.out).mono ?_; rintro e w1 ⟨rfl, rfl⟩) | (go_at_call 116; refine (journal_Need _ hm1 (by omega)).mono ?_; rintro e w1 ⟨rfl, rfl⟩) | (go_at_call 117; refine (journal_replay_blank (new_blk _ _) (H.out.kp0 ((Kp.refl _ _).alloc _)) (by omega) Hd.out Hb.out).mono ?_; rintro e w1 ⟨rfl, hk⟩))
  go_ret2
  exact ⟨w.heap.size, rfl, hk.blk (new_blk _ _) (fun h => h), ((Kp.refl _ _).alloc _).trans hk (Gr.refl _ _), Nat.le_refl _⟩
end Go.Proofs.YthjbpbahcemfgaaGreatDoor
