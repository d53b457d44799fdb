/- The statements' own texts; strings as rows of bytes. -/
import Derived.Test.YthjbpbahcemfgaaGreatDoorInoN
import Derived.Lib.ConvBytes
namespace Go.Proofs.YthjbpbahcemfgaaGreatDoor
open Go.RowKit
set_option maxHeartbeats 2000000
set_option maxRecDepth 20000

theorem str_size (d : List Int) : (str d).size = d.length := by
  have h : (str d).data.toList.length = d.length := by rw [str_list, List.length_map]
  show (str d).data.size = d.length
  rw [← Array.length_toList]; exact h
theorem ba_ext {a b : ByteArray} (h : a.data.toList = b.data.toList) : a = b := by
  apply ByteArray.ext
  exact Array.ext' h
theorem str_app (a b : List Int) : str a ++ str b = str (a ++ b) := by
  apply ba_ext
  rw [str_list]
  simp [str_list]
theorem str_cut (d : List Int) (i j : Nat) : (str d).extract i j = str ((d.drop i).take (j - i)) := by
  apply ba_ext
  rw [str_list]
  simp [str_list, List.map_take, List.map_drop]
theorem str_nil : str [] = ByteArray.empty := rfl

/-- So many bytes by a number. -/
def textL (n k : Nat) : List Int := (List.range k).map fun j => (((n + 3 * j) % 256 : Nat) : Int)
@[simp] theorem textL_length (n k : Nat) : (textL n k).length = k := by simp [textL]
theorem textL_byt (n k : Nat) : Byt (textL n k) := by
  intro x hx
  simp only [textL, List.mem_map, List.mem_range] at hx
  obtain ⟨j, _, rfl⟩ := hx
  omega
def tpart (n k i : Nat) : List Int := (List.range k).map fun j => if j < i then (((n + 3 * j) % 256 : Nat) : Int) else 0
theorem tpart_zero (n k : Nat) : tpart n k 0 = zs k := by
  unfold tpart zs
  rw [List.eq_replicate_iff]
  refine ⟨by simp, fun b hb => ?_⟩
  simp at hb
  exact hb.2.symm ▸ rfl
theorem tpart_all (n k : Nat) : tpart n k k = textL n k := by
  unfold tpart textL
  refine List.map_congr_left fun j hj => ?_
  rw [if_pos (List.mem_range.1 hj)]
@[simp] theorem tpart_length (n k i : Nat) : (tpart n k i).length = k := by simp [tpart]
theorem tpart_set (n k i : Nat) : (tpart n k i).set i (((n + 3 * i) % 256 : Nat) : Int) = tpart n k (i + 1) := by
  apply List.ext_getElem
  · simp
  · intro j h1 h2
    simp only [tpart, List.getElem_set, List.getElem_map, List.getElem_range]
    by_cases e : i = j
    · subst e; rw [if_pos rfl, if_pos (by omega)]
    · rw [if_neg e]
      by_cases hj : j < i
      · rw [if_pos hj, if_pos (by omega)]
      · rw [if_neg hj, if_neg (by omega)]
theorem text_ok {w : World} (n k : Nat) (hn : n ≤ 1000) (hk : k ≤ 5000) :
    Calls Tryz.prog 24 #[.int .i64 n, .int .i64 k] w fun e w' => e = .returned (.string (str (textL n k))) ∧ Kp (fun _ => False) w w' := by
  obtain ⟨N, hN⟩ : ∃ N, N = w.heap.size := ⟨_, rfl⟩
  have HN := Lib.hid hN
  clear hN
  go_enter Tryz.func24, Tryz.ntmps24
  go_wp2_with (first | (at_make; refine wpList_makeNg rfl _ _ rfl k rfl rfl (by omega) N HN.out.symm ?_; intro w1 hk1 hr1 hz1; have Hr1 := Lib.hid hr1; have Hk1 := Lib.hid hk1; clear hr1 hk1 hz1))
  go_loopw [11] (fun x wr => ∃ i : Nat, x = .int .i64 (i : Nat) ∧ i ≤ k ∧ RowE wr N (tpart n k i) ∧ Kp (fun _ => False) w wr) (fun x _ => k - (intOf x).toNat)
  case atStart => exact ⟨0, rfl, Nat.zero_le _, by rw [tpart_zero]; exact Hr1.out, Hk1.out⟩
  case round =>
    obtain ⟨i, rfl, hik, hr, hkp⟩ := hrel
    have Hr := Lib.hid hr
    have Hkp := Lib.hid hkp
    clear hr hkp
    by_cases hlt : i < k
    · have hlt' : (i : Int) < (k : Int) := by omega
      have c0 := Hr.out.cellD i (by simpa using hlt)
      have f0 := frozen_blk Hr.out i
      go_wp2_with fail
      have hrow := Hr.out.set1 i (((n + 3 * i) % 256 : Nat) : Int)
      rw [tpart_set] at hrow
      have e1 : (((n + 3 * i) % 256 : Nat) : Int) = ((n : Int) + 3 * (i : Int)) % 256 := by omega
      rw [e1] at hrow
      have Hrow := Lib.hid hrow
      have Hk2 := Lib.hid (Hkp.out.over (Kp.setCell (F := fun j => j = N) (p := ⟨N, i, none⟩) (Kp.refl _ wr) (.inl rfl) (.int .u8 (((n : Int) + 3 * (i : Int)) % 256))) (fun j e => by have : j = N := e; have := HN.out; omega))
      clear hrow e1 c0 f0
      go_roundw
      case rel => exact ⟨i + 1, by go_num, by omega, Hrow.out, Hk2.out⟩
      case measure => simp [intOf]; omega
    · have hge : ¬ (i : Int) < (k : Int) := by omega
      obtain rfl : i = k := by omega
      rw [tpart_all] at Hr
      have hcv := conv_str (Hr.out.sl (by rw [textL_length]; unfold maxLen; omega))
      rw [textL_length] at hcv
      go_wp2_with fail
      go_ret
      exact ⟨rfl, Hkp.out⟩
/-- Bytes, and noughts behind them up to a length. -/
def grownL (d : List Int) (k : Nat) : List Int := if k ≤ d.length then d else d ++ zs (k - d.length)
theorem grown_ok {w : World} (d : List Int) (k : Nat) (hd : d.length ≤ 10000) (hk : k ≤ 10000) :
    Calls Tryz.prog 26 #[.string (str d), .int .i64 k] w fun e w' => e = .returned (.string (str (grownL d k))) ∧ Kp (fun _ => False) w w' := by
  have hsz := str_size d
  obtain ⟨N, hN⟩ : ∃ N, N = w.heap.size := ⟨_, rfl⟩
  have HN := Lib.hid hN
  clear hN
  by_cases hle : k ≤ d.length
  · have hle' : (k : Int) ≤ (d.length : Int) := by omega
    have He := Lib.hid (show grownL d k = d from if_pos hle)
    go_enter Tryz.func26, Tryz.ntmps26
    go_wp2_with fail
    go_ret
    exact ⟨by rw [He.out]; rfl, Kp.refl _ _⟩
  · have hle' : ¬ (k : Int) ≤ (d.length : Int) := by omega
    have He := Lib.hid (show str (grownL d k) = str d ++ str (zs (k - d.length)) by rw [str_app]; unfold grownL; rw [if_neg hle])
    obtain ⟨M, hM⟩ : ∃ M, M = k - d.length := ⟨_, rfl⟩
    rw [← hM] at He
    have e1 : (k : Int) - (d.length : Int) = (M : Int) := by omega
    have hM4 : M ≤ 10000 := by omega
    have hszM : (str (zs M)).size = M := by rw [str_size, zs_length]
    clear hM
    go_enter Tryz.func26, Tryz.ntmps26
    go_wp2_with (first | (at_make; refine wpList_makeNg rfl _ _ rfl M rfl rfl (by omega) N HN.out.symm ?_; intro w1 hk1 hr1 hz1; have Hk1 := Lib.hid hk1; have hcv := conv_str (hr1.sl (by rw [zs_length]; unfold maxLen; omega)); rw [zs_length] at hcv; clear hr1 hk1 hz1))
    go_ret
    exact ⟨by rw [He.out]; rfl, Hk1.out⟩
/-- Only where the next operation makes bytes of a string. -/
theorem at_convS {P : Program} {w : World} {ops : Array Oper} {rest : List Oper} {o : Oper} {a : Act} {Q : Exit → Act → World → Prop} {x : Operand}
    (_ho : o.op = .convert 9 52 x) (h : wpList P ops Q (o :: rest) a w) : wpList P ops Q (o :: rest) a w := h
theorem wpList_convS {ops : Array Oper} {rest : List Oper} {o : Oper} {a : Act} {Q : Exit → Act → World → Prop} {w : World} (hgd : o.guard = none) (x : Operand) (ho : o.op = .convert 9 52 x) (ys : List Int) (hx : a.eval x = .string (str ys)) (hb : Byt ys) (hl : ys.length ≤ maxLen)
    (h : ∀ w' c, ys.length ≤ c → Kp (fun _ => False) w w' → Sl w' (.slice (some ⟨w.heap.size, 0, none⟩) ys.length c) ys → wpList Tryz.prog ops Q rest (a.put o.dst (.slice (some ⟨w.heap.size, 0, none⟩) ys.length c)) w') : wpList Tryz.prog ops Q (o :: rest) a w := by
  refine wpList_plain hgd fun K hK => ?_
  have hr := Lib.run_convert_string_bytes (P := Tryz.prog) w 9 52 5 (str ys) Tryz.underlying9 Tryz.underlying52 Tryz.underlying5
  unfold Oper.wp execOp
  simp only [ho, hx, Sem.run_bind, Sem.run_pure, Result.andThen_ok, hr]
  rw [str_size]
  have hc1 := grownCap_ge w ys.length 0 5
  have hc2 := grownCap_le_maxLen w ys.length 0 5 hl
  have hk : Kp (fun _ => False) w (Lib.bytesWorld w 5 (str ys)) :=
    ⟨rfl, rfl, rfl, by rw [Lib.bytesWorld_size]; omega, fun k hk _ => Lib.bytesWorld_at_old w _ _ k hk⟩
  refine hK _ _ (h _ _ hc1 hk ⟨some ⟨w.heap.size, 0, none⟩, _, rfl, hc1, hc2, fun _ => ⟨_, rfl, fun j u hj => ?_⟩⟩)
  obtain ⟨y, hy, rfl⟩ := bs_get _ _ _ hj
  have hlt := (List.getElem?_eq_some_iff.1 hy).1
  rw [add0, Lib.bytesWorld_cell _ _ _ _ (by rw [str_size]; exact hlt), str_list]
  have hyr := hb y (List.mem_of_getElem? hy)
  rw [List.getD_eq_getElem?_getD, List.getElem?_map, hy]
  simp only [Option.map_some, Option.getD_some]
  congr 2
  have : (UInt8.ofNat y.toNat).toNat = y.toNat % 256 := by simp
  omega
theorem and_nat' (z : Int) (m : Nat) (hm : m < 9223372036854775808) : ∃ q : Nat, bits .and .i64 z m = (q : Int) ∧ q ≤ m := by
  have h : (BitVec.ofInt 64 z &&& BitVec.ofInt 64 (m : Int)).toNat ≤ m := by
    rw [BitVec.toNat_and]
    refine Nat.le_trans Nat.and_le_right ?_
    rw [BitVec.toNat_ofInt]; omega
  have e : bits .and .i64 z m = IntKind.i64.wrap ((BitVec.ofInt 64 z &&& BitVec.ofInt 64 (m : Int)).toNat : Int) := rfl
  rw [e, IntWalk.i64_in _ (by omega)]
  exact ⟨_, rfl, h⟩
end Go.Proofs.YthjbpbahcemfgaaGreatDoor
