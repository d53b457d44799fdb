/- Inodes: lists of numbers out of bytes, and bytes out of lists of numbers. -/
import Derived.Test.YthjbpbahcemfgaaGreatDoorInoA
import Derived.Deep.AppendLies
namespace Go.Proofs.YthjbpbahcemfgaaGreatDoor
open Go.RowKit
set_option maxHeartbeats 1000000
set_option maxRecDepth 20000

theorem run_slice_b {w : World} {ad : Addr} {n c k : Nat} {K : Int} (hK : K = (k : Int)) (hk : k ≤ n) (hn : n ≤ c) (hkc : k < c) : (Instr.sliceAt 52 (.slice (some ad) n c) (some (.int .i64 K)) none none).run Tryz.prog w = .ok (.slice (some (ad.add k)) (n - k) (c - k)) w := by
  have := run_slice_lo 52 5 Tryz.underlying52 (Tryz.sizeU8 w) ad n c k hk hn
  rw [if_neg (by omega), Nat.mul_one] at this
  rw [hK]; exact this
theorem slI_new (w : World) (x : Int) : ∀ j u, ([Value.int .i64 x] : List Value)[j]? = some u → (w.alloc (.cells #[.int .i64 x] 3)).cell? ((⟨w.heap.size, 0, none⟩ : Addr).add j) = some u := fun j u hj => by
  rw [add0, cell_blk (new_blk w _)]
  cases j with
  | zero => simpa using hj
  | succ j => simp at hj
theorem ints_natI (l : List Nat) (k : Nat) : (ints (natI l))[k]? = (l[k]?).map fun (n : Nat) => Value.int .i64 (n : Int) := by
  simp [ints, natI]; rfl
theorem inode_list {w : World} (v : Value) (ys : List Int) (hs : Sl w v ys) (n : Nat) (hn : 2 * n ≤ ys.length) (h128 : ys.length ≤ 128) (hb : Byt ys) :
    Calls Tryz.prog 121 #[v, .int .i64 n] w fun e w' => ∃ v', e = .returned v' ∧ w'.ownsRow w.heap.size 3 1 v' n (ints (lst ys 0 n)) ∧ Kp (fun _ => False) w w' := by
  obtain ⟨A, c, rfl, h1, hc, h3⟩ := id hs
  have Hs := Lib.hid hs
  have Hb := Lib.hid hb
  obtain ⟨i0, hi, hz, hsz, hby⟩ := info_parts Tryz.infoInt
  clear h3 hs hb
  go_enter Tryz.func121, Tryz.ntmps121
  go_wp2_with fail
  go_loopw [5, 8] (fun o c wr => ∃ k : Nat, k ≤ n ∧ c = .int .i64 k ∧ wr.ownsRow w.heap.size 3 1 o k (ints (lst ys 0 k)) ∧ Kp (fun _ => False) w wr) (fun _ c _ => n - (intOf c).toNat)
  case atStart => exact ⟨0, Nat.zero_le _, rfl, World.ownsRow_nil _ _ _ _, Kp.refl _ _⟩
  case round =>
    obtain ⟨k, hk, rfl, hown, hkp⟩ := hrel
    have Hown := Lib.hid hown
    have Hkp := Lib.hid hkp
    clear hown hkp
    by_cases hlt : k < n
    · have hlt' : (k : Int) < (n : Int) := by omega
      obtain ⟨ad, rfl, h4⟩ : ∃ ad, A = some ad ∧ ∀ j u, (bs ys)[j]? = some u → w.cell? (ad.add j) = some u := by
        obtain ⟨A', c', e, _, _, h3⟩ := Hs.out
        obtain ⟨ad, e2, h4⟩ := h3 (by rintro rfl; simp at hn; omega)
        simp only [Value.slice.injEq] at e
        obtain ⟨rfl, _, _⟩ := e
        exact ⟨ad, e2, h4⟩
      clear h4
      have Hsl := Lib.hid ((Hs.out.drop (m := 2 * k) (by omega) (by omega)).kp Hkp.out (fun _ _ h => h))
      have Hnum := Lib.hid (show num2 (ys.drop (2 * k)) 0 = num2 ys (0 + 2 * k) by rw [num2_drop]; congr 1; omega)
      have Hsucc := Lib.hid (lst_succ ys 0 k)
      go_wp2_with (first
        | ((with_reducible refine at_slice rfl ?_); refine wpList_slice_run rfl _ _ _ _ _ rfl _ _ _ _ _ rfl rfl rfl rfl (run_slice_b (k := 2 * k) (by omega) (by omega) (by omega) (by omega)) ?_)
        | (go_at_call 120; refine (inode_number _ _ Hsl.out (by rw [List.length_drop]; omega) (fun x hx => Hb.out x (List.mem_of_mem_drop hx))).mono ?_; rintro e w1 ⟨rfl, q, hq⟩; have hkq := Lib.hid (show Kp (fun _ => False) wr w1 by rw [hq]; exact (Kp.refl _ wr).drewN q); clear hq)
        | (at_builtin; refine wpList_append_lies _ rfl _ _ 92 rfl w.heap.size 3 i0 (.int .i64 0) 1 8 Tryz.underlying92 hi hz hsz hby rfl (by decide) _ _ _ rfl (World.ownsRow.alloc (w := w1) (own_kp0 Hown.out hkq.out) _) ⟨w1.heap.size, 0, none⟩ 1 1 [.int .i64 (num2 (ys.drop (2 * k)) 0)] rfl rfl (slI_new w1 _) (by simp [Value.oneCell']) (by omega) (by unfold maxLen; omega) (by omega) (by have := Hkp.out.size; have := hkq.out.size; have := size_alloc w1 (.cells #[.int .i64 (num2 (ys.drop (2 * k)) 0)] 3); omega) _ rfl ?_; intro g2 cap2 w2 hown2 hgr2 hat2 hlt2))
      have ho2 : w2.ownsRow w.heap.size 3 1 (.slice (some ⟨g2, 0, none⟩) (k + 1) cap2) (k + 1) (ints (lst ys 0 (k + 1))) := by
        rw [Hsucc.out, ints_app, ← Hnum.out]; exact hown2
      have hk2 : Kp (fun _ => False) w w2 := (Kp.alloc (Kp.trans Hkp.out hkq.out (Gr.refl _ _)) _).grown hgr2 (fun r hr => .inr (World.ownsRow.lt Hown.out r hr).1)
      have HO2 := Lib.hid ho2
      have HK2 := Lib.hid hk2
      clear hown2 ho2 hk2 hgr2
      go_roundw
      case rel => exact ⟨k + 1, by omega, by go_num, HO2.out, HK2.out⟩
      case measure => simp [intOf]; omega
    · have hkn : k = n := by omega
      subst hkn
      go_wp2_with fail
      go_ret
      exact ⟨_, rfl, Hown.out, Hkp.out⟩
theorem sl_two (w : World) (x y : Int) : ∀ j u, ([Value.int .u8 x, Value.int .u8 y] : List Value)[j]? = some u → (w.alloc (.cells #[.int .u8 x, .int .u8 y] 5)).cell? ((⟨w.heap.size, 0, none⟩ : Addr).add j) = some u := fun j u hj => by
  rw [add0, cell_blk (new_blk w _)]
  match j with
  | 0 => simpa using hj
  | 1 => simpa using hj
  | j + 2 => simp at hj
theorem numB_take (l : List Nat) (k : Nat) (x : Nat) (h : l[k]? = some x) : numB (l.take (k + 1)) = numB (l.take k) ++ [((x % 256 : Nat) : Int), ((x / 256 % 256 : Nat) : Int)] := by
  rw [List.take_add_one, h, numB_app]; rfl
theorem inode_numbers {w : World} (v : Value) (l : List Nat) (hs : SlI w v (natI l)) (hl : l.length ≤ 64) (h16 : ∀ b ∈ l, b < 65536) :
    Calls Tryz.prog 95 #[v] w fun e w' => ∃ v', e = .returned v' ∧ w'.ownsRow w.heap.size 5 1 v' (2 * l.length) (bs (numB l)) ∧ Kp (fun _ => False) w w' := by
  obtain ⟨A, c, rfl, h1, hc, h3⟩ := id hs
  have Hs := Lib.hid hs
  have H16 := Lib.hid h16
  obtain ⟨i0, hi, hz, hsz, hby⟩ := info_parts Tryz.infoU8
  rw [natI_length] at h1
  have e1 : (natI l).length = l.length := natI_length l
  rw [e1]
  clear h3 hs h16 e1
  generalize hn : l.length = n at *
  have Hn := Lib.hid hn
  clear hn
  go_enter Tryz.func95, Tryz.ntmps95
  go_wp2_with fail
  go_loopw [3, 8] (fun o c wr => ∃ k : Nat, k ≤ n ∧ c = .int .i64 k ∧ wr.ownsRow w.heap.size 5 1 o (2 * k) (bs (numB (l.take k))) ∧ Kp (fun _ => False) w wr) (fun _ c _ => n - (intOf c).toNat)
  case atStart => exact ⟨0, Nat.zero_le _, rfl, World.ownsRow_nil _ _ _ _, Kp.refl _ _⟩
  case round =>
    obtain ⟨k, hk, rfl, hown, hkp⟩ := hrel
    have Hown := Lib.hid hown
    have Hkp := Lib.hid hkp
    clear hown hkp
    by_cases hlt : k < n
    · have hlt' : (k : Int) < (n : Int) := by omega
      obtain ⟨x, hx⟩ : ∃ x, l[k]? = some x := ⟨l[k]'(by have := Hn.out; omega), List.getElem?_eq_getElem _⟩
      have hx16 := H16.out x (List.mem_of_getElem? hx)
      obtain ⟨ad, rfl, h4⟩ : ∃ ad, A = some ad ∧ wr.cell? (ad.add k) = some (.int .i64 (x : Int)) := by
        obtain ⟨A', c', e, _, _, h3⟩ := Hs.out
        obtain ⟨ad, e2, h4⟩ := h3 (by intro h0; have h0 := congrArg List.length h0; rw [natI_length, Hn.out] at h0; simp only [List.length_nil] at h0; omega)
        simp only [Value.slice.injEq] at e
        obtain ⟨rfl, _, _⟩ := e
        exact ⟨ad, e2, Hkp.out.cell (h4 k _ (by rw [ints_natI, hx]; rfl)) (fun h => h)⟩
      have Htk := Lib.hid (numB_take l k x hx)
      clear hx
      go_wp2_with (first
        | (at_builtin; refine wpList_append_lies _ rfl _ _ 52 rfl w.heap.size 5 i0 (.int .u8 0) 1 1 Tryz.underlying52 hi hz hsz hby rfl (by decide) _ _ _ rfl (World.ownsRow.alloc (w := wr) Hown.out _) ⟨wr.heap.size, 0, none⟩ 2 2 [.int .u8 ((x : Int) % 256), .int .u8 ((x : Int) / 256)] rfl rfl (sl_two wr _ _) (by simp [Value.oneCell']) (by omega) (by unfold maxLen; omega) (by omega) (by have := Hkp.out.size; have := size_alloc wr (.cells #[.int .u8 ((x : Int) % 256), .int .u8 ((x : Int) / 256)] 5); omega) _ rfl ?_; intro g2 cap2 w2 hown2 hgr2 hat2 hlt2))
      have ho2 : w2.ownsRow w.heap.size 5 1 (.slice (some ⟨g2, 0, none⟩) (2 * k + 2) cap2) (2 * (k + 1)) (bs (numB (l.take (k + 1)))) := by
        have e1 : ((x % 256 : Nat) : Int) = (x : Int) % 256 := by omega
        have e2 : ((x / 256 % 256 : Nat) : Int) = (x : Int) / 256 := by omega
        rw [Htk.out, bs_app, e1, e2]; exact hown2
      have hk2 : Kp (fun _ => False) w w2 := (Kp.alloc Hkp.out _).grown hgr2 (fun r hr => .inr (World.ownsRow.lt Hown.out r hr).1)
      have HO2 := Lib.hid ho2
      have HK2 := Lib.hid hk2
      clear hown2 ho2 hk2 hgr2
      go_roundw
      case rel => exact ⟨k + 1, by omega, by go_num, HO2.out, HK2.out⟩
      case measure => simp [intOf]; omega
    · have hkn : k = n := by omega
      subst hkn
      go_wp2_with fail
      go_ret
      refine ⟨_, rfl, ?_, Hkp.out⟩
      have := Hown.out
      rw [← Hn.out, List.take_length] at this
      rw [← Hn.out]
      exact this
end Go.Proofs.YthjbpbahcemfgaaGreatDoor
