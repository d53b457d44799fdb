/- Which blocks are taken: the small functions. -/
/- Which blocks are taken: the bytes of a map. -/
import Derived.Test.YthjbpbahcemfgaaGreatDoorCacheW
import Derived.Deep.AppendLies
namespace Go.Proofs.YthjbpbahcemfgaaGreatDoor
open Go.RowKit
set_option maxHeartbeats 1000000
set_option maxRecDepth 20000

/-- A map of blocks in memory. -/
def MBlk (w : World) (bx bc at_ from_ n : Nat) : Prop :=
  w.heap[bx]? = some (.cells #[.pointer (some ⟨bc, 0, none⟩), .int .i64 at_, .int .i64 from_, .int .i64 n] 104 (0, 0))

theorem alloc_New_ok {w : World} (bc : Nat) (a f n : Int) (h1 : 1 ≤ n) (h2 : n ≤ 2048) (h3 : 0 ≤ a) (h4 : 0 ≤ f) :
    Calls Tryz.prog 35 #[.pointer (some ⟨bc, 0, none⟩), .int .i64 a, .int .i64 f, .int .i64 n] w fun e w' => e = .returned (.tuple #[.pointer (some ⟨w.heap.size, 0, none⟩), .nilIface]) ∧ MBlk w' w.heap.size bc a.toNat f.toNat n.toNat ∧ Kp (fun _ => False) w w' := by
  obtain ⟨a, rfl⟩ := Int.eq_ofNat_of_zero_le h3
  obtain ⟨f, rfl⟩ := Int.eq_ofNat_of_zero_le h4
  obtain ⟨n, rfl⟩ := Int.eq_ofNat_of_zero_le (show 0 ≤ n by omega)
  go_enter Tryz.func35, Tryz.ntmps35
  go_wp2
  go_ret2
  exact ⟨rfl, new_blk w _, (Kp.refl _ w).alloc _⟩

theorem alloc_there {w : World} {bx bc at_ from_ n : Nat} (h : MBlk w bx bc at_ from_ n) (no : Int) (h1 : from_ ≤ no) (h2 : no < from_ + n) (hb : (from_ : Int) + n ≤ 9223372036854775807) :
    Calls Tryz.prog 100 #[.pointer (some ⟨bx, 0, none⟩), .int .i64 no] w fun e w' => e = .returned (.tuple #[.int .i64 (no - from_), .bool true]) ∧ ∃ k, w' = w.drewN k := by
  have c2 := cell_blk h 2
  have c3 := cell_blk h 3
  simp at c2 c3
  clear h
  go_enter Tryz.func100, Tryz.ntmps100
  go_wp2_with fail
  go_quiet (fail)
  go_wp2
  have hd : decide (no - (from_ : Int) < (n : Int)) = true := by simp; omega
  go_ret2
  exact ⟨by simp [hd], _, rfl⟩

/-- A bit of a byte; a byte with a bit turned. -/
def bitB (x : Int) (k : Nat) : Bool := bits BinOp.and IntKind.u8 (x / 2 ^ k) 1 == 1
def xb (x : Int) (k : Nat) : Int := bits BinOp.xor IntKind.u8 x (2 ^ k % 256)
theorem xb_fin : ∀ x : Fin 256, ∀ k : Fin 8, (0 ≤ xb (x.1 : Int) k.1 ∧ xb (x.1 : Int) k.1 ≤ 255) ∧ ∀ j : Fin 8, bitB (xb (x.1 : Int) k.1) j.1 = if j = k then !(bitB (x.1 : Int) j.1) else bitB (x.1 : Int) j.1 := by decide +kernel
theorem xb_range {x : Int} {k : Nat} (hx : 0 ≤ x ∧ x ≤ 255) (hk : k < 8) : 0 ≤ xb x k ∧ xb x k ≤ 255 := by
  have := (xb_fin ⟨x.toNat, by omega⟩ ⟨k, hk⟩).1
  simp only [Int.toNat_of_nonneg hx.1] at this; exact this
theorem xb_bit {x : Int} {k j : Nat} (hx : 0 ≤ x ∧ x ≤ 255) (hk : k < 8) (hj : j < 8) : bitB (xb x k) j = if j = k then !(bitB x j) else bitB x j := by
  have := (xb_fin ⟨x.toNat, by omega⟩ ⟨k, hk⟩).2 ⟨j, hj⟩
  simp only [Int.toNat_of_nonneg hx.1, Fin.mk.injEq] at this; exact this
theorem zero_bit : ∀ k : Fin 8, bitB 0 k.1 = false := by decide +kernel
/-- The i-th bit of bytes. -/
def bitAt (xs : List Int) (i : Nat) : Bool := bitB (xs.getD (i / 8) 0) (i % 8)
def Byt (xs : List Int) : Prop := ∀ x ∈ xs, 0 ≤ x ∧ x ≤ 255
theorem Byt.getD {xs : List Int} (h : Byt xs) (i : Nat) : 0 ≤ xs.getD i 0 ∧ xs.getD i 0 ≤ 255 := by
  rw [List.getD_eq_getElem?_getD]
  cases hx : xs[i]? with
  | none => simp
  | some x => exact h x (List.mem_of_getElem? hx)

theorem alloc_is {w : World} (v : Value) (xs : List Int) (i : Nat) (hs : Sl w v xs) (h8 : i / 8 < xs.length) (hb : Byt xs) :
    Calls Tryz.prog 83 #[v, .int .i64 i] w fun e w' => e = .returned (.bool (bitAt xs i)) ∧ w = w' := by
  obtain ⟨A, c, rfl, h1, h2, h3⟩ := hs
  obtain ⟨ad, rfl, h4⟩ := h3 (by rintro rfl; simp at h8)
  have hc : w.cell? (ad.add (i / 8)) = some (.int .u8 (xs.getD (i / 8) 0)) := h4 (i / 8) _ (by simp [bs, List.getD_eq_getElem?_getD, h8])
  have hbk := hb.getD (i / 8)
  have e : bitAt xs i = bitB (xs.getD (i / 8) 0) (i % 8) := rfl
  generalize xs.getD (i / 8) 0 = x at hc hbk e
  have hi8 : (i : Int) / 8 < (xs.length : Int) := by omega
  have E := Lib.hid e
  clear h4 h3 hb e
  unfold maxLen at h2
  have hq : ((i : Int) / 8).toNat = i / 8 := by omega
  go_enter Tryz.func83, Tryz.ntmps83
  go_wp2
  go_ret
  exact ⟨by rw [E.out]; rfl, rfl⟩

theorem sl_one (w : World) (y : Int) : Sl (w.alloc (.cells #[.int .u8 y] 5)) (.slice (some ⟨w.heap.size, 0, none⟩) 1 1) [y] :=
  (RowE.sl (xs := [y]) (new_blk w _) (by simp [maxLen]))
theorem alloc_turn_ok {w : World} {bx bc bj bm bd at_ from_ nn : Nat} {C : CSt} {F : Nat → Prop} (hm : MBlk w bx bc at_ from_ nn) (hx : ¬ F bx) (h : CRep w bc bj bm bd C F) (hd : C.D.dead = false) (v : Value) (xs : List Int) (i : Nat) (hs : Sl w v xs) (h8 : i / 8 < xs.length) (hb : Byt xs)
    (hin : at_ + i / 1024 < C.blocks) (hroom : at_ + i / 1024 ∈ C.ch ∨ C.ch.length < C.most) :
    Calls Tryz.prog 127 #[.pointer (some ⟨bx, 0, none⟩), v, .int .i64 i] w fun e w' => e = .returned .nilIface ∧
      ∃ F', CRep w' bc bj bm bd (C.wr (at_ + i / 1024) (i / 8 % 128) [xb (xs.getD (i / 8) 0) (i % 8)]) F' ∧ Kp F w w' ∧ Gr F F' w.heap.size := by
  obtain ⟨A, c, rfl, h1, h2, h3⟩ := hs
  obtain ⟨ad, rfl, h4⟩ := h3 (by rintro rfl; simp at h8)
  have hc : w.cell? (ad.add (i / 8)) = some (.int .u8 (xs.getD (i / 8) 0)) := h4 (i / 8) _ (by simp [bs, List.getD_eq_getElem?_getD, h8])
  have hbk := hb.getD (i / 8)
  generalize xs.getD (i / 8) 0 = x at hc hbk
  have hxr := xb_range hbk (show i % 8 < 8 by omega)
  have hi8 : (i : Int) / 8 < (xs.length : Int) := by omega
  have hi0 : (0 : Int) ≤ (i : Int) / 8 := by omega
  have hq : ((i : Int) / 8).toNat = i / 8 := by omega
  have c0 := cell_blk hm 0
  have c1 := cell_blk hm 1
  simp at c0 c1
  have hfw := h.disk.few
  have hfew := h.few
  have H := Lib.hid h
  have Hx := Lib.hid hx
  have Hd := Lib.hid hd
  have Hin := Lib.hid hin
  have hin2 : (at_ : Int) + (i : Int) / 1024 < (C.blocks : Int) := by omega
  have Hroom := Lib.hid hroom
  have hbx := lt_blk hm
  have hxe : bits BinOp.xor IntKind.u8 x (2 ^ (i % 8) % 256) = xb x (i % 8) := rfl
  have HXe := Lib.hid hxe
  clear h4 h3 hb hm h hx hd hroom hin hxe
  unfold maxLen at h2
  go_enter Tryz.func127, Tryz.ntmps127
  go_wp2_with fail
  go_quiet (fail)
  go_wp2_with fail
  rw [HXe.out]
  have hi1 : (i : Int) / 8 % 128 < 128 := by omega
  have hi2 : 0 ≤ (i : Int) / 8 % 128 := by omega
  have e1 : ((at_ : Int) + (i : Int) / 1024).toNat = at_ + i / 1024 := by omega
  have e2 : ((i : Int) / 8 % 128).toNat = i / 8 % 128 := by omega
  have E1 := Lib.hid e1
  have E2 := Lib.hid e2
  clear e1 e2
  have q1 : IntKind.i64.wrap ((i : Int) / 1024) = (i : Int) / 1024 := IntWalk.i64_in _ (by omega)
  have q2 : IntKind.i64.wrap ((at_ : Int) + (i : Int) / 1024) = (at_ : Int) + (i : Int) / 1024 := IntWalk.i64_in _ (by omega)
  have q3 : IntKind.i64.wrap ((i : Int) / 8) = (i : Int) / 8 := IntWalk.i64_in _ (by omega)
  have q4 : ((i : Int) / 8).tmod 128 = (i : Int) / 8 % 128 := Int.tmod_eq_emod_of_nonneg (by omega)
  go_region_held3 (fun W => W.cell? ⟨bx, 0, none⟩ = some (.pointer (some ⟨bc, 0, none⟩)) ∧ W.cell? ⟨bx, 1, none⟩ = some (.int .i64 at_))
    (first | go_keep | exact ⟨hk'.cell c0 Hx.out, hk'.cell c1 Hx.out⟩)
    (first | (go_at_call 94; refine (cache_Write_ok (H.out.kp0 (by repeat (first | exact Kp.refl _ _ | refine Kp.alloc ?_ _ | refine Kp.drew ?_ | refine Kp.drewN ?_ _))) Hd.out _ _ (by omega) (by omega) (by omega) _ [xb x (i % 8)] (sl_one _ _) (by simp; omega) (by rw [E1.out]; exact Hroom.out)).mono ?_; rintro e w1 ⟨rfl, F', hr', hk, hg⟩; have hk' : Kp F w w1 := (by refine Kp.trans (F1 := F) ?_ hk (Gr.refl _ _); repeat (first | exact Kp.refl _ _ | refine Kp.alloc ?_ _ | refine Kp.drew ?_ | refine Kp.drewN ?_ _)); have hg' : Gr F F' w.heap.size := hg.mono (by refine Kp.size (F := F) ?_; repeat (first | exact Kp.refl _ _ | refine Kp.alloc ?_ _ | refine Kp.drew ?_ | refine Kp.drewN ?_ _))))
  go_wp2_with fail
  go_ret
  rw [E1.out, E2.out] at hr'
  exact ⟨rfl, F', hr', hk', hg'⟩
end Go.Proofs.YthjbpbahcemfgaaGreatDoor
namespace Go.Proofs.YthjbpbahcemfgaaGreatDoor
open Go.RowKit
set_option maxHeartbeats 1000000
set_option maxRecDepth 20000

theorem own_kp {w w' : World} {F : Nat → Prop} {base e s n : Nat} {v : Value} {xs : List Value} (h : w.ownsRow base e s v n xs) (k : Kp F w w') (hf : ∀ g, v.ownBlock = some g → ¬ F g) : w'.ownsRow base e s v n xs := by
  obtain ⟨h1, h2 | ⟨g, cap, cur, h2, h3, h4, h5⟩⟩ := h
  · exact ⟨h1, .inl h2⟩
  · exact ⟨h1, .inr ⟨g, cap, cur, h2, h3, k.blk h4 (hf g (by rw [h2]; rfl)), h5⟩⟩
theorem own_kp0 {w w' : World} {base e s n : Nat} {v : Value} {xs : List Value} (h : w.ownsRow base e s v n xs) (k : Kp (fun _ => False) w w') : w'.ownsRow base e s v n xs := own_kp h k (fun _ _ h => h)
theorem own_sl {w : World} {base n : Nat} {v : Value} {xs : List Int} (h : w.ownsRow base 5 1 v n (bs xs)) : Sl w v xs ∧ (∀ b, blockOf v = some b → base ≤ b) := by
  by_cases hn : 0 < n
  · obtain ⟨g, c, rfl, hb, hc1, hc2, hr, rfl⟩ := own_row h hn
    exact ⟨hr.sl c hc1 hc2, fun b hb' => by simp [blockOf] at hb'; omega⟩
  · obtain ⟨h1, ⟨rfl, _⟩ | ⟨g, cap, cur, rfl, h3, h4, h5, h6, _⟩⟩ := h
    · have : xs = [] := by apply List.eq_nil_of_length_eq_zero; rw [bs_length] at h1; omega
      subst this; exact ⟨Sl.nil w, fun b hb => by simp [blockOf] at hb⟩
    · have hx : xs = [] := by apply List.eq_nil_of_length_eq_zero; rw [bs_length] at h1; omega
      subst hx
      have : n = 0 := by omega
      subst this
      exact ⟨⟨_, cap, rfl, by simp, h6, fun h => absurd rfl h⟩, fun b hb' => by simp [blockOf] at hb'; omega⟩

/-- A map's bytes; how many blocks they lie in. -/
def mbytes (C : CSt) (at_ : Nat) : Nat → List Int
  | 0 => []
  | k + 1 => mbytes C at_ k ++ C.view (at_ + k)
def nb (n : Nat) : Nat := (n + 1023) / 1024
theorem mbytes_len {C : CSt} {at_ k : Nat} (h : ∀ j, j < k → (C.view (at_ + j)).length = 128) : (mbytes C at_ k).length = 128 * k := by
  induction k with
  | zero => rfl
  | succ k ih => rw [mbytes, List.length_append, ih (fun j hj => h j (by omega)), h k (by omega)]; omega

theorem alloc_bytes_ok {w : World} {bx bc bj bm bd at_ from_ n : Nat} {C : CSt} {F : Nat → Prop} (hm : MBlk w bx bc at_ from_ n) (h : CRep w bc bj bm bd C F) (hd : C.D.dead = false) (hn1 : 1 ≤ n) (hn2 : n ≤ 2048) (hin : at_ + nb n ≤ C.blocks) :
    Calls Tryz.prog 81 #[.pointer (some ⟨bx, 0, none⟩)] w fun e w' => ∃ v, e = .returned (.tuple #[v, .nilIface]) ∧ Sl w' v (mbytes C at_ (nb n)) ∧ Kp (fun _ => False) w w' ∧ (∀ b, blockOf v = some b → w.heap.size ≤ b) := by
  have c0 := cell_blk hm 0
  have c1 := cell_blk hm 1
  have c3 := cell_blk hm 3
  simp at c0 c1 c3
  have hfw := h.disk.few
  have hfew := h.few
  obtain ⟨i0, hi, hz, hsz, hby⟩ := info_parts Tryz.infoU8
  have hvl : ∀ j, j < nb n → (C.view (at_ + j)).length = 128 := fun j hj => h.viewlen (by omega)
  have HR := Lib.hid (fun (W : World) (hk : Kp (fun _ => False) w W) (no : Int) (h0 : 0 ≤ no) (h1 : no < C.blocks) => cache_Read_ok (h.kp0 hk) hd no h0 h1)
  have Hvl := Lib.hid hvl
  have C0 := Lib.hid c0
  have C1 := Lib.hid c1
  have C3 := Lib.hid c3
  have Hin := Lib.hid hin
  have hnb : nb n ≤ 2 ∧ n ≤ 1024 * nb n ∧ 1024 * nb n < n + 1024 := by unfold nb; omega
  generalize hq : nb n = q at *
  clear hm h hd hvl hin hq c0 c1 c3
  go_enter Tryz.func81, Tryz.ntmps81
  go_wp2_with fail
  go_loopw [4, 5] (fun v i wr => ∃ k : Nat, i = .int .i64 k ∧ k ≤ q ∧ wr.ownsRow w.heap.size 5 1 v (128 * k) (bs (mbytes C at_ k)) ∧ Kp (fun _ => False) w wr) (fun _ i _ => q - (intOf i).toNat)
  case atStart => exact ⟨0, rfl, Nat.zero_le _, World.ownsRow_nil _ _ _ _, Kp.refl _ _⟩
  case round =>
    obtain ⟨k, rfl, hk, hown, hkp⟩ := hrel
    have c3 := hkp.cell C3.out (fun h => h)
    have Hown := Lib.hid hown
    have Hkp := Lib.hid hkp
    clear hown hkp
    by_cases hlt : k < q
    · have hk1 : (k : Int) * 1024 < (n : Int) := by omega
      go_wp2_with fail
      have c0 := Hkp.out.cell C0.out (fun h => h)
      have c1 := Hkp.out.cell C1.out (fun h => h)
      have q1 : IntKind.i64.wrap ((at_ : Int) + (k : Int)) = (at_ : Int) + (k : Int) := IntWalk.i64_in _ (by have := Hin.out; omega)
      have hq2 : (at_ : Int) + (k : Int) < C.blocks := by have := Hin.out; omega
      have E1 : Hid (((at_ : Int) + (k : Int)).toNat = at_ + k) := (show ((at_ : Int) + (k : Int)).toNat = at_ + k by omega)
      go_region_held3 (fun W => W.cell? ⟨bx, 0, none⟩ = some (.pointer (some ⟨bc, 0, none⟩)) ∧ W.cell? ⟨bx, 1, none⟩ = some (.int .i64 at_))
        (first | go_keep | exact ⟨hk'.cell C0.out (fun h => h), hk'.cell C1.out (fun h => h)⟩)
        (first | (go_at_call 96; refine (HR.out _ (Kp.drew Hkp.out) _ (by omega) (by omega)).mono ?_; rintro e w1 ⟨g, rfl, hrow, hk1, hg⟩; have hk' : Kp (fun _ => False) w w1 := (Kp.drew Hkp.out).trans hk1 (Gr.refl _ _)))
      clear q1
      have hown1 := own_kp0 Hown.out ((Kp.drew (Kp.refl _ wr)).trans hk1 (Gr.refl _ _))
      rw [E1.out] at hrow
      have hsl := hrow.cells
      have hl := Hvl.out k hlt
      have HL := Lib.hid hl
      have HS := Lib.hid hsl
      have HO := Lib.hid hown1
      have HK := Lib.hid hk'
      clear hown1 hsl hrow hk' hl hk1 c0 c1 c3
      go_wp2_with (at_builtin; refine wpList_append_lies _ rfl _ _ 52 rfl w.heap.size 5 i0 (.int .u8 0) 1 1 Tryz.underlying52 hi hz hsz hby rfl (by decide) _ _ _ rfl HO.out ⟨g, 0, none⟩ 128 128 (bs (C.view (at_ + k))) rfl (by rw [bs_length, HL.out]) HS.out (bs_one _) (by omega) (by unfold maxLen; omega) (by omega) HK.out.size _ rfl ?_; intro g2 cap2 w2 hown2 hgr2 hat2 hlt2)
      go_roundw
      case rel =>
        refine ⟨k + 1, by go_num, by omega, ?_, HK.out.grown hgr2 (fun r hr => .inr (World.ownsRow.lt Hown.out r hr).1)⟩
        have e : 128 * (k + 1) = 128 * k + 128 := by omega
        rw [mbytes, bs_app, e]
        exact hown2
      case measure => simp [intOf]; omega
    · have hk1 : ¬ (k : Int) * 1024 < (n : Int) := by omega
      have hkq : k = q := by omega
      go_wp2_with fail
      go_ret2
      subst hkq
      obtain ⟨hs, hb⟩ := own_sl Hown.out
      exact ⟨_, rfl, hs, Hkp.out, hb⟩
end Go.Proofs.YthjbpbahcemfgaaGreatDoor
