/- Which blocks are taken: the bytes of a map. -/
import Derived.Test.YtinaolijnjoneaaGreatDoorAlloc
import Derived.Deep.AppendLies
namespace Go.Proofs.YtinaolijnjoneaaGreatDoor
open Go.RowKit
set_option maxHeartbeats 1000000
set_option maxRecDepth 20000

theorem own_kp {w w' : World} {F : Nat → Prop} {base e s n : Nat} {v : Value} {xs : List Value} (h : w.ownsRow base e s v n xs) (k : Kp F w w') (hf : ∀ g, v.ownBlock = some g → ¬ F g) : w'.ownsRow base e s v n xs := by
  obtain ⟨h1, h2 | ⟨g, cap, cur, h2, h3, h4, h5⟩⟩ := h
  · exact ⟨h1, .inl h2⟩
  · exact ⟨h1, .inr ⟨g, cap, cur, h2, h3, k.blk h4 (hf g (by rw [h2]; rfl)), h5⟩⟩
theorem own_kp0 {w w' : World} {base e s n : Nat} {v : Value} {xs : List Value} (h : w.ownsRow base e s v n xs) (k : Kp (fun _ => False) w w') : w'.ownsRow base e s v n xs := own_kp h k (fun _ _ h => h)
theorem own_sl {w : World} {base n : Nat} {v : Value} {xs : List Int} (h : w.ownsRow base 5 1 v n (bs xs)) : Sl w v xs ∧ (∀ b, blockOf v = some b → base ≤ b) := by
  by_cases hn : 0 < n
  · obtain ⟨g, c, rfl, hb, hc1, hc2, hr, rfl⟩ := own_row h hn
    exact ⟨hr.sl c hc1 hc2, fun b hb' => by simp [blockOf] at hb'; omega⟩
  · obtain ⟨h1, ⟨rfl, _⟩ | ⟨g, cap, cur, rfl, h3, h4, h5, h6, _⟩⟩ := h
    · have : xs = [] := by apply List.eq_nil_of_length_eq_zero; rw [bs_length] at h1; omega
      subst this; exact ⟨Sl.nil w, fun b hb => by simp [blockOf] at hb⟩
    · have hx : xs = [] := by apply List.eq_nil_of_length_eq_zero; rw [bs_length] at h1; omega
      subst hx
      have : n = 0 := by omega
      subst this
      exact ⟨⟨_, cap, rfl, by simp, h6, fun h => absurd rfl h⟩, fun b hb' => by simp [blockOf] at hb'; omega⟩

/-- A map's bytes; how many blocks they lie in. -/
def mbytes (C : CSt) (at_ : Nat) : Nat → List Int
  | 0 => []
  | k + 1 => mbytes C at_ k ++ C.view (at_ + k)
def nb (n : Nat) : Nat := (n + 1023) / 1024
theorem mbytes_len {C : CSt} {at_ k : Nat} (h : ∀ j, j < k → (C.view (at_ + j)).length = 128) : (mbytes C at_ k).length = 128 * k := by
  induction k with
  | zero => rfl
  | succ k ih => rw [mbytes, List.length_append, ih (fun j hj => h j (by omega)), h k (by omega)]; omega

theorem alloc_bytes_ok {w : World} {bx bc bj bm bd at_ from_ n : Nat} {C : CSt} {F : Nat → Prop} (hm : MBlk w bx bc at_ from_ n) (h : CRep w bc bj bm bd C F) (hd : C.D.dead = false) (hn1 : 1 ≤ n) (hn2 : n ≤ 2048) (hin : at_ + nb n ≤ C.blocks) :
    Calls Tryz.prog 57 #[.pointer (some ⟨bx, 0, none⟩)] w fun e w' => ∃ v, e = .returned (.tuple #[v, .nilIface]) ∧ Sl w' v (mbytes C at_ (nb n)) ∧ Kp (fun _ => False) w w' ∧ (∀ b, blockOf v = some b → w.heap.size ≤ b) := by
  have c0 := cell_blk hm 0
  have c1 := cell_blk hm 1
  have c3 := cell_blk hm 3
  simp at c0 c1 c3
  have hfw := h.disk.few
  have hfew := h.few
  obtain ⟨i0, hi, hz, hsz, hby⟩ := info_parts Tryz.infoU8
  have hvl : ∀ j, j < nb n → (C.view (at_ + j)).length = 128 := fun j hj => h.viewlen (by omega)
  have HR := Lib.hid (fun (W : World) (hk : Kp (fun _ => False) w W) (no : Int) (h0 : 0 ≤ no) (h1 : no < C.blocks) => cache_Read_ok (h.kp0 hk) hd no h0 h1)
  have Hvl := Lib.hid hvl
  have C0 := Lib.hid c0
  have C1 := Lib.hid c1
  have C3 := Lib.hid c3
  have Hin := Lib.hid hin
  have hnb : nb n ≤ 2 ∧ n ≤ 1024 * nb n ∧ 1024 * nb n < n + 1024 := by unfold nb; omega
  generalize hq : nb n = q at *
  clear hm h hd hvl hin hq c0 c1 c3
  go_enter Tryz.func57, Tryz.ntmps57
  go_wp2_with fail
  go_loopw [4, 5] (fun v i wr => ∃ k : Nat, i = .int .i64 k ∧ k ≤ q ∧ wr.ownsRow w.heap.size 5 1 v (128 * k) (bs (mbytes C at_ k)) ∧ Kp (fun _ => False) w wr) (fun _ i _ => q - (intOf i).toNat)
  case atStart => exact ⟨0, rfl, Nat.zero_le _, World.ownsRow_nil _ _ _ _, Kp.refl _ _⟩
  case round =>
    obtain ⟨k, rfl, hk, hown, hkp⟩ := hrel
    have c3 := hkp.cell C3.out (fun h => h)
    have Hown := Lib.hid hown
    have Hkp := Lib.hid hkp
    clear hown hkp
    by_cases hlt : k < q
    · have hk1 : (k : Int) * 1024 < (n : Int) := by omega
      go_wp2_with fail
      have c0 := Hkp.out.cell C0.out (fun h => h)
      have c1 := Hkp.out.cell C1.out (fun h => h)
      have q1 : IntKind.i64.wrap ((at_ : Int) + (k : Int)) = (at_ : Int) + (k : Int) := IntWalk.i64_in _ (by have := Hin.out; omega)
      have hq2 : (at_ : Int) + (k : Int) < C.blocks := by have := Hin.out; omega
      have E1 : Hid (((at_ : Int) + (k : Int)).toNat = at_ + k) := (show ((at_ : Int) + (k : Int)).toNat = at_ + k by omega)
      go_region_held3 (fun W => W.cell? ⟨bx, 0, none⟩ = some (.pointer (some ⟨bc, 0, none⟩)) ∧ W.cell? ⟨bx, 1, none⟩ = some (.int .i64 at_))
        (first | go_keep | exact ⟨hk'.cell C0.out (fun h => h), hk'.cell C1.out (fun h => h)⟩)
        (first | (go_at_call 11; refine (HR.out _ (Kp.drew Hkp.out) _ (by omega) (by omega)).mono ?_; rintro e w1 ⟨g, rfl, hrow, hk1, hg⟩; have hk' : Kp (fun _ => False) w w1 := (Kp.drew Hkp.out).trans hk1 (Gr.refl _ _)))
      clear q1
      have hown1 := own_kp0 Hown.out ((Kp.drew (Kp.refl _ wr)).trans hk1 (Gr.refl _ _))
      rw [E1.out] at hrow
      have hsl := hrow.cells
      have hl := Hvl.out k hlt
      have HL := Lib.hid hl
      have HS := Lib.hid hsl
      have HO := Lib.hid hown1
      have HK := Lib.hid hk'
      clear hown1 hsl hrow hk' hl hk1 c0 c1 c3
      go_wp2_with (at_builtin; refine wpList_append_lies _ rfl _ _ 29 rfl w.heap.size 5 i0 (.int .u8 0) 1 1 Tryz.underlying29 hi hz hsz hby rfl (by decide) _ _ _ rfl HO.out ⟨g, 0, none⟩ 128 128 (bs (C.view (at_ + k))) rfl (by rw [bs_length, HL.out]) HS.out (bs_one _) (by omega) (by unfold maxLen; omega) (by omega) HK.out.size _ rfl ?_; intro g2 cap2 w2 hown2 hgr2 hat2 hlt2)
      go_roundw
      case rel =>
        refine ⟨k + 1, by go_num, by omega, ?_, HK.out.grown hgr2 (fun r hr => .inr (World.ownsRow.lt Hown.out r hr).1)⟩
        have e : 128 * (k + 1) = 128 * k + 128 := by omega
        rw [mbytes, bs_app, e]
        exact hown2
      case measure => simp [intOf]; omega
    · have hk1 : ¬ (k : Int) * 1024 < (n : Int) := by omega
      have hkq : k = q := by omega
      go_wp2_with fail
      go_ret2
      subst hkq
      obtain ⟨hs, hb⟩ := own_sl Hown.out
      exact ⟨_, rfl, hs, Hkp.out, hb⟩
end Go.Proofs.YtinaolijnjoneaaGreatDoor
