/- Which blocks are taken: All, Free, Give, Taken; a map that is full. -/
import Derived.Test.YthjbpbahcemfgaaGreatDoorAllocT
import Derived.Test.YthjbpbahcemfgaaGreatDoorInts
namespace Go.Proofs.YthjbpbahcemfgaaGreatDoor
open Go.RowKit
set_option maxHeartbeats 1000000
set_option maxRecDepth 20000

/-- The blocks that are taken among the first k. -/
def taken (C : CSt) (at_ from_ k : Nat) : List Int := ((List.range k).filter (bitC C at_)).map fun i => ((from_ + i : Nat) : Int)
theorem taken_succ (C : CSt) (at_ from_ k : Nat) : taken C at_ from_ (k + 1) = taken C at_ from_ k ++ if bitC C at_ k then [((from_ + k : Nat) : Int)] else [] := by
  unfold taken
  rw [List.range_succ, List.filter_append, List.map_append]
  by_cases h : bitC C at_ k <;> simp [h]
theorem taken_le (C : CSt) (at_ from_ k : Nat) : (taken C at_ from_ k).length ≤ k := by
  unfold taken
  rw [List.length_map]
  have := List.length_filter_le (bitC C at_) (List.range k)
  simpa using this

theorem clipI_any (A : Option Addr) (n c : Nat) (w : World) (h : n ≤ c) (_hc : c ≤ maxLen) :
    Calls Tryz.prog 84 #[.slice A n c] w fun e w' => e = .returned (.slice A n n) ∧ w = w' := by
  unfold maxLen at _hc
  go_enter Tryz.func84, Tryz.ntmps84
  go_wp2
  all_goals (go_ret; exact ⟨by simp, rfl⟩)

theorem alloc_All_ok {w : World} {bx bc bj bm bd at_ from_ n : Nat} {C : CSt} {F : Nat → Prop} (h : MapOn w bx bc bj bm bd at_ from_ n C F) :
    Calls Tryz.prog 46 #[.pointer (some ⟨bx, 0, none⟩)] w fun e w' => ∃ v, e = .returned (.tuple #[v, .nilIface]) ∧ SlI w' v (taken C at_ from_ n) ∧ Kp (fun _ => False) w w' ∧ (∀ b, blockOf v = some b → w.heap.size ≤ b) := by
  have hvl := h.vl
  have hn1 := h.n1
  have hn2 := h.n2
  have hnb : nb n ≤ 2 ∧ n ≤ 1024 * nb n ∧ 1024 * nb n < n + 1024 := by unfold nb; omega
  have hbit : ∀ j, j < n → bitAt (mbytes C at_ (nb n)) j = bitC C at_ j := fun j hj => mbytes_bit hvl (by omega)
  have hlen := mbytes_len (C := C) (at_ := at_) (k := nb n) hvl
  have hbyt : Byt (mbytes C at_ (nb n)) := mbytes_byt (fun j hj => h.vb _ (by have := h.inb; omega))
  have c2 := cell_blk h.blk 2
  have c3 := cell_blk h.blk 3
  simp at c2 c3
  have hfar := h.far
  have HB := Lib.hid (alloc_bytes_ok h.blk h.rep h.live h.n1 h.n2 h.inb)
  have HI := Lib.hid (fun (W : World) (v : Value) (j : Nat) (hj : j < n) (hs : Sl W v (mbytes C at_ (nb n))) => alloc_is (w := W) v _ j hs (by rw [hlen]; omega) hbyt)
  have Hbit := Lib.hid hbit
  have C2 := Lib.hid c2
  have C3 := Lib.hid c3
  obtain ⟨i0, hi, hz, hsz, hby⟩ := info_parts Tryz.infoInt
  clear h hvl hbit hlen hbyt hnb c2 c3
  go_enter Tryz.func46, Tryz.ntmps46
  go_wp2_with fail
  refine HB.out.mono ?_
  rintro e w1 ⟨v, rfl, hs, hk, hbo⟩
  have Hs := Lib.hid hs
  have Hk := Lib.hid hk
  have c3 := hk.cell C3.out (fun h => h)
  have Hbo := Lib.hid hbo
  clear hs hk hbo
  go_wp2_with fail
  go_loopw [6, 21] (fun o c wr => ∃ k : Nat, k ≤ n ∧ c = .int .i64 k ∧ wr.ownsRow w1.heap.size 3 1 o (taken C at_ from_ k).length (ints (taken C at_ from_ k)) ∧ Kp (fun _ => False) w1 wr) (fun _ c _ => n - (intOf c).toNat)
  case atStart => exact ⟨0, Nat.zero_le _, rfl, World.ownsRow_nil _ _ _ _, Kp.refl _ _⟩
  case round =>
    obtain ⟨k, hk, rfl, hown, hkp⟩ := hrel
    have Hown := Lib.hid hown
    have Hkp := Lib.hid hkp
    have c2 := hkp.cell (Hk.out.cell C2.out (fun h => h)) (fun h => h)
    have hs' := Lib.hid (Hs.out.kp hkp (fun _ _ h => h))
    have htl := taken_le C at_ from_ k
    have Hts := Lib.hid (taken_succ C at_ from_ k)
    clear hown hkp
    by_cases hlt : k < n
    · by_cases hb : bitC C at_ k = true
      · have hb' : Hid (bitAt (mbytes C at_ (nb n)) k = true) := (show bitAt (mbytes C at_ (nb n)) k = true by rw [Hbit.out k hlt]; exact hb)
        have Hb := Lib.hid hb
        clear hb
        go_wp2_with (first | (go_at_call 83; refine (HI.out _ _ k hlt hs'.out).mono ?_; rintro e w2 ⟨rfl, rfl⟩; rw [hb'.out]) | (at_builtin; refine wpList_append_lies _ rfl _ _ 92 rfl w1.heap.size 3 i0 (.int .i64 0) 1 8 Tryz.underlying92 hi hz hsz hby rfl (by decide) _ _ _ rfl (Hown.out.alloc _) ⟨wr.heap.size, 0, none⟩ 1 1 [.int .i64 ((from_ : Int) + (k : Int))] rfl rfl (fun j u hj => by rw [add0, cell_blk (new_blk wr _)]; cases j with | zero => simpa using hj | succ j => simp at hj) (by simp [Value.oneCell']) (by omega) (by unfold maxLen; omega) (by omega) (by have := Hkp.out.size; have := size_alloc wr (.cells #[.int .i64 ((from_ : Int) + (k : Int))] 3); omega) _ rfl ?_; intro g2 cap2 w2 hown2 hgr2 hat2 hlt2))
        have ho2 : w2.ownsRow w1.heap.size 3 1 (.slice (some ⟨g2, 0, none⟩) ((taken C at_ from_ k).length + 1) cap2) (taken C at_ from_ (k + 1)).length (ints (taken C at_ from_ (k + 1))) := by
          rw [Hts.out, Hb.out, if_pos rfl, ints_app, List.length_append]; exact hown2
        have hk2 : Kp (fun _ => False) w1 w2 := (Hkp.out.alloc _).grown hgr2 (fun r hr => .inr (World.ownsRow.lt Hown.out r hr).1)
        have HO2 := Lib.hid ho2
        have HK2 := Lib.hid hk2
        clear hown2 ho2 hk2 hgr2
        go_roundw
        case rel => exact ⟨k + 1, by omega, by go_num, HO2.out, HK2.out⟩
        case measure => simp [intOf]; omega
      · have hb0 : bitC C at_ k = false := by simpa using hb
        have hb' : Hid (bitAt (mbytes C at_ (nb n)) k = false) := (show bitAt (mbytes C at_ (nb n)) k = false by rw [Hbit.out k hlt]; exact hb0)
        have Hb := Lib.hid hb0
        clear hb hb0
        go_wp2_with (first | (go_at_call 83; refine (HI.out _ _ k hlt hs'.out).mono ?_; rintro e w2 ⟨rfl, rfl⟩; rw [hb'.out]))
        have ho2 : wr.ownsRow w1.heap.size 3 1 u6 (taken C at_ from_ (k + 1)).length (ints (taken C at_ from_ (k + 1))) := by
          rw [Hts.out, Hb.out, if_neg (by simp), List.append_nil]; exact Hown.out
        have HO2 := Lib.hid ho2
        clear ho2
        go_roundw
        case rel => exact ⟨k + 1, by omega, by go_num, HO2.out, Hkp.out⟩
        case measure => simp [intOf]; omega
    · have hkn : k = n := by omega
      subst hkn
      obtain ⟨hsl, hbo, _⟩ := own_slI Hown.out
      obtain ⟨A, c, hv, hc1, hc2, hc3⟩ := id hsl
      subst hv
      go_wp2_with (go_at_call 84; refine (clipI_any _ _ _ _ hc1 hc2).mono ?_; rintro e w2 ⟨rfl, rfl⟩)
      go_ret2
      exact ⟨_, rfl, ⟨A, _, rfl, Nat.le_refl _, by omega, hc3⟩, Hk.out.trans Hkp.out (Gr.refl _ _), fun b hb' => Nat.le_trans Hk.out.size (hbo b (by cases A with | none => exact hb' | some ad => exact hb'))⟩

theorem alloc_Free_ok {w : World} {bx bc bj bm bd at_ from_ n : Nat} {C : CSt} {F : Nat → Prop} (h : MapOn w bx bc bj bm bd at_ from_ n C F) :
    Calls Tryz.prog 18 #[.pointer (some ⟨bx, 0, none⟩)] w fun e w' => e = .returned (.tuple #[.int .i64 ((n : Int) - ((taken C at_ from_ n).length : Int)), .nilIface]) ∧ Kp (fun _ => False) w w' := by
  have c3 := cell_blk h.blk 3
  simp at c3
  have C3 := Lib.hid c3
  have HA := Lib.hid (alloc_All_ok h)
  have hn2 := h.n2
  have ht := taken_le C at_ from_ n
  clear h c3
  go_enter Tryz.func18, Tryz.ntmps18
  go_wp2_with fail
  refine HA.out.mono ?_
  rintro e w1 ⟨v, rfl, hs, hk, hbo⟩
  have c3 := hk.cell C3.out (fun h => h)
  obtain ⟨A, c, rfl, hc1, hc2, hc3⟩ := hs
  have Hk := Lib.hid hk
  clear hc3 hbo hk
  generalize htt : (taken C at_ from_ n).length = t at *
  have HTT := Lib.hid htt
  clear htt
  go_wp2_with fail
  go_ret2
  exact ⟨by rw [HTT.out]; rfl, Hk.out⟩

theorem alloc_Give_ok {w : World} {bx bc bj bm bd at_ from_ n : Nat} {C : CSt} {F : Nat → Prop} (h : MapOn w bx bc bj bm bd at_ from_ n C F) (i : Nat) (hi : i < n) (htaken : bitC C at_ i = true)
    (hroom : at_ + i / 1024 ∈ C.ch ∨ C.ch.length < C.most) :
    Calls Tryz.prog 92 #[.pointer (some ⟨bx, 0, none⟩), .int .i64 (from_ + i : Nat)] w fun e w' => e = .returned .nilIface ∧
      ∃ F', CRep w' bc bj bm bd (C.flip at_ i) F' ∧ Kp F w w' ∧ Gr F F' w.heap.size := by
  have hvl := h.vl
  have hnb : nb n ≤ 2 ∧ n ≤ 1024 * nb n ∧ 1024 * nb n < n + 1024 := by have := h.n1; have := h.n2; unfold nb; omega
  have hbit : bitAt (mbytes C at_ (nb n)) i = true := by rw [mbytes_bit hvl (by omega)]; exact htaken
  have hlen := mbytes_len (C := C) (at_ := at_) (k := nb n) hvl
  have hbyt : Byt (mbytes C at_ (nb n)) := mbytes_byt (fun j hj => h.vb _ (by have := h.inb; omega))
  have hget : (mbytes C at_ (nb n)).getD (i / 8) 0 = (C.view (at_ + i / 1024)).getD (i / 8 % 128) 0 := by
    rw [mbytes_get hvl (by omega), show i / 8 / 128 = i / 1024 by omega]
  have hfar := h.far
  have hno : ((from_ + i : Nat) : Int) - (from_ : Int) = (i : Int) := by omega
  have HIt := Lib.hid (itoa_any ((from_ + i : Nat) : Int) (by omega) (by omega) w h.rep.disk.gl)
  have HTh := Lib.hid (fun (W : World) (hk : Kp (fun _ => False) w W) => alloc_there (hk.blk h.blk (fun h => h)) ((from_ + i : Nat) : Int) (by omega) (by omega) hfar)
  have HB := Lib.hid (fun (W : World) (hk : Kp (fun _ => False) w W) => alloc_bytes_ok (hk.blk h.blk (fun h => h)) (h.rep.kp0 hk) h.live h.n1 h.n2 h.inb)
  have HT := Lib.hid (fun (W : World) (v : Value) (hk : Kp (fun _ => False) w W) (hs : Sl W v (mbytes C at_ (nb n))) => alloc_turn_ok (hk.blk h.blk (fun h => h)) h.out (h.rep.kp0 hk) h.live v _ i hs (by rw [hlen]; omega) hbyt (by have := h.inb; omega) hroom)
  have HI := Lib.hid (fun (W : World) (v : Value) (hs : Sl W v (mbytes C at_ (nb n))) => alloc_is (w := W) v _ i hs (by rw [hlen]; omega) hbyt)
  have Hbit := Lib.hid hbit
  have Hget := Lib.hid hget
  have Hno := Lib.hid hno
  clear h hvl hbit hlen hbyt hget hroom htaken hnb hno
  generalize hz : ((from_ + i : Nat) : Int) = z at *
  have Hz := Lib.hid hz
  clear hz
  go_enter Tryz.func92, Tryz.ntmps92
  go_wp2_with fail
  refine HIt.out.mono ?_
  rintro e w1 ⟨rfl, hk1⟩
  have Hk1 := Lib.hid hk1
  clear hk1
  go_wp2_with fail
  refine (HTh.out _ Hk1.out).mono ?_
  rintro e w2 ⟨rfl, q, rfl⟩
  rw [Hno.out]
  go_wp2_with fail
  refine (HB.out _ (Hk1.out.drewN q)).mono ?_
  rintro e w3 ⟨v, rfl, hs, hk3, hbo⟩
  have Hs := Lib.hid hs
  have Hk3 : Hid (Kp (fun _ => False) w w3) := (Hk1.out.drewN q).trans hk3 (Gr.refl _ _)
  clear hs hk3 hbo
  go_wp2_with fail
  refine (HI.out _ _ Hs.out).mono ?_
  rintro e w4 ⟨rfl, rfl⟩
  rw [Hbit.out]
  go_wp2_with fail
  refine (HT.out _ _ Hk3.out Hs.out).mono ?_
  rintro e w5 ⟨rfl, F', hr', hk5, hg5⟩
  have Hr' := Lib.hid hr'
  have Hk5 := Lib.hid hk5
  clear hr' hk5
  go_wp2_with fail
  refine (alloc_told _ .nilIface none _ rfl).mono ?_
  rintro e w6 ⟨v', rfl, hv', hk6⟩
  obtain rfl : v' = .nilIface := hv'
  go_wp2_with fail
  go_ret
  have hr' := Hr'.out.kp0 hk6
  rw [Hget.out] at hr'
  exact ⟨rfl, F', hr', ((Hk3.out.mono (fun _ h => h.elim)).trans Hk5.out (Gr.refl _ _)).trans (F1 := F) (hk6.mono (fun _ h => h.elim)) (Gr.refl _ _), hg5.mono Hk3.out.size⟩
end Go.Proofs.YthjbpbahcemfgaaGreatDoor
