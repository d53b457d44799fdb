/- dir: the list of two names. -/
/- dir: the list of two names. -/
import Derived.Test.YthjbpbahcemfgaaGreatDoorDirK
import Derived.BigRegion
import Derived.BigQuiet
namespace Go.Proofs.YthjbpbahcemfgaaGreatDoor
open Go.RowKit
set_option maxHeartbeats 2000000
set_option maxRecDepth 20000

/-- Two texts the other way round. -/
def Two (W : World) (g : Nat) (x y : ByteArray) : Prop := ∃ cs fr, W.heap[g]? = some (.cells cs 9 (fr, 0)) ∧ fr = 0 ∧ cs[0]? = some (.string x) ∧ cs[1]? = some (.string y)
theorem Two.c0 {W : World} {g : Nat} {x y : ByteArray} (h : Two W g x y) : W.cell? ⟨g, 0, none⟩ = some (.string x) := by
  obtain ⟨cs, fr, h1, rfl, h2, h3⟩ := h
  rw [cell_blk h1]; exact h2
theorem Two.c1 {W : World} {g : Nat} {x y : ByteArray} (h : Two W g x y) : W.cell? ⟨g, 1, none⟩ = some (.string y) := by
  obtain ⟨cs, fr, h1, rfl, h2, h3⟩ := h
  rw [cell_blk h1]; exact h3
theorem Two.fz {W : World} {g : Nat} {x y : ByteArray} (h : Two W g x y) (i : Nat) : W.frozen? ⟨g, i, none⟩ = false := by
  obtain ⟨cs, fr, h1, rfl, h2, h3⟩ := h
  exact frozen_blk h1 i
theorem Two.swap {W : World} {g : Nat} {x y : ByteArray} (h : Two W g x y) : Two ((W.setCell ⟨g, 1, none⟩ (.string x)).setCell ⟨g, 0, none⟩ (.string y)) g y x := by
  obtain ⟨cs, fr, h1, rfl, h2, h3⟩ := h
  have l0 := (Array.getElem?_eq_some_iff.1 h2).1
  have l1 := (Array.getElem?_eq_some_iff.1 h3).1
  refine ⟨_, 0, set_blk (set_blk h1 1 _) 0 _, rfl, ?_, ?_⟩
  · rw [Array.getElem?_setIfInBounds_self_of_lt (by simp; exact l0)]
  · rw [Array.getElem?_setIfInBounds_ne (by decide), Array.getElem?_setIfInBounds_self_of_lt l1]
theorem insert2 {w : World} {g c : Nat} {x y : ByteArray} (h : Two w g x y) (hc : Lib.compareBytes y.data.toList x.data.toList = -1) :
    Calls Tryz.prog 143 #[.slice (some ⟨g, 0, none⟩) 2 c, .int .i64 0, .int .i64 2, .func (.func 79) #[] #[]] w fun e w' => e = .returned (.tuple #[]) ∧ Two w' g y x ∧ Kp (fun b => b = g) w w' := by
  have HC := Lib.hid (fun W : World => Tryz.strings_Compare y x W)
  rw [hc] at HC
  have eg := enters_of Tryz.func79 (by kernel_rfl) rfl
  have H := Lib.hid h
  have k0 : ∀ W : World, Kp (fun _ => False) w W → W.cell? ⟨g, 0, none⟩ = some (.string x) := fun W hk => hk.cell h.c0 (fun h => h)
  have k1 : ∀ W : World, Kp (fun _ => False) w W → W.cell? ⟨g, 1, none⟩ = some (.string y) := fun W hk => hk.cell h.c1 (fun h => h)
  have hs1 : Kp (fun _ => False) w w := Kp.refl _ _
  clear hc h
  go_enter Tryz.func143, Tryz.ntmps143
  go_wp2_with fail
  go_loopw [8, 9] (fun i _ W => (i = .int .i64 1 ∧ W = w) ∨ (i = .int .i64 2 ∧ Two W g y x ∧ Kp (fun b => b = g) w W)) (fun i _ _ => 2 - (intOf i).toNat)
  case atStart => exact .inl ⟨rfl, rfl⟩
  case round =>
    rcases hrel with ⟨rfl, hw⟩ | ⟨rfl, ht, hk⟩
    · obtain rfl : w = wr := hw.symm
      clear hw
      go_wp2_with fail
      go_loopw [9] (fun i W => (i = .int .i64 1 ∧ W = w) ∨ (i = .int .i64 0 ∧ Two W g y x ∧ Kp (fun b => b = g) w W)) (fun i _ => (intOf i).toNat)
      case atStart => exact .inl ⟨rfl, rfl⟩
      case round =>
        rcases hrel with ⟨rfl, hw⟩ | ⟨rfl, ht, hk⟩
        · obtain rfl : w = wr := hw.symm
          clear hw
          go_upto_region 4 with fail
          go_region_held_law (fun W => Kp (fun _ => False) w W)
            (first | assumption | exact Kp.drew (by assumption))
            (first | (go_at_call 79; refine (HC.out _).mono ?_; rintro e w' ⟨rfl, rfl⟩))
          all_goals (
            have c0 : w.cell? ⟨g, 0, none⟩ = some (.string x) := H.out.c0
            have c1 : w.cell? ⟨g, 1, none⟩ = some (.string y) := H.out.c1
            have f0 : w.frozen? ⟨g, 0, none⟩ = false := H.out.fz 0
            have f1 : w.frozen? ⟨g, 1, none⟩ = false := H.out.fz 1
            clear k0 k1 hs1
            go_upto_region 6 with fail
            go_region
            all_goals (
              have HT : Hid (Two ((w.setCell ⟨g, 1, none⟩ (.string x)).setCell ⟨g, 0, none⟩ (.string y)).drew.drew g y x) := H.out.swap
              have HKt : Hid (Kp (fun b => b = g) w ((w.setCell ⟨g, 1, none⟩ (.string x)).setCell ⟨g, 0, none⟩ (.string y)).drew.drew) := (setCell_step (setCell_step (Kp.refl _ _))).drew.drew
              generalize ((w.setCell ⟨g, 1, none⟩ (.string x)).setCell ⟨g, 0, none⟩ (.string y)).drew.drew = wt at *
              clear c0 c1 f0 f1
              go_wp2_with fail
              go_roundw
              case rel => exact .inr ⟨rfl, HT.out, HKt.out⟩
              case measure => simp [intOf]))
        · have HT := Lib.hid ht
          have HKt := Lib.hid hk
          have hs2 : Kp (fun _ => False) wr wr := Kp.refl _ _
          clear ht hk k0 k1 hs1
          go_upto_region 4 with fail
          clear hs2
          go_quiet (fail)
          have HT2 : Hid (Two (wr.drewN nq) g y x) := HT.out
          have HK2 : Hid (Kp (fun b => b = g) w (wr.drewN nq)) := HKt.out.drewN nq
          go_wp2_with fail
          go_roundw
          case rel => exact .inr ⟨rfl, HT2.out, HK2.out⟩
          case measure => simp [intOf]
    · have HT := Lib.hid ht
      have HKt := Lib.hid hk
      clear ht hk k0 k1 hs1
      go_wp2_with fail
      go_end0
      exact ⟨rfl, HT.out, HKt.out⟩
theorem sort2 {w : World} {g c : Nat} {x y : ByteArray} (h : Two w g x y) (hc : Lib.compareBytes y.data.toList x.data.toList = -1) :
    Calls Tryz.prog 78 #[.slice (some ⟨g, 0, none⟩) 2 c, .func (.func 79) #[] #[]] w fun e w' => e = .returned (.tuple #[]) ∧ Two w' g y x ∧ Kp (fun b => b = g) w w' := by
  have HI := Lib.hid (insert2 (c := c) h hc)
  have HP : Hid (∀ lim : Int, Calls Tryz.prog 122 #[.slice (some ⟨g, 0, none⟩) 2 c, .int .i64 0, .int .i64 2, .int .i64 lim, .func (.func 79) #[] #[]] w fun e w' => e = .returned (.tuple #[]) ∧ Two w' g y x ∧ Kp (fun b => b = g) w w') := fun lim => by
    go_enter Tryz.func122, Tryz.ntmps122
    go_wp2_with fail
    go_loopw [1, 2] (fun a b W => a = .int .i64 0 ∧ b = .int .i64 2 ∧ W = w) (fun _ _ _ => 0)
    case atStart => exact ⟨rfl, rfl, rfl⟩
    case round =>
      obtain ⟨rfl, rfl, hw⟩ := hrel
      obtain rfl : w = wr := hw.symm
      clear hw
      go_wp2_with (go_at_call 143; refine HI.out.mono ?_; rintro e w' ⟨rfl, ht, hk⟩; have HT := Lib.hid ht; have HKt := Lib.hid hk; clear ht hk)
      refine bodyPost_ret (results_none rfl _ _ _) rfl ?_
      exact ⟨rfl, HT.out, HKt.out⟩
  have HL := Lib.hid (Tryz.bits_Len 2 w (by decide) (by decide))
  clear h hc HI
  go_enter Tryz.func78, Tryz.ntmps78
  go_wp2_with (first | (go_at_call 123; refine HL.out.mono ?_; rintro e w' ⟨rfl, rfl⟩) | (go_at_call 122; refine (HP.out _).mono ?_; rintro e w' ⟨rfl, ht, hk⟩; have HT := Lib.hid ht; have HKt := Lib.hid hk; clear ht hk))
  go_end0
  exact ⟨rfl, HT.out, HKt.out⟩
theorem clipS {w : World} (A : Option Addr) (n c : Nat) (h : n ≤ c) (_hc : c ≤ maxLen) : Calls Tryz.prog 80 #[.slice A n c] w fun e w' => e = .returned (.slice A n n) ∧ w' = w := by
  unfold maxLen at _hc
  go_enter Tryz.func80, Tryz.ntmps80
  go_wp2
  all_goals (go_ret; exact ⟨by simp, rfl⟩)
end Go.Proofs.YthjbpbahcemfgaaGreatDoor
namespace Go.Proofs.YthjbpbahcemfgaaGreatDoor
open Go.RowKit
set_option maxHeartbeats 2000000
set_option maxRecDepth 20000
variable {w w0 : World} {bD bt bx bc bj bm bd q : Nat} {F : Nat → Prop}

theorem Tryz.infoStr : (Tryz.prog.info? 9).map (fun i => (i.zero, i.size, i.bytes)) = some (some (.string { data := #[] }), 1, 16) := by kernel_rfl
theorem dir_List2 {x y : Rc} (h : DirS w bD bt bx bc bj bm bd [x, y] q F w0) (hxy : Lib.compareBytes (str y.s).data.toList (str x.s).data.toList = -1) :
    Calls Tryz.prog 44 #[.pointer (some ⟨bD, 0, none⟩)] w0 fun e w' => ∃ g, e = .returned (.tuple #[.slice (some ⟨g, 0, none⟩) 2 2, .nilIface]) ∧ Two w' g (str y.s) (str x.s) ∧ Kp (fun _ => False) w0 w' := by
  have HR := Lib.hid (dir_rows h)
  have HXY := Lib.hid hxy
  clear h hxy
  go_enter Tryz.func44, Tryz.ntmps44
  go_wp2_with fail
  refine HR.out.mono ?_
  rintro e w1 ⟨v, rfl, hv, hk1, _⟩
  obtain ⟨A, c, e, _, _, hc⟩ := hv
  obtain ⟨g0, hA, hc2⟩ := hc (by simp)
  subst hA
  have e' : v = .slice (some ⟨g0, 0, none⟩) 2 c := e
  subst e'
  have Hk1 := Lib.hid hk1
  have HC := Lib.hid hc2
  have hb1 : w0.heap.size ≤ w1.heap.size := hk1.size
  clear e hc hc2 hk1 HR
  obtain ⟨B, hB⟩ : ∃ B, B = w1.heap.size := ⟨_, rfl⟩
  have HB := Lib.hid hB
  rw [← hB] at hb1
  clear hB
  obtain ⟨i0, hi, hz, hsz, hby⟩ := info_parts Tryz.infoStr
  go_wp2_with fail
  go_loopw [6, 8, 20] (fun o _ k W => ∃ j : Nat, k = .int .i64 j ∧ j ≤ 2 ∧ Kp (fun _ => False) w1 W ∧ W.ownsRow B 9 1 o j ((([x, y] : List Rc).take j).map fun z => .string (str z.s))) (fun _ _ k _ => 2 - (intOf k).toNat)
  case atStart => exact ⟨0, rfl, by omega, Kp.refl _ _, World.ownsRow_nil _ _ _ _⟩
  case round =>
    obtain ⟨j, rfl, hj, hkp, hown⟩ := hrel
    by_cases hlt : j < 2
    · have hltz : (j : Int) < 2 := by omega
      obtain ⟨z, hzz⟩ : ∃ z, ([x, y] : List Rc)[j]? = some z := ⟨_, List.getElem?_eq_getElem (by simpa using hlt)⟩
      obtain ⟨c0, c1⟩ := HC.out j z hzz
      have c0' := hkp.cell c0 (fun h => h)
      have c1' := hkp.cell c1 (fun h => h)
      have Hz := Lib.hid hzz
      have Hown := Lib.hid hown
      have Hkp := Lib.hid hkp
      have hBW : B ≤ wr.heap.size := by rw [HB.out]; exact hkp.size
      clear c0 c1 hzz hown hkp
      go_wp2_with (at_builtin; refine wpList_append_own _ rfl _ _ 97 rfl B 9 i0 (.string { data := #[] }) 1 16 Tryz.underlying97 hi hz hsz hby rfl (by decide) _ _ _ rfl ((Hown.out.alloc _).alloc _) ⟨wr.heap.size + 1, 0, none⟩ 1 1 [.string (str z.s)] rfl rfl (fun j u hj => by rw [add0]; have := cell_blk (new_blk (wr.alloc (.cells #[.string (str z.s), .int .i64 z.id] 86)) (.cells #[.string (str z.s)] 9)) j; rw [size_alloc] at this; rw [this]; simpa using hj) (by simp [Value.oneCell']) (by unfold maxLen; omega) (by omega) (leD_alloc _ (leD_alloc _ (by omega))) ?_; intro v' w8 hown' hgrow _; have Hown' := Lib.hid hown'; have Hgrow : Hid (((wr.alloc (.cells #[.string (str z.s), .int .i64 z.id] 86)).alloc (.cells #[.string (str z.s)] 9)).grownBy w8 u6.ownBlock) := hgrow; clear hown' hgrow)
      go_roundw
      case rel =>
        refine ⟨j + 1, by go_num, by omega, ((Hkp.out.alloc _).alloc _).grown Hgrow.out (fun k e => .inr (by have := (Hown.out.lt k e).1; have := HB.out; omega)), ?_⟩
        rw [List.take_add_one, Hz.out, List.map_append]
        exact Hown'.out
      case measure => simp [intOf]; omega
    · have hj2 : j = 2 := by omega
      subst hj2
      obtain ⟨q1, ⟨e0, q2⟩ | ⟨g, cap, cur, e1, e2, e3, e4, e5, e6, e7⟩⟩ := hown
      · exfalso; first | (simp at q2; done) | omega
      · subst e1
        have HT : Hid (Two wr g (str x.s) (str y.s)) := by
          refine ⟨cur, 0, e3, rfl, ?_, ?_⟩
          · have := congrArg (·[0]?) e7
            simpa using this
          · have := congrArg (·[1]?) e7
            simpa using this
        have HS := Lib.hid (sort2 (c := cap) HT.out HXY.out)
        have Hkw := Lib.hid (Hk1.out.trans hkp (Gr.refl _ _))
        have hgb : w0.heap.size ≤ g := by omega
        have HCl := Lib.hid (fun W : World => clipS (w := W) (some ⟨g, 0, none⟩) 2 cap e4 e5)
        clear hkp e3 e6 e7 q1 hlt
        go_wp2_with (first | (go_at_call 78; refine HS.out.mono ?_; rintro e w' ⟨rfl, ht, hk⟩; have HT2 := Lib.hid ht; have HK2 := Lib.hid (Hkw.out.trans hk (fun k (e : k = g) => .inr (by omega))); clear ht hk) | (go_at_call 80; refine (HCl.out _).mono ?_; rintro e w' ⟨rfl, rfl⟩))
        go_ret2
        exact ⟨g, rfl, HT2.out, HK2.out⟩
end Go.Proofs.YthjbpbahcemfgaaGreatDoor
