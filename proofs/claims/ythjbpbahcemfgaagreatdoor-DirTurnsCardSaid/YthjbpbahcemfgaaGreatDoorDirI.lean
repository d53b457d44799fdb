/- dir.place: where a name stands among the records. -/
import Derived.Test.YthjbpbahcemfgaaGreatDoorName
namespace Go.Proofs.YthjbpbahcemfgaaGreatDoor
open Go.RowKit
set_option maxHeartbeats 2000000
set_option maxRecDepth 20000

/-- A slice of records in memory. -/
def RcSl (w : World) (v : Value) (l : List Rc) : Prop := ∃ A c, v = .slice A l.length c ∧ l.length ≤ c ∧ c ≤ maxLen ∧ (l ≠ [] → ∃ g, A = some ⟨g, 0, none⟩ ∧ ∀ i x, l[i]? = some x → w.cell? ⟨g, i * 2, none⟩ = some (.string (str x.s)) ∧ w.cell? ⟨g, i * 2 + 1, none⟩ = some (.int .i64 x.id))
theorem RcSl.kp0 {w w' : World} {v : Value} {l : List Rc} (h : RcSl w v l) (k : Kp (fun _ => False) w w') : RcSl w' v l := by
  obtain ⟨A, c, rfl, h1, h2, h3⟩ := h
  refine ⟨A, c, rfl, h1, h2, fun hn => ?_⟩
  obtain ⟨g, rfl, h4⟩ := h3 hn
  exact ⟨g, rfl, fun i x hx => ⟨k.cell (h4 i x hx).1 (fun h => h), k.cell (h4 i x hx).2 (fun h => h)⟩⟩
/-- Where a name stands. -/
def PlaceIs (s : List Int) (l : List Rc) (r : Int) : Prop := (∃ i x, l[i]? = some x ∧ x.s = s ∧ r = (i : Nat)) ∨ ((∀ x ∈ l, x.s ≠ s) ∧ r = -1)
theorem place_one {w : World} (a b : ByteArray) (id : Int) (B : Nat) (hB : w.cell? ⟨B, 0, none⟩ = some (.string b)) :
    Calls Tryz.prog 113 #[.agg #[.string a, .int .i64 id], .pointer (some ⟨B, 0, none⟩)] w fun e w' => e = .returned (.bool (decide (a = b))) ∧ Kp (fun _ => False) w w' := by
  have hk := (Kp.refl (fun _ => False) w).alloc (.cells #[.string a, .int .i64 id] 86)
  have hB' := hk.cell hB (fun h => h)
  have hbq := ba_beq a b
  by_cases hab : a = b
  · subst hab
    have Hk := Lib.hid hk
    clear hk hB hbq
    go_enter Tryz.func113, Tryz.ntmps113
    go_wp2
    go_ret
    exact ⟨by simp, Hk.out⟩
  · have Hk := Lib.hid hk
    rw [decide_eq_false hab] at hbq
    clear hk hB
    go_enter Tryz.func113, Tryz.ntmps113
    go_wp2
    go_ret
    exact ⟨by simp [hab], Hk.out⟩
theorem place_find {w : World} (v : Value) (l : List Rc) (hv : RcSl w v l) (hl : ∀ x ∈ l, Byt x.s) (s : List Int) (hs : Byt s) (B : Nat) (hB : w.cell? ⟨B, 0, none⟩ = some (.string (str s))) (hn : l.length ≤ 1000) :
    Calls Tryz.prog 112 #[v, .func (.func 113) #[] #[.pointer (some ⟨B, 0, none⟩)]] w fun e w' => ∃ r, e = .returned (.int .i64 r) ∧ PlaceIs s l r ∧ Kp (fun _ => False) w w' := by
  obtain ⟨A, c, rfl, h1, h2, h3⟩ := hv
  have H3 := Lib.hid h3
  have HB := Lib.hid hB
  have HL := Lib.hid hl
  have HS := Lib.hid hs
  have eg := enters_of Tryz.func113 (by kernel_rfl) rfl
  clear h3 hB hl hs
  go_enter Tryz.func112, Tryz.ntmps112
  go_wp2_with fail
  go_loopw [5, 8] (fun _ i wr => ∃ k : Nat, i = .int .i64 k ∧ k ≤ l.length ∧ Kp (fun _ => False) w wr ∧ ∀ j x, j < k → l[j]? = some x → x.s ≠ s) (fun _ i _ => l.length - (intOf i).toNat)
  case atStart => exact ⟨0, rfl, Nat.zero_le _, Kp.refl _ _, fun j x hj => absurd hj (Nat.not_lt_zero _)⟩
  case round =>
    obtain ⟨k, rfl, hk, hkp, hbef⟩ := hrel
    have Hkp := Lib.hid hkp
    have Hbef := Lib.hid hbef
    clear hbef
    by_cases hlt : k < l.length
    · have hltz : (k : Int) < (l.length : Int) := by omega
      obtain ⟨x, hx⟩ : ∃ x, l[k]? = some x := ⟨_, List.getElem?_eq_getElem hlt⟩
      obtain ⟨g, rfl, h4⟩ := H3.out (fun e => by rw [e] at hlt; exact absurd hlt (Nat.not_lt_zero _))
      obtain ⟨c0, c1⟩ := h4 k x hx
      have c0' := hkp.cell c0 (fun h => h)
      have c1' := hkp.cell c1 (fun h => h)
      have HP := Lib.hid (place_one (w := wr) (str x.s) (str s) x.id B (hkp.cell HB.out (fun h => h)))
      have hxs := HL.out x (List.mem_of_getElem? hx)
      have Hx := Lib.hid hx
      clear hkp h4 c0 c1 hx H3
      by_cases he : x.s = s
      · have hd : decide (str x.s = str s) = true := by simp [he]
        rw [hd] at HP
        have He := Lib.hid he
        clear hd he
        go_wp2_with (first | (go_at_call 113; refine HP.out.mono ?_; rintro e w' ⟨rfl, hk2⟩; have Hk2 := Lib.hid (Hkp.out.trans hk2 (Gr.refl _ _)); clear hk2))
        go_ret
        exact ⟨_, rfl, .inl ⟨k, x, Hx.out, He.out, rfl⟩, Hk2.out⟩
      · have hd : decide (str x.s = str s) = false := by
          simp only [decide_eq_false_iff_not]
          exact fun e => he (str_inj hxs HS.out e)
        rw [hd] at HP
        clear hd
        go_wp2_with (first | (go_at_call 113; refine HP.out.mono ?_; rintro e w' ⟨rfl, hk2⟩; have Hk2 := Lib.hid (Hkp.out.trans hk2 (Gr.refl _ _)); clear hk2))
        go_roundw
        case rel => exact ⟨k + 1, by go_num, by omega, Hk2.out, fun j y hj hy => by
          rcases Nat.lt_or_ge j k with h | h
          · exact Hbef.out j y h hy
          · have : j = k := by omega
            subst this
            rw [Hx.out] at hy
            cases hy
            exact he⟩
        case measure => simp [intOf]; omega
    · have hltz : ¬ (k : Int) < (l.length : Int) := by omega
      clear hkp H3
      go_wp2_with fail
      go_ret
      exact ⟨_, rfl, .inr ⟨fun x hx he => by
        obtain ⟨j, hj⟩ := List.mem_iff_getElem?.1 hx
        have := (List.getElem?_eq_some_iff.1 hj).1
        exact Hbef.out j x (by omega) hj he, rfl⟩, Hkp.out⟩
theorem dir_place {w : World} (v : Value) (l : List Rc) (hv : RcSl w v l) (hl : ∀ x ∈ l, Byt x.s) (s : List Int) (hs : Byt s) (hn : l.length ≤ 1000) :
    Calls Tryz.prog 69 #[v, .string (str s)] w fun e w' => ∃ r, e = .returned (.int .i64 r) ∧ PlaceIs s l r ∧ Kp (fun _ => False) w w' := by
  have hk := (Kp.refl (fun _ => False) w).alloc (.cells #[.string (str s)] 9)
  have HF := Lib.hid (place_find v l (hv.kp0 hk) hl s hs w.heap.size (by rw [cell_blk (new_blk w _)]; rfl) hn)
  have Hk := Lib.hid hk
  obtain ⟨A, c, rfl, h1, h2, h3⟩ := hv
  clear hk h3
  go_enter Tryz.func69, Tryz.ntmps69
  go_wp2_with fail
  refine HF.out.mono ?_
  rintro e w' ⟨r, rfl, hp, hk2⟩
  have Hp := Lib.hid hp
  have Hk2 := Lib.hid (Hk.out.trans hk2 (Gr.refl _ _))
  clear hp hk2
  go_wp2_with fail
  go_ret
  exact ⟨r, rfl, Hp.out, Hk2.out⟩
end Go.Proofs.YthjbpbahcemfgaaGreatDoor
