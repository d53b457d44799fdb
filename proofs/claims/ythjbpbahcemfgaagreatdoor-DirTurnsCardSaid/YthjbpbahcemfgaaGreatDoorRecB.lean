/- The law's own bytes of records: credenzalaw10.bytes. -/
import Derived.Test.YthjbpbahcemfgaaGreatDoorDirR
import Derived.Deep.RegionHeldLaw
namespace Go
set_option linter.unusedVariables false
set_option linter.unusedSimpArgs false
section
variable {P : Program} {ops : Array Oper} {Q : Exit → Act → World → Prop} {md : Region.Mode}
/-- What is held may be told anew, and more, behind an operation. -/
theorem wpAnyH_rebase {S S' : World → Prop} (h : ∀ W, S' W → S W) : ∀ {fuel : Nat} {listed : Array Bool} {a : Act} {w : World}, wpAnyH P md ops Q S' fuel listed a w → wpAnyH P md ops Q S fuel listed a w
  | 0, _, _, _, hh => hh
  | _ + 1, _, _, _, hh => ⟨hh.1, fun i hi => wpOp_mono (fun _ _ h' => ⟨h _ h'.1, wpAnyH_rebase h h'.2⟩) (hh.2 i hi)⟩
end
end Go
namespace Go.Proofs.YthjbpbahcemfgaaGreatDoor
set_option linter.unusedVariables false
set_option linter.unusedSimpArgs false
open Go.RowKit
set_option maxHeartbeats 4000000
set_option maxRecDepth 20000

theorem law_bytes {w : World} (v : Value) (l : List Rc) (hv : RcSl w v l) (hl : AllOk l) (hn : l.length ≤ 120) :
    Calls Tryz.prog 33 #[v] w fun e w' => e = .returned (.string (str (dirRow l))) ∧ Kp (fun _ => False) w w' := by
  obtain ⟨A, c, rfl, h1, h2, h3⟩ := hv
  have H3 := Lib.hid h3
  have HL := Lib.hid hl
  clear h3 hl
  go_enter Tryz.func33, Tryz.ntmps33
  go_wp2_with fail
  go_loopw [3, 4, 5] (fun s i _ W => ∃ k : Nat, s = .string (str (dirRow (l.take k))) ∧ i = .int .i64 k ∧ k ≤ l.length ∧ Kp (fun _ => False) w W) (fun _ i _ _ => l.length - (intOf i).toNat)
  case atStart => exact ⟨0, rfl, rfl, Nat.zero_le _, Kp.refl _ _⟩
  case round =>
    obtain ⟨k, rfl, rfl, hk, hkp⟩ := hrel
    by_cases hlt : k < l.length
    · have hltz : (k : Int) < (l.length : Int) := by omega
      have hkw : IntKind.i64.wrap ((k : Int) + 1) = (k : Int) + 1 := IntWalk.i64_in _ (by omega)
      have hk0 : (0 : Int) ≤ (k : Int) := by omega
      obtain ⟨x, hx⟩ : ∃ x, l[k]? = some x := ⟨_, List.getElem?_eq_getElem hlt⟩
      obtain ⟨g, rfl, h4⟩ := H3.out (fun e => by rw [e] at hlt; exact absurd hlt (Nat.not_lt_zero _))
      obtain ⟨c0, c1⟩ := h4 k x hx
      have c0' := hkp.cell c0 (fun h => h)
      have hxo := HL.out x (List.mem_of_getElem? hx)
      have hx27 := hxo.nm.hi
      have hxlo := hxo.nm.lo
      have hid := hxo.hi
      have hDl : (dirRow (l.take k)).length = 32 * k := by rw [dirRow_len (HL.out.take k), List.length_take, Nat.min_eq_left hk]
      have c1' : ∀ W : World, Kp (fun _ => False) wr W → W.cell? ⟨g, k * 2 + 1, none⟩ = some (.int .i64 x.id) := fun W h => (hkp.trans h (fun _ h => .inl h)).cell c1 (fun h => h)
      have Hkp := Lib.hid hkp
      have hTk : dirRow (l.take (k + 1)) = dirRow (l.take k) ++ [(x.s.length : Int)] ++ x.s ++ zs (27 - x.s.length) ++ [0, 0, 0, (x.id : Int)] := by
        rw [List.take_add_one, hx, dirRow_app]
        simp [dirRow, recRow]
      have hsz : (str x.s).size = x.s.length := str_size _
      have hlw : IntKind.u8.wrap (x.s.length : Int) = (x.s.length : Int) := IntWalk.u8_in _ (by omega)
      have hiw : IntKind.u8.wrap (x.id : Int) = (x.id : Int) := IntWalk.u8_in _ (by omega)
      have hzw : IntKind.u8.wrap 0 = 0 := IntWalk.u8_in _ (by omega)
      have hd1 : (x.id : Int) / 16777216 = 0 := by omega
      have hd2 : (x.id : Int) / 65536 = 0 := by omega
      have hd3 : (x.id : Int) / 256 = 0 := by omega
      have h27w : (27 : Int) - (x.s.length : Int) = ((27 - x.s.length : Nat) : Int) := by omega
      have h27w' : IntKind.i64.wrap ((27 - x.s.length : Nat) : Int) = ((27 - x.s.length : Nat) : Int) := IntWalk.i64_in _ (by omega)
      clear hkp c0 c1 h4 H3
      go_upto_region 6 with fail
      refine wp_region_held_drew (S := fun W => Kp (fun _ => False) wr W) (by kernel_rfl) (Kp.refl _ _).drew (fun hHeld => ?_)
      generalize wr.drew = wd at *
      have hk0 := hHeld
      apply wpAnyH_take (i := 0) (v := .string (str (dirRow (l.take k))))
      case hi => (simp only [List.getElem?_toArray, List.getElem?_cons_zero, List.getElem?_cons_succ]; rfl)
      case hs => kernel_rfl
      case hf => kernel_rfl
      case hr => kernel_rfl
      case hQ => exact fun _ _ _ h => h
      case hS => exact hHeld
      case hy =>
        refine Or.inl ⟨rfl, ?_⟩
        intro w hSw
        go_simp
      try simp only [Act.put, List.setIfInBounds_toArray, List.set_cons_zero, List.set_cons_succ]
      apply wpAnyH_take (i := 1) (v := .string (str x.s))
      case hi => (simp only [List.getElem?_toArray, List.getElem?_cons_zero, List.getElem?_cons_succ]; rfl)
      case hs => kernel_rfl
      case hf => kernel_rfl
      case hr => kernel_rfl
      case hQ => exact fun _ _ _ h => h
      case hS => exact hHeld
      case hy =>
        refine Or.inl ⟨rfl, ?_⟩
        intro w hSw
        go_simp
      try simp only [Act.put, List.setIfInBounds_toArray, List.set_cons_zero, List.set_cons_succ]
      apply wpAnyH_take (i := 2) (v := .int .i64 (x.s.length : Int))
      case hi => (simp only [List.getElem?_toArray, List.getElem?_cons_zero, List.getElem?_cons_succ]; rfl)
      case hs => kernel_rfl
      case hf => kernel_rfl
      case hr => kernel_rfl
      case hQ => exact fun _ _ _ h => h
      case hS => exact hHeld
      case hy =>
        refine Or.inl ⟨rfl, ?_⟩
        intro w hSw
        go_simp
      try simp only [Act.put, List.setIfInBounds_toArray, List.set_cons_zero, List.set_cons_succ]
      apply wpAnyH_take (i := 3) (v := .int .u8 (x.s.length : Int))
      case hi => (simp only [List.getElem?_toArray, List.getElem?_cons_zero, List.getElem?_cons_succ]; rfl)
      case hs => kernel_rfl
      case hf => kernel_rfl
      case hr => kernel_rfl
      case hQ => exact fun _ _ _ h => h
      case hS => exact hHeld
      case hy =>
        refine Or.inl ⟨rfl, ?_⟩
        intro w hSw
        go_simp
      try simp only [Act.put, List.setIfInBounds_toArray, List.set_cons_zero, List.set_cons_succ]
      apply wpAnyH_take (i := 7) (v := .string (str x.s))
      case hi => (simp only [List.getElem?_toArray, List.getElem?_cons_zero, List.getElem?_cons_succ]; rfl)
      case hs => kernel_rfl
      case hf => kernel_rfl
      case hr => kernel_rfl
      case hQ => exact fun _ _ _ h => h
      case hS => exact hHeld
      case hy =>
        refine Or.inl ⟨rfl, ?_⟩
        intro w hSw
        go_simp
      try simp only [Act.put, List.setIfInBounds_toArray, List.set_cons_zero, List.set_cons_succ]
      apply wpAnyH_take (i := 9) (v := .string (str x.s))
      case hi => (simp only [List.getElem?_toArray, List.getElem?_cons_zero, List.getElem?_cons_succ]; rfl)
      case hs => kernel_rfl
      case hf => kernel_rfl
      case hr => kernel_rfl
      case hQ => exact fun _ _ _ h => h
      case hS => exact hHeld
      case hy =>
        refine Or.inl ⟨rfl, ?_⟩
        intro w hSw
        go_simp
      try simp only [Act.put, List.setIfInBounds_toArray, List.set_cons_zero, List.set_cons_succ]
      apply wpAnyH_take (i := 10) (v := .int .i64 (x.s.length : Int))
      case hi => (simp only [List.getElem?_toArray, List.getElem?_cons_zero, List.getElem?_cons_succ]; rfl)
      case hs => kernel_rfl
      case hf => kernel_rfl
      case hr => kernel_rfl
      case hQ => exact fun _ _ _ h => h
      case hS => exact hHeld
      case hy =>
        refine Or.inl ⟨rfl, ?_⟩
        intro w hSw
        go_simp
      try simp only [Act.put, List.setIfInBounds_toArray, List.set_cons_zero, List.set_cons_succ]
      apply wpAnyH_take (i := 11) (v := .int .i64 ((27 - x.s.length : Nat) : Int))
      case hi => (simp only [List.getElem?_toArray, List.getElem?_cons_zero, List.getElem?_cons_succ]; rfl)
      case hs => kernel_rfl
      case hf => kernel_rfl
      case hr => kernel_rfl
      case hQ => exact fun _ _ _ h => h
      case hS => exact hHeld
      case hy =>
        refine Or.inl ⟨rfl, ?_⟩
        intro w hSw
        go_simp
      try simp only [Act.put, List.setIfInBounds_toArray, List.set_cons_zero, List.set_cons_succ]
      apply wpAnyH_take (i := 15) (v := .slice (some ⟨g, 0, none⟩) l.length c)
      case hi => (simp only [List.getElem?_toArray, List.getElem?_cons_zero, List.getElem?_cons_succ]; rfl)
      case hs => kernel_rfl
      case hf => kernel_rfl
      case hr => kernel_rfl
      case hQ => exact fun _ _ _ h => h
      case hS => exact hHeld
      case hy =>
        refine Or.inl ⟨rfl, ?_⟩
        intro w hSw
        go_simp
      try simp only [Act.put, List.setIfInBounds_toArray, List.set_cons_zero, List.set_cons_succ]
      apply wpAnyH_take (i := 16) (v := .int .i64 k)
      case hi => (simp only [List.getElem?_toArray, List.getElem?_cons_zero, List.getElem?_cons_succ]; rfl)
      case hs => kernel_rfl
      case hf => kernel_rfl
      case hr => kernel_rfl
      case hQ => exact fun _ _ _ h => h
      case hS => exact hHeld
      case hy =>
        refine Or.inl ⟨rfl, ?_⟩
        intro w hSw
        go_simp
      try simp only [Act.put, List.setIfInBounds_toArray, List.set_cons_zero, List.set_cons_succ]
      apply wpAnyH_take (i := 17) (v := .pointer (some ⟨g, k * 2, none⟩))
      case hi => (simp only [List.getElem?_toArray, List.getElem?_cons_zero, List.getElem?_cons_succ]; rfl)
      case hs => kernel_rfl
      case hf => kernel_rfl
      case hr => kernel_rfl
      case hQ => exact fun _ _ _ h => h
      case hS => exact hHeld
      case hy =>
        refine Or.inl ⟨rfl, ?_⟩
        intro w hSw
        go_simp
      try simp only [Act.put, List.setIfInBounds_toArray, List.set_cons_zero, List.set_cons_succ]
      apply wpAnyH_take (i := 18) (v := .pointer (some ⟨g, k * 2 + 1, none⟩))
      case hi => (simp only [List.getElem?_toArray, List.getElem?_cons_zero, List.getElem?_cons_succ]; rfl)
      case hs => kernel_rfl
      case hf => kernel_rfl
      case hr => kernel_rfl
      case hQ => exact fun _ _ _ h => h
      case hS => exact hHeld
      case hy =>
        refine Or.inl ⟨rfl, ?_⟩
        intro w hSw
        go_simp
      try simp only [Act.put, List.setIfInBounds_toArray, List.set_cons_zero, List.set_cons_succ]
      apply wpAnyH_take (i := 19) (v := .int .i64 x.id)
      case hi => (simp only [List.getElem?_toArray, List.getElem?_cons_zero, List.getElem?_cons_succ]; rfl)
      case hs => kernel_rfl
      case hf => kernel_rfl
      case hr => kernel_rfl
      case hQ => exact fun _ _ _ h => h
      case hS => exact hHeld
      case hy =>
        refine Or.inl ⟨rfl, ?_⟩
        intro w hSw
        go_simp
      try simp only [Act.put, List.setIfInBounds_toArray, List.set_cons_zero, List.set_cons_succ]
      apply wpAnyH_take (i := 20) (v := .int .i64 0)
      case hi => (simp only [List.getElem?_toArray, List.getElem?_cons_zero, List.getElem?_cons_succ]; rfl)
      case hs => kernel_rfl
      case hf => kernel_rfl
      case hr => kernel_rfl
      case hQ => exact fun _ _ _ h => h
      case hS => exact hHeld
      case hy =>
        refine Or.inl ⟨rfl, ?_⟩
        intro w hSw
        go_simp
      try simp only [Act.put, List.setIfInBounds_toArray, List.set_cons_zero, List.set_cons_succ]
      apply wpAnyH_take (i := 21) (v := .int .u8 0)
      case hi => (simp only [List.getElem?_toArray, List.getElem?_cons_zero, List.getElem?_cons_succ]; rfl)
      case hs => kernel_rfl
      case hf => kernel_rfl
      case hr => kernel_rfl
      case hQ => exact fun _ _ _ h => h
      case hS => exact hHeld
      case hy =>
        refine Or.inl ⟨rfl, ?_⟩
        intro w hSw
        go_simp
      try simp only [Act.put, List.setIfInBounds_toArray, List.set_cons_zero, List.set_cons_succ]
      apply wpAnyH_take (i := 22) (v := .slice (some ⟨g, 0, none⟩) l.length c)
      case hi => (simp only [List.getElem?_toArray, List.getElem?_cons_zero, List.getElem?_cons_succ]; rfl)
      case hs => kernel_rfl
      case hf => kernel_rfl
      case hr => kernel_rfl
      case hQ => exact fun _ _ _ h => h
      case hS => exact hHeld
      case hy =>
        refine Or.inl ⟨rfl, ?_⟩
        intro w hSw
        go_simp
      try simp only [Act.put, List.setIfInBounds_toArray, List.set_cons_zero, List.set_cons_succ]
      apply wpAnyH_take (i := 23) (v := .int .i64 k)
      case hi => (simp only [List.getElem?_toArray, List.getElem?_cons_zero, List.getElem?_cons_succ]; rfl)
      case hs => kernel_rfl
      case hf => kernel_rfl
      case hr => kernel_rfl
      case hQ => exact fun _ _ _ h => h
      case hS => exact hHeld
      case hy =>
        refine Or.inl ⟨rfl, ?_⟩
        intro w hSw
        go_simp
      try simp only [Act.put, List.setIfInBounds_toArray, List.set_cons_zero, List.set_cons_succ]
      apply wpAnyH_take (i := 24) (v := .pointer (some ⟨g, k * 2, none⟩))
      case hi => (simp only [List.getElem?_toArray, List.getElem?_cons_zero, List.getElem?_cons_succ]; rfl)
      case hs => kernel_rfl
      case hf => kernel_rfl
      case hr => kernel_rfl
      case hQ => exact fun _ _ _ h => h
      case hS => exact hHeld
      case hy =>
        refine Or.inl ⟨rfl, ?_⟩
        intro w hSw
        go_simp
      try simp only [Act.put, List.setIfInBounds_toArray, List.set_cons_zero, List.set_cons_succ]
      apply wpAnyH_take (i := 25) (v := .pointer (some ⟨g, k * 2 + 1, none⟩))
      case hi => (simp only [List.getElem?_toArray, List.getElem?_cons_zero, List.getElem?_cons_succ]; rfl)
      case hs => kernel_rfl
      case hf => kernel_rfl
      case hr => kernel_rfl
      case hQ => exact fun _ _ _ h => h
      case hS => exact hHeld
      case hy =>
        refine Or.inl ⟨rfl, ?_⟩
        intro w hSw
        go_simp
      try simp only [Act.put, List.setIfInBounds_toArray, List.set_cons_zero, List.set_cons_succ]
      apply wpAnyH_take (i := 26) (v := .int .i64 x.id)
      case hi => (simp only [List.getElem?_toArray, List.getElem?_cons_zero, List.getElem?_cons_succ]; rfl)
      case hs => kernel_rfl
      case hf => kernel_rfl
      case hr => kernel_rfl
      case hQ => exact fun _ _ _ h => h
      case hS => exact hHeld
      case hy =>
        refine Or.inl ⟨rfl, ?_⟩
        intro w hSw
        go_simp
      try simp only [Act.put, List.setIfInBounds_toArray, List.set_cons_zero, List.set_cons_succ]
      apply wpAnyH_take (i := 27) (v := .int .i64 0)
      case hi => (simp only [List.getElem?_toArray, List.getElem?_cons_zero, List.getElem?_cons_succ]; rfl)
      case hs => kernel_rfl
      case hf => kernel_rfl
      case hr => kernel_rfl
      case hQ => exact fun _ _ _ h => h
      case hS => exact hHeld
      case hy =>
        refine Or.inl ⟨rfl, ?_⟩
        intro w hSw
        go_simp
      try simp only [Act.put, List.setIfInBounds_toArray, List.set_cons_zero, List.set_cons_succ]
      apply wpAnyH_take (i := 28) (v := .int .u8 0)
      case hi => (simp only [List.getElem?_toArray, List.getElem?_cons_zero, List.getElem?_cons_succ]; rfl)
      case hs => kernel_rfl
      case hf => kernel_rfl
      case hr => kernel_rfl
      case hQ => exact fun _ _ _ h => h
      case hS => exact hHeld
      case hy =>
        refine Or.inl ⟨rfl, ?_⟩
        intro w hSw
        go_simp
      try simp only [Act.put, List.setIfInBounds_toArray, List.set_cons_zero, List.set_cons_succ]
      apply wpAnyH_take (i := 29) (v := .slice (some ⟨g, 0, none⟩) l.length c)
      case hi => (simp only [List.getElem?_toArray, List.getElem?_cons_zero, List.getElem?_cons_succ]; rfl)
      case hs => kernel_rfl
      case hf => kernel_rfl
      case hr => kernel_rfl
      case hQ => exact fun _ _ _ h => h
      case hS => exact hHeld
      case hy =>
        refine Or.inl ⟨rfl, ?_⟩
        intro w hSw
        go_simp
      try simp only [Act.put, List.setIfInBounds_toArray, List.set_cons_zero, List.set_cons_succ]
      apply wpAnyH_take (i := 30) (v := .int .i64 k)
      case hi => (simp only [List.getElem?_toArray, List.getElem?_cons_zero, List.getElem?_cons_succ]; rfl)
      case hs => kernel_rfl
      case hf => kernel_rfl
      case hr => kernel_rfl
      case hQ => exact fun _ _ _ h => h
      case hS => exact hHeld
      case hy =>
        refine Or.inl ⟨rfl, ?_⟩
        intro w hSw
        go_simp
      try simp only [Act.put, List.setIfInBounds_toArray, List.set_cons_zero, List.set_cons_succ]
      apply wpAnyH_take (i := 31) (v := .pointer (some ⟨g, k * 2, none⟩))
      case hi => (simp only [List.getElem?_toArray, List.getElem?_cons_zero, List.getElem?_cons_succ]; rfl)
      case hs => kernel_rfl
      case hf => kernel_rfl
      case hr => kernel_rfl
      case hQ => exact fun _ _ _ h => h
      case hS => exact hHeld
      case hy =>
        refine Or.inl ⟨rfl, ?_⟩
        intro w hSw
        go_simp
      try simp only [Act.put, List.setIfInBounds_toArray, List.set_cons_zero, List.set_cons_succ]
      apply wpAnyH_take (i := 32) (v := .pointer (some ⟨g, k * 2 + 1, none⟩))
      case hi => (simp only [List.getElem?_toArray, List.getElem?_cons_zero, List.getElem?_cons_succ]; rfl)
      case hs => kernel_rfl
      case hf => kernel_rfl
      case hr => kernel_rfl
      case hQ => exact fun _ _ _ h => h
      case hS => exact hHeld
      case hy =>
        refine Or.inl ⟨rfl, ?_⟩
        intro w hSw
        go_simp
      try simp only [Act.put, List.setIfInBounds_toArray, List.set_cons_zero, List.set_cons_succ]
      apply wpAnyH_take (i := 33) (v := .int .i64 x.id)
      case hi => (simp only [List.getElem?_toArray, List.getElem?_cons_zero, List.getElem?_cons_succ]; rfl)
      case hs => kernel_rfl
      case hf => kernel_rfl
      case hr => kernel_rfl
      case hQ => exact fun _ _ _ h => h
      case hS => exact hHeld
      case hy =>
        refine Or.inl ⟨rfl, ?_⟩
        intro w hSw
        go_simp
      try simp only [Act.put, List.setIfInBounds_toArray, List.set_cons_zero, List.set_cons_succ]
      apply wpAnyH_take (i := 34) (v := .int .i64 0)
      case hi => (simp only [List.getElem?_toArray, List.getElem?_cons_zero, List.getElem?_cons_succ]; rfl)
      case hs => kernel_rfl
      case hf => kernel_rfl
      case hr => kernel_rfl
      case hQ => exact fun _ _ _ h => h
      case hS => exact hHeld
      case hy =>
        refine Or.inl ⟨rfl, ?_⟩
        intro w hSw
        go_simp
      try simp only [Act.put, List.setIfInBounds_toArray, List.set_cons_zero, List.set_cons_succ]
      apply wpAnyH_take (i := 35) (v := .int .u8 0)
      case hi => (simp only [List.getElem?_toArray, List.getElem?_cons_zero, List.getElem?_cons_succ]; rfl)
      case hs => kernel_rfl
      case hf => kernel_rfl
      case hr => kernel_rfl
      case hQ => exact fun _ _ _ h => h
      case hS => exact hHeld
      case hy =>
        refine Or.inl ⟨rfl, ?_⟩
        intro w hSw
        go_simp
      try simp only [Act.put, List.setIfInBounds_toArray, List.set_cons_zero, List.set_cons_succ]
      apply wpAnyH_take (i := 36) (v := .slice (some ⟨g, 0, none⟩) l.length c)
      case hi => (simp only [List.getElem?_toArray, List.getElem?_cons_zero, List.getElem?_cons_succ]; rfl)
      case hs => kernel_rfl
      case hf => kernel_rfl
      case hr => kernel_rfl
      case hQ => exact fun _ _ _ h => h
      case hS => exact hHeld
      case hy =>
        refine Or.inl ⟨rfl, ?_⟩
        intro w hSw
        go_simp
      try simp only [Act.put, List.setIfInBounds_toArray, List.set_cons_zero, List.set_cons_succ]
      apply wpAnyH_take (i := 37) (v := .int .i64 k)
      case hi => (simp only [List.getElem?_toArray, List.getElem?_cons_zero, List.getElem?_cons_succ]; rfl)
      case hs => kernel_rfl
      case hf => kernel_rfl
      case hr => kernel_rfl
      case hQ => exact fun _ _ _ h => h
      case hS => exact hHeld
      case hy =>
        refine Or.inl ⟨rfl, ?_⟩
        intro w hSw
        go_simp
      try simp only [Act.put, List.setIfInBounds_toArray, List.set_cons_zero, List.set_cons_succ]
      apply wpAnyH_take (i := 38) (v := .pointer (some ⟨g, k * 2, none⟩))
      case hi => (simp only [List.getElem?_toArray, List.getElem?_cons_zero, List.getElem?_cons_succ]; rfl)
      case hs => kernel_rfl
      case hf => kernel_rfl
      case hr => kernel_rfl
      case hQ => exact fun _ _ _ h => h
      case hS => exact hHeld
      case hy =>
        refine Or.inl ⟨rfl, ?_⟩
        intro w hSw
        go_simp
      try simp only [Act.put, List.setIfInBounds_toArray, List.set_cons_zero, List.set_cons_succ]
      apply wpAnyH_take (i := 39) (v := .pointer (some ⟨g, k * 2 + 1, none⟩))
      case hi => (simp only [List.getElem?_toArray, List.getElem?_cons_zero, List.getElem?_cons_succ]; rfl)
      case hs => kernel_rfl
      case hf => kernel_rfl
      case hr => kernel_rfl
      case hQ => exact fun _ _ _ h => h
      case hS => exact hHeld
      case hy =>
        refine Or.inl ⟨rfl, ?_⟩
        intro w hSw
        go_simp
      try simp only [Act.put, List.setIfInBounds_toArray, List.set_cons_zero, List.set_cons_succ]
      apply wpAnyH_take (i := 40) (v := .int .i64 x.id)
      case hi => (simp only [List.getElem?_toArray, List.getElem?_cons_zero, List.getElem?_cons_succ]; rfl)
      case hs => kernel_rfl
      case hf => kernel_rfl
      case hr => kernel_rfl
      case hQ => exact fun _ _ _ h => h
      case hS => exact hHeld
      case hy =>
        refine Or.inl ⟨rfl, ?_⟩
        intro w hSw
        go_simp
      try simp only [Act.put, List.setIfInBounds_toArray, List.set_cons_zero, List.set_cons_succ]
      apply wpAnyH_take (i := 41) (v := .int .u8 x.id)
      case hi => (simp only [List.getElem?_toArray, List.getElem?_cons_zero, List.getElem?_cons_succ]; rfl)
      case hs => kernel_rfl
      case hf => kernel_rfl
      case hr => kernel_rfl
      case hQ => exact fun _ _ _ h => h
      case hS => exact hHeld
      case hy =>
        refine Or.inl ⟨rfl, ?_⟩
        intro w hSw
        go_simp
      try simp only [Act.put, List.setIfInBounds_toArray, List.set_cons_zero, List.set_cons_succ]
      refine wpAnyH_ready (rs := [4, 12, 42]) (by kernel_rfl) (by simp) ?_
      refine AllReadyH.cons rfl (fun K hK => ?_) ?_
      · skip
        go_simp
        refine hK.out _ _ ?_ (fun hHeld2 => ?_)
        · exact hHeld.trans ((Kp.refl (fun _ => False) wd).alloc _) (fun _ h => h.elim)
        clear hK K hHeld
        try simp only [Act.put, List.setIfInBounds_toArray, List.set_cons_zero, List.set_cons_succ]
        obtain ⟨w1, hw1⟩ : ∃ W', wd.alloc (.cells (bs ([(x.s.length : Int)])).toArray 5) = W' := ⟨_, rfl⟩
        have hw1b := hw1
        simp only [bs, List.map_cons, List.map_nil] at hw1b
        rw [hw1b] at hHeld2 ⊢
        clear hw1b
        have hk1 : Kp (fun _ => False) wd w1 := by rw [← hw1]; exact (Kp.refl _ _).alloc _
        have hrA : RowE w1 wd.heap.size ([(x.s.length : Int)]) := by rw [← hw1]; exact new_blk _ _
        refine wpAnyH_rebase (S' := fun W => Kp (fun _ => False) w1 W) (fun W h => Kp.trans hHeld2 h (fun _ (h : False) => h.elim)) ?_
        have hHeld : Kp (fun _ => False) w1 w1 := Kp.refl _ _
        clear hw1 hHeld2
        generalize wd.heap.size = gA at *
        apply wpAnyH_take (i := 5) (v := .string (str ([(x.s.length : Int)])))
        case hi => (simp only [List.getElem?_toArray, List.getElem?_cons_zero, List.getElem?_cons_succ]; rfl)
        case hs => kernel_rfl
        case hf => kernel_rfl
        case hr => kernel_rfl
        case hQ => exact fun _ _ _ h => h
        case hS => exact hHeld
        case hy =>
          refine Or.inl ⟨rfl, ?_⟩
          intro w hSw
          have hcv := conv_str ((hrA.kp hSw (fun h => h)).sl (by simp [zs_length, maxLen]; try omega))
          simp only [zs_length, List.length_cons, List.length_nil] at hcv
          go_simp
        try simp only [Act.put, List.setIfInBounds_toArray, List.set_cons_zero, List.set_cons_succ]
        apply wpAnyH_take (i := 6) (v := .string (str (dirRow (l.take k) ++ [(x.s.length : Int)])))
        case hi => (simp only [List.getElem?_toArray, List.getElem?_cons_zero, List.getElem?_cons_succ]; rfl)
        case hs => kernel_rfl
        case hf => kernel_rfl
        case hr => kernel_rfl
        case hQ => exact fun _ _ _ h => h
        case hS => exact hHeld
        case hy =>
          refine Or.inl ⟨rfl, ?_⟩
          intro w hSw
          go_simp
          rw [if_neg (by simp only [str_size, List.length_append, List.length_cons, List.length_nil, zs_length]; omega)]
          simp [str_app]
        try simp only [Act.put, List.setIfInBounds_toArray, List.set_cons_zero, List.set_cons_succ]
        apply wpAnyH_take (i := 8) (v := .string (str (dirRow (l.take k) ++ [(x.s.length : Int)] ++ x.s)))
        case hi => (simp only [List.getElem?_toArray, List.getElem?_cons_zero, List.getElem?_cons_succ]; rfl)
        case hs => kernel_rfl
        case hf => kernel_rfl
        case hr => kernel_rfl
        case hQ => exact fun _ _ _ h => h
        case hS => exact hHeld
        case hy =>
          refine Or.inl ⟨rfl, ?_⟩
          intro w hSw
          go_simp
          rw [if_neg (by simp only [str_size, List.length_append, List.length_cons, List.length_nil, zs_length]; omega)]
          simp [str_app]
        try simp only [Act.put, List.setIfInBounds_toArray, List.set_cons_zero, List.set_cons_succ]
        refine wpAnyH_ready (rs := [12, 42]) (by kernel_rfl) (by simp) ?_
        refine AllReadyH.cons rfl (fun K hK => ?_) ?_
        · skip
          have hmk := make_bytes (27 - x.s.length) (by omega) w1
          go_simp
          refine hK.out _ _ ?_ (fun hHeld2 => ?_)
          · exact hHeld.trans ((Kp.refl (fun _ => False) w1).alloc _) (fun _ h => h.elim)
          clear hK K hHeld
          try simp only [Act.put, List.setIfInBounds_toArray, List.set_cons_zero, List.set_cons_succ]
          clear hmk
          obtain ⟨w2, hw2⟩ : ∃ W', w1.alloc (.cells (bs (zs (27 - x.s.length))).toArray 5) = W' := ⟨_, rfl⟩
          have hw2b := hw2
          rw [hw2b] at hHeld2 ⊢
          clear hw2b
          have hk2 : Kp (fun _ => False) w1 w2 := by rw [← hw2]; exact (Kp.refl _ _).alloc _
          have hrB : RowE w2 w1.heap.size (zs (27 - x.s.length)) := by rw [← hw2]; exact new_blk _ _
          have hrA := hrA.kp hk2 (fun h => h)
          refine wpAnyH_rebase (S' := fun W => Kp (fun _ => False) w2 W) (fun W h => Kp.trans hHeld2 h (fun _ (h : False) => h.elim)) ?_
          have hHeld : Kp (fun _ => False) w2 w2 := Kp.refl _ _
          clear hw2 hHeld2
          generalize w1.heap.size = gB at *
          apply wpAnyH_take (i := 13) (v := .string (str (zs (27 - x.s.length))))
          case hi => (simp only [List.getElem?_toArray, List.getElem?_cons_zero, List.getElem?_cons_succ]; rfl)
          case hs => kernel_rfl
          case hf => kernel_rfl
          case hr => kernel_rfl
          case hQ => exact fun _ _ _ h => h
          case hS => exact hHeld
          case hy =>
            refine Or.inl ⟨rfl, ?_⟩
            intro w hSw
            have hcv := conv_str ((hrB.kp hSw (fun h => h)).sl (by simp [zs_length, maxLen]; try omega))
            simp only [zs_length, List.length_cons, List.length_nil] at hcv
            go_simp
          try simp only [Act.put, List.setIfInBounds_toArray, List.set_cons_zero, List.set_cons_succ]
          apply wpAnyH_take (i := 14) (v := .string (str (dirRow (l.take k) ++ [(x.s.length : Int)] ++ x.s ++ zs (27 - x.s.length))))
          case hi => (simp only [List.getElem?_toArray, List.getElem?_cons_zero, List.getElem?_cons_succ]; rfl)
          case hs => kernel_rfl
          case hf => kernel_rfl
          case hr => kernel_rfl
          case hQ => exact fun _ _ _ h => h
          case hS => exact hHeld
          case hy =>
            refine Or.inl ⟨rfl, ?_⟩
            intro w hSw
            go_simp
            rw [if_neg (by simp only [str_size, List.length_append, List.length_cons, List.length_nil, zs_length]; omega)]
            simp [str_app]
          try simp only [Act.put, List.setIfInBounds_toArray, List.set_cons_zero, List.set_cons_succ]
          refine wpAnyH_ready (rs := [42]) (by kernel_rfl) (by simp) ?_
          refine AllReadyH.cons rfl (fun K hK => ?_) AllReadyH.nil
          go_simp
          refine hK.out _ _ ?_ (fun hHeld2 => ?_)
          · exact hHeld.trans ((Kp.refl (fun _ => False) w2).alloc _) (fun _ h => h.elim)
          clear hK K hHeld
          try simp only [Act.put, List.setIfInBounds_toArray, List.set_cons_zero, List.set_cons_succ]
          obtain ⟨w3, hw3⟩ : ∃ W', w2.alloc (.cells (bs ([0, 0, 0, (x.id : Int)])).toArray 5) = W' := ⟨_, rfl⟩
          have hw3b := hw3
          simp only [bs, List.map_cons, List.map_nil] at hw3b
          rw [hw3b] at hHeld2 ⊢
          clear hw3b
          have hk3 : Kp (fun _ => False) w2 w3 := by rw [← hw3]; exact (Kp.refl _ _).alloc _
          have hrC : RowE w3 w2.heap.size ([0, 0, 0, (x.id : Int)]) := by rw [← hw3]; exact new_blk _ _
          have hrA := hrA.kp hk3 (fun h => h)
          have hrB := hrB.kp hk3 (fun h => h)
          refine wpAnyH_rebase (S' := fun W => Kp (fun _ => False) w3 W) (fun W h => Kp.trans hHeld2 h (fun _ (h : False) => h.elim)) ?_
          have hHeld : Kp (fun _ => False) w3 w3 := Kp.refl _ _
          clear hw3 hHeld2
          generalize w2.heap.size = gC at *
          apply wpAnyH_take (i := 43) (v := .string (str ([0, 0, 0, (x.id : Int)])))
          case hi => (simp only [List.getElem?_toArray, List.getElem?_cons_zero, List.getElem?_cons_succ]; rfl)
          case hs => kernel_rfl
          case hf => kernel_rfl
          case hr => kernel_rfl
          case hQ => exact fun _ _ _ h => h
          case hS => exact hHeld
          case hy =>
            refine Or.inl ⟨rfl, ?_⟩
            intro w hSw
            have hcv := conv_str ((hrC.kp hSw (fun h => h)).sl (by simp [zs_length, maxLen]; try omega))
            simp only [zs_length, List.length_cons, List.length_nil] at hcv
            go_simp
          try simp only [Act.put, List.setIfInBounds_toArray, List.set_cons_zero, List.set_cons_succ]
          apply wpAnyH_take (i := 44) (v := .string (str (dirRow (l.take k) ++ [(x.s.length : Int)] ++ x.s ++ zs (27 - x.s.length) ++ [0, 0, 0, (x.id : Int)])))
          case hi => (simp only [List.getElem?_toArray, List.getElem?_cons_zero, List.getElem?_cons_succ]; rfl)
          case hs => kernel_rfl
          case hf => kernel_rfl
          case hr => kernel_rfl
          case hQ => exact fun _ _ _ h => h
          case hS => exact hHeld
          case hy =>
            refine Or.inl ⟨rfl, ?_⟩
            intro w hSw
            go_simp
            rw [if_neg (by simp only [str_size, List.length_append, List.length_cons, List.length_nil, zs_length]; omega)]
            simp [str_app]
          try simp only [Act.put, List.setIfInBounds_toArray, List.set_cons_zero, List.set_cons_succ]
          apply wpAnyH_take (i := 45) (v := .string (str (dirRow (l.take k) ++ [(x.s.length : Int)] ++ x.s ++ zs (27 - x.s.length) ++ [0, 0, 0, (x.id : Int)])))
          case hi => (simp only [List.getElem?_toArray, List.getElem?_cons_zero, List.getElem?_cons_succ]; rfl)
          case hs => kernel_rfl
          case hf => kernel_rfl
          case hr => kernel_rfl
          case hQ => exact fun _ _ _ h => h
          case hS => exact hHeld
          case hy =>
            refine Or.inl ⟨rfl, ?_⟩
            intro w hSw
            go_simp
          try simp only [Act.put, List.setIfInBounds_toArray, List.set_cons_zero, List.set_cons_succ]
          refine wpAnyH_done (by kernel_rfl) ?_ _
          go_wp2_with fail
          exact ⟨⟨k + 1, by rw [hTk], rfl, hlt, (((Hkp.out.trans hk0 (fun _ h => .inl h)).trans hk1 (fun _ h => .inl h)).trans hk2 (fun _ h => .inl h)).trans hk3 (fun _ h => .inl h)⟩, by simp [intOf]; omega⟩
        refine AllReadyH.cons rfl (fun K hK => ?_) AllReadyH.nil
        go_simp
        refine hK.out _ _ ?_ (fun hHeld2 => ?_)
        · exact hHeld.trans ((Kp.refl (fun _ => False) w1).alloc _) (fun _ h => h.elim)
        clear hK K hHeld
        try simp only [Act.put, List.setIfInBounds_toArray, List.set_cons_zero, List.set_cons_succ]
        obtain ⟨w2, hw2⟩ : ∃ W', w1.alloc (.cells (bs ([0, 0, 0, (x.id : Int)])).toArray 5) = W' := ⟨_, rfl⟩
        have hw2b := hw2
        simp only [bs, List.map_cons, List.map_nil] at hw2b
        rw [hw2b] at hHeld2 ⊢
        clear hw2b
        have hk2 : Kp (fun _ => False) w1 w2 := by rw [← hw2]; exact (Kp.refl _ _).alloc _
        have hrC : RowE w2 w1.heap.size ([0, 0, 0, (x.id : Int)]) := by rw [← hw2]; exact new_blk _ _
        have hrA := hrA.kp hk2 (fun h => h)
        refine wpAnyH_rebase (S' := fun W => Kp (fun _ => False) w2 W) (fun W h => Kp.trans hHeld2 h (fun _ (h : False) => h.elim)) ?_
        have hHeld : Kp (fun _ => False) w2 w2 := Kp.refl _ _
        clear hw2 hHeld2
        generalize w1.heap.size = gC at *
        apply wpAnyH_take (i := 43) (v := .string (str ([0, 0, 0, (x.id : Int)])))
        case hi => (simp only [List.getElem?_toArray, List.getElem?_cons_zero, List.getElem?_cons_succ]; rfl)
        case hs => kernel_rfl
        case hf => kernel_rfl
        case hr => kernel_rfl
        case hQ => exact fun _ _ _ h => h
        case hS => exact hHeld
        case hy =>
          refine Or.inl ⟨rfl, ?_⟩
          intro w hSw
          have hcv := conv_str ((hrC.kp hSw (fun h => h)).sl (by simp [zs_length, maxLen]; try omega))
          simp only [zs_length, List.length_cons, List.length_nil] at hcv
          go_simp
        try simp only [Act.put, List.setIfInBounds_toArray, List.set_cons_zero, List.set_cons_succ]
        refine wpAnyH_ready (rs := [12]) (by kernel_rfl) (by simp) ?_
        refine AllReadyH.cons rfl (fun K hK => ?_) AllReadyH.nil
        have hmk := make_bytes (27 - x.s.length) (by omega) w2
        go_simp
        refine hK.out _ _ ?_ (fun hHeld2 => ?_)
        · exact hHeld.trans ((Kp.refl (fun _ => False) w2).alloc _) (fun _ h => h.elim)
        clear hK K hHeld
        try simp only [Act.put, List.setIfInBounds_toArray, List.set_cons_zero, List.set_cons_succ]
        clear hmk
        obtain ⟨w3, hw3⟩ : ∃ W', w2.alloc (.cells (bs (zs (27 - x.s.length))).toArray 5) = W' := ⟨_, rfl⟩
        have hw3b := hw3
        rw [hw3b] at hHeld2 ⊢
        clear hw3b
        have hk3 : Kp (fun _ => False) w2 w3 := by rw [← hw3]; exact (Kp.refl _ _).alloc _
        have hrB : RowE w3 w2.heap.size (zs (27 - x.s.length)) := by rw [← hw3]; exact new_blk _ _
        have hrA := hrA.kp hk3 (fun h => h)
        have hrC := hrC.kp hk3 (fun h => h)
        refine wpAnyH_rebase (S' := fun W => Kp (fun _ => False) w3 W) (fun W h => Kp.trans hHeld2 h (fun _ (h : False) => h.elim)) ?_
        have hHeld : Kp (fun _ => False) w3 w3 := Kp.refl _ _
        clear hw3 hHeld2
        generalize w2.heap.size = gB at *
        apply wpAnyH_take (i := 13) (v := .string (str (zs (27 - x.s.length))))
        case hi => (simp only [List.getElem?_toArray, List.getElem?_cons_zero, List.getElem?_cons_succ]; rfl)
        case hs => kernel_rfl
        case hf => kernel_rfl
        case hr => kernel_rfl
        case hQ => exact fun _ _ _ h => h
        case hS => exact hHeld
        case hy =>
          refine Or.inl ⟨rfl, ?_⟩
          intro w hSw
          have hcv := conv_str ((hrB.kp hSw (fun h => h)).sl (by simp [zs_length, maxLen]; try omega))
          simp only [zs_length, List.length_cons, List.length_nil] at hcv
          go_simp
        try simp only [Act.put, List.setIfInBounds_toArray, List.set_cons_zero, List.set_cons_succ]
        apply wpAnyH_take (i := 14) (v := .string (str (dirRow (l.take k) ++ [(x.s.length : Int)] ++ x.s ++ zs (27 - x.s.length))))
        case hi => (simp only [List.getElem?_toArray, List.getElem?_cons_zero, List.getElem?_cons_succ]; rfl)
        case hs => kernel_rfl
        case hf => kernel_rfl
        case hr => kernel_rfl
        case hQ => exact fun _ _ _ h => h
        case hS => exact hHeld
        case hy =>
          refine Or.inl ⟨rfl, ?_⟩
          intro w hSw
          go_simp
          rw [if_neg (by simp only [str_size, List.length_append, List.length_cons, List.length_nil, zs_length]; omega)]
          simp [str_app]
        try simp only [Act.put, List.setIfInBounds_toArray, List.set_cons_zero, List.set_cons_succ]
        apply wpAnyH_take (i := 44) (v := .string (str (dirRow (l.take k) ++ [(x.s.length : Int)] ++ x.s ++ zs (27 - x.s.length) ++ [0, 0, 0, (x.id : Int)])))
        case hi => (simp only [List.getElem?_toArray, List.getElem?_cons_zero, List.getElem?_cons_succ]; rfl)
        case hs => kernel_rfl
        case hf => kernel_rfl
        case hr => kernel_rfl
        case hQ => exact fun _ _ _ h => h
        case hS => exact hHeld
        case hy =>
          refine Or.inl ⟨rfl, ?_⟩
          intro w hSw
          go_simp
          rw [if_neg (by simp only [str_size, List.length_append, List.length_cons, List.length_nil, zs_length]; omega)]
          simp [str_app]
        try simp only [Act.put, List.setIfInBounds_toArray, List.set_cons_zero, List.set_cons_succ]
        apply wpAnyH_take (i := 45) (v := .string (str (dirRow (l.take k) ++ [(x.s.length : Int)] ++ x.s ++ zs (27 - x.s.length) ++ [0, 0, 0, (x.id : Int)])))
        case hi => (simp only [List.getElem?_toArray, List.getElem?_cons_zero, List.getElem?_cons_succ]; rfl)
        case hs => kernel_rfl
        case hf => kernel_rfl
        case hr => kernel_rfl
        case hQ => exact fun _ _ _ h => h
        case hS => exact hHeld
        case hy =>
          refine Or.inl ⟨rfl, ?_⟩
          intro w hSw
          go_simp
        try simp only [Act.put, List.setIfInBounds_toArray, List.set_cons_zero, List.set_cons_succ]
        refine wpAnyH_done (by kernel_rfl) ?_ _
        go_wp2_with fail
        exact ⟨⟨k + 1, by rw [hTk], rfl, hlt, (((Hkp.out.trans hk0 (fun _ h => .inl h)).trans hk1 (fun _ h => .inl h)).trans hk2 (fun _ h => .inl h)).trans hk3 (fun _ h => .inl h)⟩, by simp [intOf]; omega⟩
      refine AllReadyH.cons rfl (fun K hK => ?_) ?_
      · skip
        have hmk := make_bytes (27 - x.s.length) (by omega) wd
        go_simp
        refine hK.out _ _ ?_ (fun hHeld2 => ?_)
        · exact hHeld.trans ((Kp.refl (fun _ => False) wd).alloc _) (fun _ h => h.elim)
        clear hK K hHeld
        try simp only [Act.put, List.setIfInBounds_toArray, List.set_cons_zero, List.set_cons_succ]
        clear hmk
        obtain ⟨w1, hw1⟩ : ∃ W', wd.alloc (.cells (bs (zs (27 - x.s.length))).toArray 5) = W' := ⟨_, rfl⟩
        have hw1b := hw1
        rw [hw1b] at hHeld2 ⊢
        clear hw1b
        have hk1 : Kp (fun _ => False) wd w1 := by rw [← hw1]; exact (Kp.refl _ _).alloc _
        have hrB : RowE w1 wd.heap.size (zs (27 - x.s.length)) := by rw [← hw1]; exact new_blk _ _
        refine wpAnyH_rebase (S' := fun W => Kp (fun _ => False) w1 W) (fun W h => Kp.trans hHeld2 h (fun _ (h : False) => h.elim)) ?_
        have hHeld : Kp (fun _ => False) w1 w1 := Kp.refl _ _
        clear hw1 hHeld2
        generalize wd.heap.size = gB at *
        apply wpAnyH_take (i := 13) (v := .string (str (zs (27 - x.s.length))))
        case hi => (simp only [List.getElem?_toArray, List.getElem?_cons_zero, List.getElem?_cons_succ]; rfl)
        case hs => kernel_rfl
        case hf => kernel_rfl
        case hr => kernel_rfl
        case hQ => exact fun _ _ _ h => h
        case hS => exact hHeld
        case hy =>
          refine Or.inl ⟨rfl, ?_⟩
          intro w hSw
          have hcv := conv_str ((hrB.kp hSw (fun h => h)).sl (by simp [zs_length, maxLen]; try omega))
          simp only [zs_length, List.length_cons, List.length_nil] at hcv
          go_simp
        try simp only [Act.put, List.setIfInBounds_toArray, List.set_cons_zero, List.set_cons_succ]
        refine wpAnyH_ready (rs := [4, 42]) (by kernel_rfl) (by simp) ?_
        refine AllReadyH.cons rfl (fun K hK => ?_) ?_
        · skip
          go_simp
          refine hK.out _ _ ?_ (fun hHeld2 => ?_)
          · exact hHeld.trans ((Kp.refl (fun _ => False) w1).alloc _) (fun _ h => h.elim)
          clear hK K hHeld
          try simp only [Act.put, List.setIfInBounds_toArray, List.set_cons_zero, List.set_cons_succ]
          obtain ⟨w2, hw2⟩ : ∃ W', w1.alloc (.cells (bs ([(x.s.length : Int)])).toArray 5) = W' := ⟨_, rfl⟩
          have hw2b := hw2
          simp only [bs, List.map_cons, List.map_nil] at hw2b
          rw [hw2b] at hHeld2 ⊢
          clear hw2b
          have hk2 : Kp (fun _ => False) w1 w2 := by rw [← hw2]; exact (Kp.refl _ _).alloc _
          have hrA : RowE w2 w1.heap.size ([(x.s.length : Int)]) := by rw [← hw2]; exact new_blk _ _
          have hrB := hrB.kp hk2 (fun h => h)
          refine wpAnyH_rebase (S' := fun W => Kp (fun _ => False) w2 W) (fun W h => Kp.trans hHeld2 h (fun _ (h : False) => h.elim)) ?_
          have hHeld : Kp (fun _ => False) w2 w2 := Kp.refl _ _
          clear hw2 hHeld2
          generalize w1.heap.size = gA at *
          apply wpAnyH_take (i := 5) (v := .string (str ([(x.s.length : Int)])))
          case hi => (simp only [List.getElem?_toArray, List.getElem?_cons_zero, List.getElem?_cons_succ]; rfl)
          case hs => kernel_rfl
          case hf => kernel_rfl
          case hr => kernel_rfl
          case hQ => exact fun _ _ _ h => h
          case hS => exact hHeld
          case hy =>
            refine Or.inl ⟨rfl, ?_⟩
            intro w hSw
            have hcv := conv_str ((hrA.kp hSw (fun h => h)).sl (by simp [zs_length, maxLen]; try omega))
            simp only [zs_length, List.length_cons, List.length_nil] at hcv
            go_simp
          try simp only [Act.put, List.setIfInBounds_toArray, List.set_cons_zero, List.set_cons_succ]
          apply wpAnyH_take (i := 6) (v := .string (str (dirRow (l.take k) ++ [(x.s.length : Int)])))
          case hi => (simp only [List.getElem?_toArray, List.getElem?_cons_zero, List.getElem?_cons_succ]; rfl)
          case hs => kernel_rfl
          case hf => kernel_rfl
          case hr => kernel_rfl
          case hQ => exact fun _ _ _ h => h
          case hS => exact hHeld
          case hy =>
            refine Or.inl ⟨rfl, ?_⟩
            intro w hSw
            go_simp
            rw [if_neg (by simp only [str_size, List.length_append, List.length_cons, List.length_nil, zs_length]; omega)]
            simp [str_app]
          try simp only [Act.put, List.setIfInBounds_toArray, List.set_cons_zero, List.set_cons_succ]
          apply wpAnyH_take (i := 8) (v := .string (str (dirRow (l.take k) ++ [(x.s.length : Int)] ++ x.s)))
          case hi => (simp only [List.getElem?_toArray, List.getElem?_cons_zero, List.getElem?_cons_succ]; rfl)
          case hs => kernel_rfl
          case hf => kernel_rfl
          case hr => kernel_rfl
          case hQ => exact fun _ _ _ h => h
          case hS => exact hHeld
          case hy =>
            refine Or.inl ⟨rfl, ?_⟩
            intro w hSw
            go_simp
            rw [if_neg (by simp only [str_size, List.length_append, List.length_cons, List.length_nil, zs_length]; omega)]
            simp [str_app]
          try simp only [Act.put, List.setIfInBounds_toArray, List.set_cons_zero, List.set_cons_succ]
          apply wpAnyH_take (i := 14) (v := .string (str (dirRow (l.take k) ++ [(x.s.length : Int)] ++ x.s ++ zs (27 - x.s.length))))
          case hi => (simp only [List.getElem?_toArray, List.getElem?_cons_zero, List.getElem?_cons_succ]; rfl)
          case hs => kernel_rfl
          case hf => kernel_rfl
          case hr => kernel_rfl
          case hQ => exact fun _ _ _ h => h
          case hS => exact hHeld
          case hy =>
            refine Or.inl ⟨rfl, ?_⟩
            intro w hSw
            go_simp
            rw [if_neg (by simp only [str_size, List.length_append, List.length_cons, List.length_nil, zs_length]; omega)]
            simp [str_app]
          try simp only [Act.put, List.setIfInBounds_toArray, List.set_cons_zero, List.set_cons_succ]
          refine wpAnyH_ready (rs := [42]) (by kernel_rfl) (by simp) ?_
          refine AllReadyH.cons rfl (fun K hK => ?_) AllReadyH.nil
          go_simp
          refine hK.out _ _ ?_ (fun hHeld2 => ?_)
          · exact hHeld.trans ((Kp.refl (fun _ => False) w2).alloc _) (fun _ h => h.elim)
          clear hK K hHeld
          try simp only [Act.put, List.setIfInBounds_toArray, List.set_cons_zero, List.set_cons_succ]
          obtain ⟨w3, hw3⟩ : ∃ W', w2.alloc (.cells (bs ([0, 0, 0, (x.id : Int)])).toArray 5) = W' := ⟨_, rfl⟩
          have hw3b := hw3
          simp only [bs, List.map_cons, List.map_nil] at hw3b
          rw [hw3b] at hHeld2 ⊢
          clear hw3b
          have hk3 : Kp (fun _ => False) w2 w3 := by rw [← hw3]; exact (Kp.refl _ _).alloc _
          have hrC : RowE w3 w2.heap.size ([0, 0, 0, (x.id : Int)]) := by rw [← hw3]; exact new_blk _ _
          have hrB := hrB.kp hk3 (fun h => h)
          have hrA := hrA.kp hk3 (fun h => h)
          refine wpAnyH_rebase (S' := fun W => Kp (fun _ => False) w3 W) (fun W h => Kp.trans hHeld2 h (fun _ (h : False) => h.elim)) ?_
          have hHeld : Kp (fun _ => False) w3 w3 := Kp.refl _ _
          clear hw3 hHeld2
          generalize w2.heap.size = gC at *
          apply wpAnyH_take (i := 43) (v := .string (str ([0, 0, 0, (x.id : Int)])))
          case hi => (simp only [List.getElem?_toArray, List.getElem?_cons_zero, List.getElem?_cons_succ]; rfl)
          case hs => kernel_rfl
          case hf => kernel_rfl
          case hr => kernel_rfl
          case hQ => exact fun _ _ _ h => h
          case hS => exact hHeld
          case hy =>
            refine Or.inl ⟨rfl, ?_⟩
            intro w hSw
            have hcv := conv_str ((hrC.kp hSw (fun h => h)).sl (by simp [zs_length, maxLen]; try omega))
            simp only [zs_length, List.length_cons, List.length_nil] at hcv
            go_simp
          try simp only [Act.put, List.setIfInBounds_toArray, List.set_cons_zero, List.set_cons_succ]
          apply wpAnyH_take (i := 44) (v := .string (str (dirRow (l.take k) ++ [(x.s.length : Int)] ++ x.s ++ zs (27 - x.s.length) ++ [0, 0, 0, (x.id : Int)])))
          case hi => (simp only [List.getElem?_toArray, List.getElem?_cons_zero, List.getElem?_cons_succ]; rfl)
          case hs => kernel_rfl
          case hf => kernel_rfl
          case hr => kernel_rfl
          case hQ => exact fun _ _ _ h => h
          case hS => exact hHeld
          case hy =>
            refine Or.inl ⟨rfl, ?_⟩
            intro w hSw
            go_simp
            rw [if_neg (by simp only [str_size, List.length_append, List.length_cons, List.length_nil, zs_length]; omega)]
            simp [str_app]
          try simp only [Act.put, List.setIfInBounds_toArray, List.set_cons_zero, List.set_cons_succ]
          apply wpAnyH_take (i := 45) (v := .string (str (dirRow (l.take k) ++ [(x.s.length : Int)] ++ x.s ++ zs (27 - x.s.length) ++ [0, 0, 0, (x.id : Int)])))
          case hi => (simp only [List.getElem?_toArray, List.getElem?_cons_zero, List.getElem?_cons_succ]; rfl)
          case hs => kernel_rfl
          case hf => kernel_rfl
          case hr => kernel_rfl
          case hQ => exact fun _ _ _ h => h
          case hS => exact hHeld
          case hy =>
            refine Or.inl ⟨rfl, ?_⟩
            intro w hSw
            go_simp
          try simp only [Act.put, List.setIfInBounds_toArray, List.set_cons_zero, List.set_cons_succ]
          refine wpAnyH_done (by kernel_rfl) ?_ _
          go_wp2_with fail
          exact ⟨⟨k + 1, by rw [hTk], rfl, hlt, (((Hkp.out.trans hk0 (fun _ h => .inl h)).trans hk1 (fun _ h => .inl h)).trans hk2 (fun _ h => .inl h)).trans hk3 (fun _ h => .inl h)⟩, by simp [intOf]; omega⟩
        refine AllReadyH.cons rfl (fun K hK => ?_) AllReadyH.nil
        go_simp
        refine hK.out _ _ ?_ (fun hHeld2 => ?_)
        · exact hHeld.trans ((Kp.refl (fun _ => False) w1).alloc _) (fun _ h => h.elim)
        clear hK K hHeld
        try simp only [Act.put, List.setIfInBounds_toArray, List.set_cons_zero, List.set_cons_succ]
        obtain ⟨w2, hw2⟩ : ∃ W', w1.alloc (.cells (bs ([0, 0, 0, (x.id : Int)])).toArray 5) = W' := ⟨_, rfl⟩
        have hw2b := hw2
        simp only [bs, List.map_cons, List.map_nil] at hw2b
        rw [hw2b] at hHeld2 ⊢
        clear hw2b
        have hk2 : Kp (fun _ => False) w1 w2 := by rw [← hw2]; exact (Kp.refl _ _).alloc _
        have hrC : RowE w2 w1.heap.size ([0, 0, 0, (x.id : Int)]) := by rw [← hw2]; exact new_blk _ _
        have hrB := hrB.kp hk2 (fun h => h)
        refine wpAnyH_rebase (S' := fun W => Kp (fun _ => False) w2 W) (fun W h => Kp.trans hHeld2 h (fun _ (h : False) => h.elim)) ?_
        have hHeld : Kp (fun _ => False) w2 w2 := Kp.refl _ _
        clear hw2 hHeld2
        generalize w1.heap.size = gC at *
        apply wpAnyH_take (i := 43) (v := .string (str ([0, 0, 0, (x.id : Int)])))
        case hi => (simp only [List.getElem?_toArray, List.getElem?_cons_zero, List.getElem?_cons_succ]; rfl)
        case hs => kernel_rfl
        case hf => kernel_rfl
        case hr => kernel_rfl
        case hQ => exact fun _ _ _ h => h
        case hS => exact hHeld
        case hy =>
          refine Or.inl ⟨rfl, ?_⟩
          intro w hSw
          have hcv := conv_str ((hrC.kp hSw (fun h => h)).sl (by simp [zs_length, maxLen]; try omega))
          simp only [zs_length, List.length_cons, List.length_nil] at hcv
          go_simp
        try simp only [Act.put, List.setIfInBounds_toArray, List.set_cons_zero, List.set_cons_succ]
        refine wpAnyH_ready (rs := [4]) (by kernel_rfl) (by simp) ?_
        refine AllReadyH.cons rfl (fun K hK => ?_) AllReadyH.nil
        go_simp
        refine hK.out _ _ ?_ (fun hHeld2 => ?_)
        · exact hHeld.trans ((Kp.refl (fun _ => False) w2).alloc _) (fun _ h => h.elim)
        clear hK K hHeld
        try simp only [Act.put, List.setIfInBounds_toArray, List.set_cons_zero, List.set_cons_succ]
        obtain ⟨w3, hw3⟩ : ∃ W', w2.alloc (.cells (bs ([(x.s.length : Int)])).toArray 5) = W' := ⟨_, rfl⟩
        have hw3b := hw3
        simp only [bs, List.map_cons, List.map_nil] at hw3b
        rw [hw3b] at hHeld2 ⊢
        clear hw3b
        have hk3 : Kp (fun _ => False) w2 w3 := by rw [← hw3]; exact (Kp.refl _ _).alloc _
        have hrA : RowE w3 w2.heap.size ([(x.s.length : Int)]) := by rw [← hw3]; exact new_blk _ _
        have hrB := hrB.kp hk3 (fun h => h)
        have hrC := hrC.kp hk3 (fun h => h)
        refine wpAnyH_rebase (S' := fun W => Kp (fun _ => False) w3 W) (fun W h => Kp.trans hHeld2 h (fun _ (h : False) => h.elim)) ?_
        have hHeld : Kp (fun _ => False) w3 w3 := Kp.refl _ _
        clear hw3 hHeld2
        generalize w2.heap.size = gA at *
        apply wpAnyH_take (i := 5) (v := .string (str ([(x.s.length : Int)])))
        case hi => (simp only [List.getElem?_toArray, List.getElem?_cons_zero, List.getElem?_cons_succ]; rfl)
        case hs => kernel_rfl
        case hf => kernel_rfl
        case hr => kernel_rfl
        case hQ => exact fun _ _ _ h => h
        case hS => exact hHeld
        case hy =>
          refine Or.inl ⟨rfl, ?_⟩
          intro w hSw
          have hcv := conv_str ((hrA.kp hSw (fun h => h)).sl (by simp [zs_length, maxLen]; try omega))
          simp only [zs_length, List.length_cons, List.length_nil] at hcv
          go_simp
        try simp only [Act.put, List.setIfInBounds_toArray, List.set_cons_zero, List.set_cons_succ]
        apply wpAnyH_take (i := 6) (v := .string (str (dirRow (l.take k) ++ [(x.s.length : Int)])))
        case hi => (simp only [List.getElem?_toArray, List.getElem?_cons_zero, List.getElem?_cons_succ]; rfl)
        case hs => kernel_rfl
        case hf => kernel_rfl
        case hr => kernel_rfl
        case hQ => exact fun _ _ _ h => h
        case hS => exact hHeld
        case hy =>
          refine Or.inl ⟨rfl, ?_⟩
          intro w hSw
          go_simp
          rw [if_neg (by simp only [str_size, List.length_append, List.length_cons, List.length_nil, zs_length]; omega)]
          simp [str_app]
        try simp only [Act.put, List.setIfInBounds_toArray, List.set_cons_zero, List.set_cons_succ]
        apply wpAnyH_take (i := 8) (v := .string (str (dirRow (l.take k) ++ [(x.s.length : Int)] ++ x.s)))
        case hi => (simp only [List.getElem?_toArray, List.getElem?_cons_zero, List.getElem?_cons_succ]; rfl)
        case hs => kernel_rfl
        case hf => kernel_rfl
        case hr => kernel_rfl
        case hQ => exact fun _ _ _ h => h
        case hS => exact hHeld
        case hy =>
          refine Or.inl ⟨rfl, ?_⟩
          intro w hSw
          go_simp
          rw [if_neg (by simp only [str_size, List.length_append, List.length_cons, List.length_nil, zs_length]; omega)]
          simp [str_app]
        try simp only [Act.put, List.setIfInBounds_toArray, List.set_cons_zero, List.set_cons_succ]
        apply wpAnyH_take (i := 14) (v := .string (str (dirRow (l.take k) ++ [(x.s.length : Int)] ++ x.s ++ zs (27 - x.s.length))))
        case hi => (simp only [List.getElem?_toArray, List.getElem?_cons_zero, List.getElem?_cons_succ]; rfl)
        case hs => kernel_rfl
        case hf => kernel_rfl
        case hr => kernel_rfl
        case hQ => exact fun _ _ _ h => h
        case hS => exact hHeld
        case hy =>
          refine Or.inl ⟨rfl, ?_⟩
          intro w hSw
          go_simp
          rw [if_neg (by simp only [str_size, List.length_append, List.length_cons, List.length_nil, zs_length]; omega)]
          simp [str_app]
        try simp only [Act.put, List.setIfInBounds_toArray, List.set_cons_zero, List.set_cons_succ]
        apply wpAnyH_take (i := 44) (v := .string (str (dirRow (l.take k) ++ [(x.s.length : Int)] ++ x.s ++ zs (27 - x.s.length) ++ [0, 0, 0, (x.id : Int)])))
        case hi => (simp only [List.getElem?_toArray, List.getElem?_cons_zero, List.getElem?_cons_succ]; rfl)
        case hs => kernel_rfl
        case hf => kernel_rfl
        case hr => kernel_rfl
        case hQ => exact fun _ _ _ h => h
        case hS => exact hHeld
        case hy =>
          refine Or.inl ⟨rfl, ?_⟩
          intro w hSw
          go_simp
          rw [if_neg (by simp only [str_size, List.length_append, List.length_cons, List.length_nil, zs_length]; omega)]
          simp [str_app]
        try simp only [Act.put, List.setIfInBounds_toArray, List.set_cons_zero, List.set_cons_succ]
        apply wpAnyH_take (i := 45) (v := .string (str (dirRow (l.take k) ++ [(x.s.length : Int)] ++ x.s ++ zs (27 - x.s.length) ++ [0, 0, 0, (x.id : Int)])))
        case hi => (simp only [List.getElem?_toArray, List.getElem?_cons_zero, List.getElem?_cons_succ]; rfl)
        case hs => kernel_rfl
        case hf => kernel_rfl
        case hr => kernel_rfl
        case hQ => exact fun _ _ _ h => h
        case hS => exact hHeld
        case hy =>
          refine Or.inl ⟨rfl, ?_⟩
          intro w hSw
          go_simp
        try simp only [Act.put, List.setIfInBounds_toArray, List.set_cons_zero, List.set_cons_succ]
        refine wpAnyH_done (by kernel_rfl) ?_ _
        go_wp2_with fail
        exact ⟨⟨k + 1, by rw [hTk], rfl, hlt, (((Hkp.out.trans hk0 (fun _ h => .inl h)).trans hk1 (fun _ h => .inl h)).trans hk2 (fun _ h => .inl h)).trans hk3 (fun _ h => .inl h)⟩, by simp [intOf]; omega⟩
      refine AllReadyH.cons rfl (fun K hK => ?_) AllReadyH.nil
      go_simp
      refine hK.out _ _ ?_ (fun hHeld2 => ?_)
      · exact hHeld.trans ((Kp.refl (fun _ => False) wd).alloc _) (fun _ h => h.elim)
      clear hK K hHeld
      try simp only [Act.put, List.setIfInBounds_toArray, List.set_cons_zero, List.set_cons_succ]
      obtain ⟨w1, hw1⟩ : ∃ W', wd.alloc (.cells (bs ([0, 0, 0, (x.id : Int)])).toArray 5) = W' := ⟨_, rfl⟩
      have hw1b := hw1
      simp only [bs, List.map_cons, List.map_nil] at hw1b
      rw [hw1b] at hHeld2 ⊢
      clear hw1b
      have hk1 : Kp (fun _ => False) wd w1 := by rw [← hw1]; exact (Kp.refl _ _).alloc _
      have hrC : RowE w1 wd.heap.size ([0, 0, 0, (x.id : Int)]) := by rw [← hw1]; exact new_blk _ _
      refine wpAnyH_rebase (S' := fun W => Kp (fun _ => False) w1 W) (fun W h => Kp.trans hHeld2 h (fun _ (h : False) => h.elim)) ?_
      have hHeld : Kp (fun _ => False) w1 w1 := Kp.refl _ _
      clear hw1 hHeld2
      generalize wd.heap.size = gC at *
      apply wpAnyH_take (i := 43) (v := .string (str ([0, 0, 0, (x.id : Int)])))
      case hi => (simp only [List.getElem?_toArray, List.getElem?_cons_zero, List.getElem?_cons_succ]; rfl)
      case hs => kernel_rfl
      case hf => kernel_rfl
      case hr => kernel_rfl
      case hQ => exact fun _ _ _ h => h
      case hS => exact hHeld
      case hy =>
        refine Or.inl ⟨rfl, ?_⟩
        intro w hSw
        have hcv := conv_str ((hrC.kp hSw (fun h => h)).sl (by simp [zs_length, maxLen]; try omega))
        simp only [zs_length, List.length_cons, List.length_nil] at hcv
        go_simp
      try simp only [Act.put, List.setIfInBounds_toArray, List.set_cons_zero, List.set_cons_succ]
      refine wpAnyH_ready (rs := [4, 12]) (by kernel_rfl) (by simp) ?_
      refine AllReadyH.cons rfl (fun K hK => ?_) ?_
      · skip
        go_simp
        refine hK.out _ _ ?_ (fun hHeld2 => ?_)
        · exact hHeld.trans ((Kp.refl (fun _ => False) w1).alloc _) (fun _ h => h.elim)
        clear hK K hHeld
        try simp only [Act.put, List.setIfInBounds_toArray, List.set_cons_zero, List.set_cons_succ]
        obtain ⟨w2, hw2⟩ : ∃ W', w1.alloc (.cells (bs ([(x.s.length : Int)])).toArray 5) = W' := ⟨_, rfl⟩
        have hw2b := hw2
        simp only [bs, List.map_cons, List.map_nil] at hw2b
        rw [hw2b] at hHeld2 ⊢
        clear hw2b
        have hk2 : Kp (fun _ => False) w1 w2 := by rw [← hw2]; exact (Kp.refl _ _).alloc _
        have hrA : RowE w2 w1.heap.size ([(x.s.length : Int)]) := by rw [← hw2]; exact new_blk _ _
        have hrC := hrC.kp hk2 (fun h => h)
        refine wpAnyH_rebase (S' := fun W => Kp (fun _ => False) w2 W) (fun W h => Kp.trans hHeld2 h (fun _ (h : False) => h.elim)) ?_
        have hHeld : Kp (fun _ => False) w2 w2 := Kp.refl _ _
        clear hw2 hHeld2
        generalize w1.heap.size = gA at *
        apply wpAnyH_take (i := 5) (v := .string (str ([(x.s.length : Int)])))
        case hi => (simp only [List.getElem?_toArray, List.getElem?_cons_zero, List.getElem?_cons_succ]; rfl)
        case hs => kernel_rfl
        case hf => kernel_rfl
        case hr => kernel_rfl
        case hQ => exact fun _ _ _ h => h
        case hS => exact hHeld
        case hy =>
          refine Or.inl ⟨rfl, ?_⟩
          intro w hSw
          have hcv := conv_str ((hrA.kp hSw (fun h => h)).sl (by simp [zs_length, maxLen]; try omega))
          simp only [zs_length, List.length_cons, List.length_nil] at hcv
          go_simp
        try simp only [Act.put, List.setIfInBounds_toArray, List.set_cons_zero, List.set_cons_succ]
        apply wpAnyH_take (i := 6) (v := .string (str (dirRow (l.take k) ++ [(x.s.length : Int)])))
        case hi => (simp only [List.getElem?_toArray, List.getElem?_cons_zero, List.getElem?_cons_succ]; rfl)
        case hs => kernel_rfl
        case hf => kernel_rfl
        case hr => kernel_rfl
        case hQ => exact fun _ _ _ h => h
        case hS => exact hHeld
        case hy =>
          refine Or.inl ⟨rfl, ?_⟩
          intro w hSw
          go_simp
          rw [if_neg (by simp only [str_size, List.length_append, List.length_cons, List.length_nil, zs_length]; omega)]
          simp [str_app]
        try simp only [Act.put, List.setIfInBounds_toArray, List.set_cons_zero, List.set_cons_succ]
        apply wpAnyH_take (i := 8) (v := .string (str (dirRow (l.take k) ++ [(x.s.length : Int)] ++ x.s)))
        case hi => (simp only [List.getElem?_toArray, List.getElem?_cons_zero, List.getElem?_cons_succ]; rfl)
        case hs => kernel_rfl
        case hf => kernel_rfl
        case hr => kernel_rfl
        case hQ => exact fun _ _ _ h => h
        case hS => exact hHeld
        case hy =>
          refine Or.inl ⟨rfl, ?_⟩
          intro w hSw
          go_simp
          rw [if_neg (by simp only [str_size, List.length_append, List.length_cons, List.length_nil, zs_length]; omega)]
          simp [str_app]
        try simp only [Act.put, List.setIfInBounds_toArray, List.set_cons_zero, List.set_cons_succ]
        refine wpAnyH_ready (rs := [12]) (by kernel_rfl) (by simp) ?_
        refine AllReadyH.cons rfl (fun K hK => ?_) AllReadyH.nil
        have hmk := make_bytes (27 - x.s.length) (by omega) w2
        go_simp
        refine hK.out _ _ ?_ (fun hHeld2 => ?_)
        · exact hHeld.trans ((Kp.refl (fun _ => False) w2).alloc _) (fun _ h => h.elim)
        clear hK K hHeld
        try simp only [Act.put, List.setIfInBounds_toArray, List.set_cons_zero, List.set_cons_succ]
        clear hmk
        obtain ⟨w3, hw3⟩ : ∃ W', w2.alloc (.cells (bs (zs (27 - x.s.length))).toArray 5) = W' := ⟨_, rfl⟩
        have hw3b := hw3
        rw [hw3b] at hHeld2 ⊢
        clear hw3b
        have hk3 : Kp (fun _ => False) w2 w3 := by rw [← hw3]; exact (Kp.refl _ _).alloc _
        have hrB : RowE w3 w2.heap.size (zs (27 - x.s.length)) := by rw [← hw3]; exact new_blk _ _
        have hrC := hrC.kp hk3 (fun h => h)
        have hrA := hrA.kp hk3 (fun h => h)
        refine wpAnyH_rebase (S' := fun W => Kp (fun _ => False) w3 W) (fun W h => Kp.trans hHeld2 h (fun _ (h : False) => h.elim)) ?_
        have hHeld : Kp (fun _ => False) w3 w3 := Kp.refl _ _
        clear hw3 hHeld2
        generalize w2.heap.size = gB at *
        apply wpAnyH_take (i := 13) (v := .string (str (zs (27 - x.s.length))))
        case hi => (simp only [List.getElem?_toArray, List.getElem?_cons_zero, List.getElem?_cons_succ]; rfl)
        case hs => kernel_rfl
        case hf => kernel_rfl
        case hr => kernel_rfl
        case hQ => exact fun _ _ _ h => h
        case hS => exact hHeld
        case hy =>
          refine Or.inl ⟨rfl, ?_⟩
          intro w hSw
          have hcv := conv_str ((hrB.kp hSw (fun h => h)).sl (by simp [zs_length, maxLen]; try omega))
          simp only [zs_length, List.length_cons, List.length_nil] at hcv
          go_simp
        try simp only [Act.put, List.setIfInBounds_toArray, List.set_cons_zero, List.set_cons_succ]
        apply wpAnyH_take (i := 14) (v := .string (str (dirRow (l.take k) ++ [(x.s.length : Int)] ++ x.s ++ zs (27 - x.s.length))))
        case hi => (simp only [List.getElem?_toArray, List.getElem?_cons_zero, List.getElem?_cons_succ]; rfl)
        case hs => kernel_rfl
        case hf => kernel_rfl
        case hr => kernel_rfl
        case hQ => exact fun _ _ _ h => h
        case hS => exact hHeld
        case hy =>
          refine Or.inl ⟨rfl, ?_⟩
          intro w hSw
          go_simp
          rw [if_neg (by simp only [str_size, List.length_append, List.length_cons, List.length_nil, zs_length]; omega)]
          simp [str_app]
        try simp only [Act.put, List.setIfInBounds_toArray, List.set_cons_zero, List.set_cons_succ]
        apply wpAnyH_take (i := 44) (v := .string (str (dirRow (l.take k) ++ [(x.s.length : Int)] ++ x.s ++ zs (27 - x.s.length) ++ [0, 0, 0, (x.id : Int)])))
        case hi => (simp only [List.getElem?_toArray, List.getElem?_cons_zero, List.getElem?_cons_succ]; rfl)
        case hs => kernel_rfl
        case hf => kernel_rfl
        case hr => kernel_rfl
        case hQ => exact fun _ _ _ h => h
        case hS => exact hHeld
        case hy =>
          refine Or.inl ⟨rfl, ?_⟩
          intro w hSw
          go_simp
          rw [if_neg (by simp only [str_size, List.length_append, List.length_cons, List.length_nil, zs_length]; omega)]
          simp [str_app]
        try simp only [Act.put, List.setIfInBounds_toArray, List.set_cons_zero, List.set_cons_succ]
        apply wpAnyH_take (i := 45) (v := .string (str (dirRow (l.take k) ++ [(x.s.length : Int)] ++ x.s ++ zs (27 - x.s.length) ++ [0, 0, 0, (x.id : Int)])))
        case hi => (simp only [List.getElem?_toArray, List.getElem?_cons_zero, List.getElem?_cons_succ]; rfl)
        case hs => kernel_rfl
        case hf => kernel_rfl
        case hr => kernel_rfl
        case hQ => exact fun _ _ _ h => h
        case hS => exact hHeld
        case hy =>
          refine Or.inl ⟨rfl, ?_⟩
          intro w hSw
          go_simp
        try simp only [Act.put, List.setIfInBounds_toArray, List.set_cons_zero, List.set_cons_succ]
        refine wpAnyH_done (by kernel_rfl) ?_ _
        go_wp2_with fail
        exact ⟨⟨k + 1, by rw [hTk], rfl, hlt, (((Hkp.out.trans hk0 (fun _ h => .inl h)).trans hk1 (fun _ h => .inl h)).trans hk2 (fun _ h => .inl h)).trans hk3 (fun _ h => .inl h)⟩, by simp [intOf]; omega⟩
      refine AllReadyH.cons rfl (fun K hK => ?_) AllReadyH.nil
      have hmk := make_bytes (27 - x.s.length) (by omega) w1
      go_simp
      refine hK.out _ _ ?_ (fun hHeld2 => ?_)
      · exact hHeld.trans ((Kp.refl (fun _ => False) w1).alloc _) (fun _ h => h.elim)
      clear hK K hHeld
      try simp only [Act.put, List.setIfInBounds_toArray, List.set_cons_zero, List.set_cons_succ]
      clear hmk
      obtain ⟨w2, hw2⟩ : ∃ W', w1.alloc (.cells (bs (zs (27 - x.s.length))).toArray 5) = W' := ⟨_, rfl⟩
      have hw2b := hw2
      rw [hw2b] at hHeld2 ⊢
      clear hw2b
      have hk2 : Kp (fun _ => False) w1 w2 := by rw [← hw2]; exact (Kp.refl _ _).alloc _
      have hrB : RowE w2 w1.heap.size (zs (27 - x.s.length)) := by rw [← hw2]; exact new_blk _ _
      have hrC := hrC.kp hk2 (fun h => h)
      refine wpAnyH_rebase (S' := fun W => Kp (fun _ => False) w2 W) (fun W h => Kp.trans hHeld2 h (fun _ (h : False) => h.elim)) ?_
      have hHeld : Kp (fun _ => False) w2 w2 := Kp.refl _ _
      clear hw2 hHeld2
      generalize w1.heap.size = gB at *
      apply wpAnyH_take (i := 13) (v := .string (str (zs (27 - x.s.length))))
      case hi => (simp only [List.getElem?_toArray, List.getElem?_cons_zero, List.getElem?_cons_succ]; rfl)
      case hs => kernel_rfl
      case hf => kernel_rfl
      case hr => kernel_rfl
      case hQ => exact fun _ _ _ h => h
      case hS => exact hHeld
      case hy =>
        refine Or.inl ⟨rfl, ?_⟩
        intro w hSw
        have hcv := conv_str ((hrB.kp hSw (fun h => h)).sl (by simp [zs_length, maxLen]; try omega))
        simp only [zs_length, List.length_cons, List.length_nil] at hcv
        go_simp
      try simp only [Act.put, List.setIfInBounds_toArray, List.set_cons_zero, List.set_cons_succ]
      refine wpAnyH_ready (rs := [4]) (by kernel_rfl) (by simp) ?_
      refine AllReadyH.cons rfl (fun K hK => ?_) AllReadyH.nil
      go_simp
      refine hK.out _ _ ?_ (fun hHeld2 => ?_)
      · exact hHeld.trans ((Kp.refl (fun _ => False) w2).alloc _) (fun _ h => h.elim)
      clear hK K hHeld
      try simp only [Act.put, List.setIfInBounds_toArray, List.set_cons_zero, List.set_cons_succ]
      obtain ⟨w3, hw3⟩ : ∃ W', w2.alloc (.cells (bs ([(x.s.length : Int)])).toArray 5) = W' := ⟨_, rfl⟩
      have hw3b := hw3
      simp only [bs, List.map_cons, List.map_nil] at hw3b
      rw [hw3b] at hHeld2 ⊢
      clear hw3b
      have hk3 : Kp (fun _ => False) w2 w3 := by rw [← hw3]; exact (Kp.refl _ _).alloc _
      have hrA : RowE w3 w2.heap.size ([(x.s.length : Int)]) := by rw [← hw3]; exact new_blk _ _
      have hrC := hrC.kp hk3 (fun h => h)
      have hrB := hrB.kp hk3 (fun h => h)
      refine wpAnyH_rebase (S' := fun W => Kp (fun _ => False) w3 W) (fun W h => Kp.trans hHeld2 h (fun _ (h : False) => h.elim)) ?_
      have hHeld : Kp (fun _ => False) w3 w3 := Kp.refl _ _
      clear hw3 hHeld2
      generalize w2.heap.size = gA at *
      apply wpAnyH_take (i := 5) (v := .string (str ([(x.s.length : Int)])))
      case hi => (simp only [List.getElem?_toArray, List.getElem?_cons_zero, List.getElem?_cons_succ]; rfl)
      case hs => kernel_rfl
      case hf => kernel_rfl
      case hr => kernel_rfl
      case hQ => exact fun _ _ _ h => h
      case hS => exact hHeld
      case hy =>
        refine Or.inl ⟨rfl, ?_⟩
        intro w hSw
        have hcv := conv_str ((hrA.kp hSw (fun h => h)).sl (by simp [zs_length, maxLen]; try omega))
        simp only [zs_length, List.length_cons, List.length_nil] at hcv
        go_simp
      try simp only [Act.put, List.setIfInBounds_toArray, List.set_cons_zero, List.set_cons_succ]
      apply wpAnyH_take (i := 6) (v := .string (str (dirRow (l.take k) ++ [(x.s.length : Int)])))
      case hi => (simp only [List.getElem?_toArray, List.getElem?_cons_zero, List.getElem?_cons_succ]; rfl)
      case hs => kernel_rfl
      case hf => kernel_rfl
      case hr => kernel_rfl
      case hQ => exact fun _ _ _ h => h
      case hS => exact hHeld
      case hy =>
        refine Or.inl ⟨rfl, ?_⟩
        intro w hSw
        go_simp
        rw [if_neg (by simp only [str_size, List.length_append, List.length_cons, List.length_nil, zs_length]; omega)]
        simp [str_app]
      try simp only [Act.put, List.setIfInBounds_toArray, List.set_cons_zero, List.set_cons_succ]
      apply wpAnyH_take (i := 8) (v := .string (str (dirRow (l.take k) ++ [(x.s.length : Int)] ++ x.s)))
      case hi => (simp only [List.getElem?_toArray, List.getElem?_cons_zero, List.getElem?_cons_succ]; rfl)
      case hs => kernel_rfl
      case hf => kernel_rfl
      case hr => kernel_rfl
      case hQ => exact fun _ _ _ h => h
      case hS => exact hHeld
      case hy =>
        refine Or.inl ⟨rfl, ?_⟩
        intro w hSw
        go_simp
        rw [if_neg (by simp only [str_size, List.length_append, List.length_cons, List.length_nil, zs_length]; omega)]
        simp [str_app]
      try simp only [Act.put, List.setIfInBounds_toArray, List.set_cons_zero, List.set_cons_succ]
      apply wpAnyH_take (i := 14) (v := .string (str (dirRow (l.take k) ++ [(x.s.length : Int)] ++ x.s ++ zs (27 - x.s.length))))
      case hi => (simp only [List.getElem?_toArray, List.getElem?_cons_zero, List.getElem?_cons_succ]; rfl)
      case hs => kernel_rfl
      case hf => kernel_rfl
      case hr => kernel_rfl
      case hQ => exact fun _ _ _ h => h
      case hS => exact hHeld
      case hy =>
        refine Or.inl ⟨rfl, ?_⟩
        intro w hSw
        go_simp
        rw [if_neg (by simp only [str_size, List.length_append, List.length_cons, List.length_nil, zs_length]; omega)]
        simp [str_app]
      try simp only [Act.put, List.setIfInBounds_toArray, List.set_cons_zero, List.set_cons_succ]
      apply wpAnyH_take (i := 44) (v := .string (str (dirRow (l.take k) ++ [(x.s.length : Int)] ++ x.s ++ zs (27 - x.s.length) ++ [0, 0, 0, (x.id : Int)])))
      case hi => (simp only [List.getElem?_toArray, List.getElem?_cons_zero, List.getElem?_cons_succ]; rfl)
      case hs => kernel_rfl
      case hf => kernel_rfl
      case hr => kernel_rfl
      case hQ => exact fun _ _ _ h => h
      case hS => exact hHeld
      case hy =>
        refine Or.inl ⟨rfl, ?_⟩
        intro w hSw
        go_simp
        rw [if_neg (by simp only [str_size, List.length_append, List.length_cons, List.length_nil, zs_length]; omega)]
        simp [str_app]
      try simp only [Act.put, List.setIfInBounds_toArray, List.set_cons_zero, List.set_cons_succ]
      apply wpAnyH_take (i := 45) (v := .string (str (dirRow (l.take k) ++ [(x.s.length : Int)] ++ x.s ++ zs (27 - x.s.length) ++ [0, 0, 0, (x.id : Int)])))
      case hi => (simp only [List.getElem?_toArray, List.getElem?_cons_zero, List.getElem?_cons_succ]; rfl)
      case hs => kernel_rfl
      case hf => kernel_rfl
      case hr => kernel_rfl
      case hQ => exact fun _ _ _ h => h
      case hS => exact hHeld
      case hy =>
        refine Or.inl ⟨rfl, ?_⟩
        intro w hSw
        go_simp
      try simp only [Act.put, List.setIfInBounds_toArray, List.set_cons_zero, List.set_cons_succ]
      refine wpAnyH_done (by kernel_rfl) ?_ _
      go_wp2_with fail
      exact ⟨⟨k + 1, by rw [hTk], rfl, hlt, (((Hkp.out.trans hk0 (fun _ h => .inl h)).trans hk1 (fun _ h => .inl h)).trans hk2 (fun _ h => .inl h)).trans hk3 (fun _ h => .inl h)⟩, by simp [intOf]; omega⟩
    · have hkl : k = l.length := by omega
      subst hkl
      have hltz : ¬ (l.length : Int) < (l.length : Int) := by omega
      have Hkp := Lib.hid hkp
      clear hkp
      rw [List.take_length]
      go_wp2_with fail
      go_ret
      exact ⟨rfl, Hkp.out⟩
end Go.Proofs.YthjbpbahcemfgaaGreatDoor
