/- A slice of structs whose fields are one cell each, opened: what a walk that only reads it wants. -/
/- InodePlays: the walk, put together. -/
/- InodePlays, for every input: the call returns true, and the arguments read as before. No condition of our own. -/
import Derived.Deep.Fields
import Derived.Deep.Slices
import Derived.Test.YthjbpbahcemfgaaGreatDoorP8A0
import Derived.Test.YthjbpbahcemfgaaGreatDoorP8A1
import Derived.Test.YthjbpbahcemfgaaGreatDoorP8A2
import Derived.Test.YthjbpbahcemfgaaGreatDoorP8A3
import Derived.Test.YthjbpbahcemfgaaGreatDoorP8A4
import Derived.Test.YthjbpbahcemfgaaGreatDoorP8AR
import Derived.Test.YthjbpbahcemfgaaGreatDoorRows
import Derived.Test.YthjbpbahcemfgaaGreatDoorCards
import Derived.Test.YthjbpbahcemfgaaGreatDoorTie
import Derived.ProofKit
import Derived.OpenShut
import Derived.LaidMore
import Derived.LaidHandle
import Derived.Stop.Joined
import Derived.Stop.LaidErr
import Derived.Lib.LaidTab
import Derived.Deep.Grids
import Derived.Carry
import Derived.SevenTiedAt
namespace Go.Proofs.YthjbpbahcemfgaaGreatDoor
set_option linter.unusedVariables false
set_option linter.unusedSimpArgs false
open Go.Deep Go.ChangeShapes Go.WideShapes

theorem open_slice_fields {H : Type} {enc : TypeId × Value → H} {P : Program} {w : World} {base : Nat} {spare : Nat → Bool} {held : Bool} {t e : TypeId} {fs : Array Field} {fuel : Nat} {cs : List Value} {x : DataW H × List MemPlace}
    (ht : P.underlying t = some (.slice e)) (he : P.underlying e = some (.struct fs)) (hone : oneCellFields P fs = true) (ce : P.cellsOf e = fs.size) (h : DataW.trod enc P w base spare held fuel t cs = some x) :
    cs = [.slice none 0 0] ∨ ∃ (a : Addr) (len cap : Nat), cs = [.slice (some a) len cap] ∧ len ≤ cap ∧ cap ≤ maxLen ∧
      ∀ j, j < len → ∀ (i : Nat) (f : Field), fs[i]? = some f → ∃ v n y, w.cell? ((a.add (j * fs.size)).add i) = some v ∧ DataW.trod enc P w base spare held n f.type [v] = some y := by
  rcases open_slice ht h with h0 | ⟨a, len, cap, m, n, D, Pl, rfl, hb, hl, hm, hmm, rfl, hx⟩
  · exact Or.inl h0.1
  right
  have hlm : len ≤ m := by rw [hmm]; split <;> omega
  refine ⟨a, len, cap, rfl, hl, hm, fun j hj i f hi => ?_⟩
  obtain ⟨cs', h1, h2⟩ := hx j (by omega)
  rw [ce] at h1
  obtain ⟨_, hlen, hcell⟩ := World.cells?_some h1
  obtain ⟨xs, k, hk, hxy, _, hxl, hf⟩ := DataW.trod_struct he h2
  have hlt : i < fs.size := (Array.getElem?_eq_some_iff.1 hi).1
  obtain ⟨ho, hc1⟩ := hone_of hone i f hi
  have g := hf i f hi
  rw [ho, hc1, take1_drop cs' i undef (by omega), List.getElem?_eq_getElem (by omega)] at g
  refine ⟨cs'.getD i undef, k, _, ?_, g⟩
  rw [hcell i hlt, List.getElem?_eq_getElem (by omega)]
  simp [List.getD, List.getElem?_eq_getElem (show i < cs'.length by omega)]
end Go.Proofs.YthjbpbahcemfgaaGreatDoor
namespace Go.Proofs.YthjbpbahcemfgaaGreatDoor
set_option linter.unusedVariables false
set_option linter.unusedSimpArgs false
open Go.RowKit
set_option maxRecDepth 20000
theorem plays8_walk {w : World} (hg : Gl w) (he : Ge w) (hng : NG ≤ w.heap.size) (a : Int) (A : Option Addr) (len cap : Nat) (hlen : len ≤ cap) (hcap : cap ≤ maxLen)
    (hA : 0 < len → ∃ ad, A = some ad ∧ ∀ i, i < len → ∃ z0 z1 z2 z3 z4 : Int, (w.cell? (ad.add (i * 5)) = some (.int .i64 z0) ∧ w.cell? ⟨(ad.add (i * 5)).block, (ad.add (i * 5)).off + 1, none⟩ = some (.int .i64 z1) ∧ w.cell? ⟨(ad.add (i * 5)).block, (ad.add (i * 5)).off + 2, none⟩ = some (.int .i64 z2) ∧ w.cell? ⟨(ad.add (i * 5)).block, (ad.add (i * 5)).off + 3, none⟩ = some (.int .i64 z3) ∧ w.cell? ⟨(ad.add (i * 5)).block, (ad.add (i * 5)).off + 4, none⟩ = some (.int .i64 z4)) ∧ (-9223372036854775808 ≤ z0 ∧ z0 ≤ 9223372036854775807 ∧ -9223372036854775808 ≤ z1 ∧ z1 ≤ 9223372036854775807 ∧ -9223372036854775808 ≤ z2 ∧ z2 ≤ 9223372036854775807 ∧ -9223372036854775808 ≤ z3 ∧ z3 ≤ 9223372036854775807 ∧ -9223372036854775808 ≤ z4 ∧ z4 ≤ 9223372036854775807)) :
    Calls Tryz.prog 4 #[.int .i64 a, .slice A len cap] w fun e w' => e = .returned (.bool true) ∧ Kp (fun _ => False) w w' :=
  (plays8_base ⟨plays8_arm0⟩ ⟨plays8_arm1⟩ ⟨plays8_arm2⟩ ⟨plays8_arm3⟩ ⟨plays8_arm4⟩ ⟨plays8_armR⟩).down w hg he hng a A len cap hlen hcap hA
end Go.Proofs.YthjbpbahcemfgaaGreatDoor
namespace Go.Proofs.YthjbpbahcemfgaaGreatDoor.Plays8Row
set_option linter.unusedVariables false
set_option linter.unusedSimpArgs false
open Go.ChangeShapes Go.WideShapes Go.ChangeAt Go.RowKit Go.Deep
set_option maxRecDepth 100000
set_option maxHeartbeats 1000000

theorem own : ownKnob Tryz.prog.godebug = none := by kernel_rfl
theorem laidOut : laidOutB Tryz.prog = true := by kernel_rfl
theorem gType : (Tryz.prog.globals[2]?).map (·.type) = some 261 := by kernel_rfl
theorem cellsOp : Tryz.prog.cellsOf 47 = 5 := by kernel_rfl
theorem cellsE : Tryz.prog.cellsOf 89 = 1 := by kernel_rfl
theorem cellsT : Tryz.prog.cellsOf 261 = 20 := by kernel_rfl

/-- The door's own heap meets the condition. -/
theorem door_met (os : Os) (args : Array Value) : laidMetH Tryz.prog Rows.inodePlaysRow.laid ((World.doorLaid Tryz.prog 600 os).forCall (fun _ _ => 0) ⟨#[], args, []⟩).memory :=
  laidMetH_of_parts3 (fuel := 8) (laidMet_of_run' 8 (by kernel_rfl) (by kernel_rfl)) (by kernel_rfl) (by kernel_rfl)

theorem et : Tryz.prog.globalNamed "errors.errorType" = some 0 := by kernel_rfl
theorem rt : (Tryz.prog.cutTypes.find? (·.1 == "internal/reflectlite.rtype")).map (·.2) = some 203 := by kernel_rfl
theorem oneRow : ((List.range 297).filter fun t => Tryz.prog.rowNamed t [101, 114, 114, 111, 114]) = [28] := by kernel_rfl
theorem size : Tryz.prog.types.size = 297 := by kernel_rfl

/-- What the condition gives the walk. -/
theorem of_laid {W : World} (h : laidMetH Tryz.prog Rows.inodePlaysRow.laid W) : Gl W ∧ NG ≤ W.heap.size ∧ Ge W := by
  have h0 : laidMet Tryz.prog [("math/bits.deBruijn32tab", Rows.laid_math_bits_deBruijn32tab), ("math/bits.deBruijn64tab", Rows.laid_math_bits_deBruijn64tab), ("internal/strconv.uint64pow10", Rows.laid_internal_strconv_uint64pow10)] W ∧ handlesMet Tryz.prog [("errors.errorType", Rows.laid_errors_errorType)] W := h
  have h1 := h0.1
  have h2 : laidMet Tryz.prog (("internal/strconv.uint64pow10", Lib.tabData .u64 Lib.pow10Tab) :: []) W := h1.tail.tail
  have h3 : Gl W := Lib.tabIs_of_head gl_at gType Tryz.underlying261 Tryz.underlying89 cellsE cellsT h2
  refine ⟨h3, ?_, ?_⟩
  · unfold Gl Lib.TabIs World.var? at h3
    simp only [gl_at, Option.bind_some] at h3
    cases hw : W.heap[2]? with
    | none => rw [hw] at h3; cases h3
    | some o => exact lt_blk hw
  · obtain ⟨name, u, ty, e1, e2, e3, e4, e5⟩ := h0.2 _ (List.mem_singleton.2 rfl)
    have en : name = [101, 114, 114, 111, 114] := (Option.some.inj e1).symm
    subst en
    obtain rfl := Option.some.inj (rt.symm.trans e2)
    have hm : ty ∈ (List.range 297).filter fun t => Tryz.prog.rowNamed t [101, 114, 114, 111, 114] := List.mem_filter.2 ⟨List.mem_range.2 (by rw [← size]; exact e3), e4⟩
    rw [oneRow] at hm
    obtain rfl := List.mem_singleton.1 hm
    have hh : typeHandle Tryz.prog 28 = .pointer (some ⟨5, 28, none⟩) := by kernel_rfl
    rw [hh] at e5
    unfold Ge
    simpa using World.var?_cell et e5 0

theorem kp_below {W W' : World} (h : Kp (fun _ => False) W W') : Below W.heap.size W W' := h.below (Nat.le_refl _) (fun _ h => h.elim)

theorem lifted (os : Os) (started : os.Started) (H : Type) (enc : TypeId × Value → H) :
    ReturnsInHanded {} Tryz.checked os 4 .any (fun w args => (Rows.inodePlaysSpec.pre enc Tryz.prog Tryz.f4 [] false w args ∧ laidMetH Tryz.prog Rows.inodePlaysRow.laid w) ∧ sizedMet enc Tryz.prog Tryz.f4 (OpenSpec.ofChange Rows.inodePlaysSpec) false w args)
      (Rows.inodePlaysSpec.post enc Tryz.prog Tryz.f4 false true false false) := by
  refine returnsInHanded_of_change_and (C := Tryz.checked) (X := fun w _ => laidMetH Tryz.prog Rows.inodePlaysRow.laid w) (fun _ _ _ hh h => h.of_heap hh) own started (by kernel_rfl) Tryz.func4
    (ChangeSpec.witness_shaped (enc := enc) (C := Tryz.checked) (os := os) (X := fun w _ => laidMetH Tryz.prog Rows.inodePlaysRow.laid w) false (World.doorLaid Tryz.prog 600 os) #[.int .i64 0, .slice none 0 0] 8 rfl (World.shaped_of_RefB (by kernel_rfl) (by kernel_rfl)) (by kernel_rfl) (by kernel_rfl) (by kernel_rfl) (door_met os _)) ?_
  intro W base args ds gs before hval0 hW _ _ hL _
  have hval : ∀ (j : Nat) t v, Tryz.f4.params[j]? = some t → args[j]? = some v → Value.okWide Tryz.prog W .any base t v := hval0
  have hW' := hW
  obtain ⟨p, q, hA0, hV, rfl, hfz, hnd⟩ := hW
  have hA : DataW.TrodAll enc Tryz.prog W 0 (fun _ => true) true Tryz.f4.params.toList args.toList ds p := hA0
  rw [Tryz.params4] at hA hval
  obtain ⟨v0, vs0, d0, ds0, p0, q0, hargs, rfl, rfl, h0, r0⟩ := trodAll_cons hA
  obtain ⟨v1, vs1, d1, ds1, p1, q1, rfl, rfl, rfl, h1, r1⟩ := trodAll_cons r0
  obtain ⟨rfl, rfl, rfl⟩ := trodAll_nil r1
  obtain rfl : args = #[v0, v1] := by cases args; simp_all
  obtain ⟨rfl, rfl⟩ := trodVars_none hV
  obtain ⟨hg, hng, he⟩ := of_laid hL
  obtain ⟨a0, rfl, rfl, rfl, w0⟩ := open_int Tryz.underlying3 (hval 0 3 v0 rfl rfl) h0
  have h1k := h1
  have hlt : ∀ x ∈ p1, x.block < W.heap.size := fun x hx => by simpa using hW'.lt x (by simpa using hx)
  have hend : Calls Tryz.prog 4 #[.int .i64 a0, v1] W fun e w' => e = .returned (.bool true) ∧ Kp (fun _ => False) W w' := by
    have hs : ∃ A l c, v1 = .slice A l c := by
      have := hval 1 38 v1 rfl rfl
      cases v1 <;> simp_all [Value.okWide, Tryz.underlying38, Cell.okWide, Cell.ok]
    obtain ⟨A, l, c, rfl⟩ := hs
    obtain ⟨n1, t1⟩ := h1
    rcases open_slice_fields Tryz.underlying38 Tryz.underlying47 (by kernel_rfl) cellsOp t1 with hc | ⟨a, len, cap, hc, hl, hm, hall⟩
    · simp only [Value.cells, List.cons.injEq, Value.slice.injEq, and_true] at hc
      obtain ⟨rfl, rfl, rfl⟩ := hc
      exact plays8_walk hg he hng a0 none 0 0 (Nat.le_refl _) (by decide) (fun h => absurd h (Nat.lt_irrefl _))
    · simp only [Value.cells, List.cons.injEq, Value.slice.injEq, and_true] at hc
      obtain ⟨rfl, rfl, rfl⟩ := hc
      refine plays8_walk hg he hng a0 _ _ _ hl hm (fun _ => ⟨a, rfl, fun j hj => ?_⟩)
      obtain ⟨v0, n0, y0, c0, t0⟩ := hall j hj 0 _ rfl
      obtain ⟨v1, n1, y1, c1, t1⟩ := hall j hj 1 _ rfl
      obtain ⟨v2, n2, y2, c2, t2⟩ := hall j hj 2 _ rfl
      obtain ⟨v3, n3, y3, c3, t3⟩ := hall j hj 3 _ rfl
      obtain ⟨v4, n4, y4, c4, t4⟩ := hall j hj 4 _ rfl
      obtain ⟨N0, e0, _, w0⟩ := DataW.trod_int Tryz.underlying3 t0
      obtain ⟨N1, e1, _, w1⟩ := DataW.trod_int Tryz.underlying3 t1
      obtain ⟨N2, e2, _, w2⟩ := DataW.trod_int Tryz.underlying3 t2
      obtain ⟨N3, e3, _, w3⟩ := DataW.trod_int Tryz.underlying3 t3
      obtain ⟨N4, e4, _, w4⟩ := DataW.trod_int Tryz.underlying3 t4
      simp only [List.cons.injEq, and_true] at e0 e1 e2 e3 e4
      subst e0 e1 e2 e3 e4
      simp only [Lit.wf, Bool.and_eq_true, decide_eq_true_eq] at w0 w1 w2 w3 w4
      exact ⟨N0, N1, N2, N3, N4, ⟨c0, c1, c2, c3, c4⟩, w0.1, w0.2, w1.1, w1.2, w2.1, w2.2, w3.1, w3.2, w4.1, w4.2⟩
  clear hA0 hval0
  simp only [List.append_nil] at hW'
  refine hend.mono fun e W' ⟨he, hk⟩ => ?_
  subst he
  have hb := kp_below hk
  refine ⟨_, rfl, _, _, _, [], [] ++ (p1 ++ []), [], hW', ?_, ?_, rfl, hb.frame _, fun h => by cases h⟩
  · exact trodAll_mk1 (shut_bool Tryz.underlying4 true)
  · exact trodAll_cons_mk (shut_int Tryz.underlying3 w0) (trodAll_cons_mk (Below.trod laidOut (by kernel_rfl) (of_decide_eq_true (by kernel_rfl)) h1k hb hlt) trodAll_mk0)

theorem over : Rows.InodePlaysSaid :=
  OpenClaim.holds_of_wide 4 Tryz.f4 rfl rfl rfl rfl rfl rfl rfl ⟨rfl, rfl, rfl, rfl, rfl⟩ rfl rfl rfl rfl rfl (by kernel_rfl) Tryz.func4 (by kernel_rfl)
    (of_decide_eq_true (by kernel_rfl)) (by unfold Func.isWrapper; first | (rw [if_pos (by decide +kernel)]; kernel_rfl) | (rw [if_neg (by decide +kernel)]; exact ⟨rfl, rfl⟩))
    (fun os started H enc _ => lifted os started H enc)

end Go.Proofs.YthjbpbahcemfgaaGreatDoor.Plays8Row
namespace Go.Proofs.YthjbpbahcemfgaaGreatDoor
set_option linter.unusedVariables false
set_option linter.unusedSimpArgs false
open Go

theorem inodePlays_holds : Rows.InodePlaysCardSaid :=
  Claim7.holds_tied_plain_at .later [] [.data, .data, .data, .handle] true (true, Rows.inodePlaysCard.stood.harness.2) true
    Plays8Row.over (fun _ h => by cases h) (by kernel_rfl) (fun _ h => by cases h) inodePlays_row_tie rfl ⟨rfl, rfl⟩ (by kernel_rfl) rfl
    (fun f fn hf hfn => by
      obtain rfl : f = 4 := Option.some.inj ((show Tryz.prog.funcNamed "credenza/credenzalaw8.InodePlays" = some 4 by kernel_rfl).symm.trans hf) |>.symm
      obtain rfl : fn = Tryz.f4 := (Option.some.inj (Tryz.func4.symm.trans hfn)).symm
      exact ⟨by kernel_rfl, fun j t ht => by
        rw [Tryz.params4] at ht
        rcases j with _ | _ | j
        · obtain rfl : t = 3 := by simpa using ht.symm
          exact (show Tryz.prog.wantsStandIn 3 = false by kernel_rfl)
        · obtain rfl : t = 38 := by simpa using ht.symm
          exact (show Tryz.prog.wantsStandIn 38 = false by kernel_rfl)
        · simp at ht⟩)
    (by kernel_rfl)
#print axioms inodePlays_holds
end Go.Proofs.YthjbpbahcemfgaaGreatDoor
