/- CachePlays, for every input: the call returns true, and the arguments read as before. No condition of our own. -/
import Derived.Test.YtmafihodbbagbaaGreatDoorCPlays
import Derived.Test.YtmafihodbbagbaaGreatDoorRows
import Derived.Test.YtmafihodbbagbaaGreatDoorCards
import Derived.Test.YtmafihodbbagbaaGreatDoorTie
import Derived.ProofKit
import Derived.OpenShut
import Derived.LaidMore
import Derived.LaidHandle
import Derived.Stop.Joined
import Derived.Stop.LaidErr
import Derived.Lib.LaidTab
import Derived.Deep.Grids
import Derived.Test.YtmafihodbbagbaaGreatDoorSlF
import Derived.Carry
import Derived.SevenTiedAt
namespace Go.Proofs.YtmafihodbbagbaaGreatDoor.CPlaysRow
open Go.ChangeShapes Go.WideShapes Go.ChangeAt Go.RowKit Go.Deep
set_option maxRecDepth 100000
set_option maxHeartbeats 1000000

theorem own : ownKnob Tryz.prog.godebug = none := by kernel_rfl
theorem laidOut : laidOutB Tryz.prog = true := by kernel_rfl
theorem gType : (Tryz.prog.globals[1]?).map (·.type) = some 165 := by kernel_rfl
theorem cellsOp : Tryz.prog.cellsOf 32 = 5 := by kernel_rfl
theorem cellsE : Tryz.prog.cellsOf 56 = 1 := by kernel_rfl
theorem cellsT : Tryz.prog.cellsOf 165 = 20 := by kernel_rfl

/-- The door's own heap meets the condition. -/
theorem door_met (os : Os) (args : Array Value) : laidMetH Tryz.prog Rows.cachePlaysRow.laid ((World.doorLaid Tryz.prog 600 os).forCall (fun _ _ => 0) ⟨#[], args, []⟩).memory :=
  laidMetH_of_parts3 (fuel := 8) (laidMet_of_run' 8 (by kernel_rfl) (by kernel_rfl)) (by kernel_rfl) (by kernel_rfl)

theorem et : Tryz.prog.globalNamed "errors.errorType" = some 0 := by kernel_rfl
theorem rt : (Tryz.prog.cutTypes.find? (·.1 == "internal/reflectlite.rtype")).map (·.2) = some 117 := by kernel_rfl
theorem oneRow : ((List.range 200).filter fun t => Tryz.prog.rowNamed t [101, 114, 114, 111, 114]) = [37] := by kernel_rfl
theorem size : Tryz.prog.types.size = 200 := by kernel_rfl

/-- What the condition gives the walk. -/
theorem of_laid {W : World} (h : laidMetH Tryz.prog Rows.cachePlaysRow.laid W) : Gl W ∧ NG ≤ W.heap.size ∧ Ge W := by
  have h0 : laidMet Tryz.prog [("math/bits.deBruijn32tab", Rows.laid_math_bits_deBruijn32tab), ("math/bits.deBruijn64tab", Rows.laid_math_bits_deBruijn64tab), ("internal/strconv.uint64pow10", Rows.laid_internal_strconv_uint64pow10)] W ∧ handlesMet Tryz.prog [("errors.errorType", Rows.laid_errors_errorType)] W := h
  have h1 := h0.1
  have h2 : laidMet Tryz.prog (("internal/strconv.uint64pow10", Lib.tabData .u64 Lib.pow10Tab) :: []) W := h1.tail.tail
  have h3 : Gl W := Lib.tabIs_of_head gl_at gType Tryz.underlying165 Tryz.underlying56 cellsE cellsT h2
  refine ⟨h3, ?_, ?_⟩
  · unfold Gl Lib.TabIs World.var? at h3
    simp only [gl_at, Option.bind_some] at h3
    cases hw : W.heap[1]? with
    | none => rw [hw] at h3; cases h3
    | some o => exact lt_blk hw
  · obtain ⟨name, u, ty, e1, e2, e3, e4, e5⟩ := h0.2 _ (List.mem_singleton.2 rfl)
    have en : name = [101, 114, 114, 111, 114] := (Option.some.inj e1).symm
    subst en
    obtain rfl := Option.some.inj (rt.symm.trans e2)
    have hm : ty ∈ (List.range 200).filter fun t => Tryz.prog.rowNamed t [101, 114, 114, 111, 114] := List.mem_filter.2 ⟨List.mem_range.2 (by rw [← size]; exact e3), e4⟩
    rw [oneRow] at hm
    obtain rfl := List.mem_singleton.1 hm
    have hh : typeHandle Tryz.prog 37 = .pointer (some ⟨4, 37, none⟩) := by kernel_rfl
    rw [hh] at e5
    unfold Ge
    simpa using World.var?_cell et e5 0

theorem kp_below {W W' : World} (h : Kp (fun _ => False) W W') : Below W.heap.size W W' := h.below (Nat.le_refl _) (fun _ h => h.elim)

theorem lifted (os : Os) (started : os.Started) (H : Type) (enc : TypeId × Value → H) :
    ReturnsInHanded {} Tryz.checked os 3 .any (fun w args => (Rows.cachePlaysSpec.pre enc Tryz.prog Tryz.f3 [] false w args ∧ laidMetH Tryz.prog Rows.cachePlaysRow.laid w) ∧ sizedMet enc Tryz.prog Tryz.f3 (OpenSpec.ofChange Rows.cachePlaysSpec) false w args)
      (Rows.cachePlaysSpec.post enc Tryz.prog Tryz.f3 false true false false) := by
  refine returnsInHanded_of_change_and (C := Tryz.checked) (X := fun w _ => laidMetH Tryz.prog Rows.cachePlaysRow.laid w) (fun _ _ _ hh h => h.of_heap hh) own started (by kernel_rfl) Tryz.func3
    (ChangeSpec.witness_shaped (enc := enc) (C := Tryz.checked) (os := os) (X := fun w _ => laidMetH Tryz.prog Rows.cachePlaysRow.laid w) false (World.doorLaid Tryz.prog 600 os) #[.int .i64 0, .slice none 0 0] 8 rfl (World.shaped_of_RefB (by kernel_rfl) (by kernel_rfl)) (by kernel_rfl) (by kernel_rfl) (by kernel_rfl) (door_met os _)) ?_
  intro W base args ds gs before hval0 hW _ _ hL _
  have hval : ∀ (j : Nat) t v, Tryz.f3.params[j]? = some t → args[j]? = some v → Value.okWide Tryz.prog W .any base t v := hval0
  have hW' := hW
  obtain ⟨p, q, hA0, hV, rfl, hfz, hnd⟩ := hW
  have hA : DataW.TrodAll enc Tryz.prog W 0 (fun _ => true) true Tryz.f3.params.toList args.toList ds p := hA0
  rw [Tryz.params3] at hA hval
  obtain ⟨v0, vs0, d0, ds0, p0, q0, hargs, rfl, rfl, h0, r0⟩ := trodAll_cons hA
  obtain ⟨v1, vs1, d1, ds1, p1, q1, rfl, rfl, rfl, h1, r1⟩ := trodAll_cons r0
  obtain ⟨rfl, rfl, rfl⟩ := trodAll_nil r1
  obtain rfl : args = #[v0, v1] := by cases args; simp_all
  obtain ⟨rfl, rfl⟩ := trodVars_none hV
  obtain ⟨hg, hng, he⟩ := of_laid hL
  obtain ⟨a0, rfl, rfl, rfl, w0⟩ := open_int Tryz.underlying3 (hval 0 3 v0 rfl rfl) h0
  have h1k := h1
  have hlt : ∀ x ∈ p1, x.block < W.heap.size := fun x hx => by simpa using hW'.lt x (by simpa using hx)
  have hend : Calls Tryz.prog 3 #[.int .i64 a0, v1] W fun e w' => e = .returned (.bool true) ∧ Kp (fun _ => False) W w' := by
    have hs : ∃ A l c, v1 = .slice A l c := by
      have := hval 1 22 v1 rfl rfl
      cases v1 <;> simp_all [Value.okWide, Tryz.underlying22, Cell.okWide, Cell.ok]
    obtain ⟨A, l, c, rfl⟩ := hs
    obtain ⟨n1, t1⟩ := h1
    rcases open_slice_fields Tryz.underlying22 Tryz.underlying32 (by kernel_rfl) cellsOp t1 with hc | ⟨a, len, cap, hc, hl, hm, hall⟩
    · simp only [Value.cells, List.cons.injEq, Value.slice.injEq, and_true] at hc
      obtain ⟨rfl, rfl, rfl⟩ := hc
      exact cplays_walk hg he hng a0 none 0 0 (Nat.le_refl _) (by decide) (fun h => absurd h (Nat.lt_irrefl _))
    · simp only [Value.cells, List.cons.injEq, Value.slice.injEq, and_true] at hc
      obtain ⟨rfl, rfl, rfl⟩ := hc
      refine cplays_walk hg he hng a0 _ _ _ hl hm (fun _ => ⟨a, rfl, fun j hj => ?_⟩)
      obtain ⟨v0, n0, y0, c0, t0⟩ := hall j hj 0 _ rfl
      obtain ⟨v1, n1, y1, c1, t1⟩ := hall j hj 1 _ rfl
      obtain ⟨v2, n2, y2, c2, t2⟩ := hall j hj 2 _ rfl
      obtain ⟨v3, n3, y3, c3, t3⟩ := hall j hj 3 _ rfl
      obtain ⟨v4, n4, y4, c4, t4⟩ := hall j hj 4 _ rfl
      obtain ⟨N0, e0, _, w0⟩ := DataW.trod_int Tryz.underlying3 t0
      obtain ⟨N1, e1, _, w1⟩ := DataW.trod_int Tryz.underlying3 t1
      obtain ⟨N2, e2, _, w2⟩ := DataW.trod_int Tryz.underlying3 t2
      obtain ⟨N3, e3, _, w3⟩ := DataW.trod_int Tryz.underlying3 t3
      obtain ⟨N4, e4, _, w4⟩ := DataW.trod_int Tryz.underlying3 t4
      simp only [List.cons.injEq, and_true] at e0 e1 e2 e3 e4
      subst e0 e1 e2 e3 e4
      simp only [Lit.wf, Bool.and_eq_true, decide_eq_true_eq] at w1 w2
      exact ⟨N0, N1, N2, N3, N4, c0, c1, c2, c3, c4, w1.1, w1.2, w2.1, w2.2⟩
  clear hA0 hval0
  simp only [List.append_nil] at hW'
  refine hend.mono fun e W' ⟨he, hk⟩ => ?_
  subst he
  have hb := kp_below hk
  refine ⟨_, rfl, _, _, _, [], [] ++ (p1 ++ []), [], hW', ?_, ?_, rfl, hb.frame _, fun h => by cases h⟩
  · exact trodAll_mk1 (shut_bool Tryz.underlying4 true)
  · exact trodAll_cons_mk (shut_int Tryz.underlying3 w0) (trodAll_cons_mk (Below.trod laidOut (by kernel_rfl) (of_decide_eq_true (by kernel_rfl)) h1k hb hlt) trodAll_mk0)

theorem over : Rows.CachePlaysSaid :=
  OpenClaim.holds_of_wide 3 Tryz.f3 rfl rfl rfl rfl rfl rfl rfl ⟨rfl, rfl, rfl, rfl, rfl⟩ rfl rfl rfl rfl rfl (by kernel_rfl) Tryz.func3 (by kernel_rfl)
    (of_decide_eq_true (by kernel_rfl)) (by unfold Func.isWrapper; first | (rw [if_pos (by decide +kernel)]; kernel_rfl) | (rw [if_neg (by decide +kernel)]; exact ⟨rfl, rfl⟩))
    (fun os started H enc _ => lifted os started H enc)

end Go.Proofs.YtmafihodbbagbaaGreatDoor.CPlaysRow
