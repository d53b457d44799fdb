/- The cache: which blocks were changed, in their order. -/
import Derived.Test.YtdmmlkkemceifaaGreatDoorNewC
import Derived.Test.YtdmmlkkemceifaaGreatDoorKeys
import Derived.Test.YtdmmlkkemceifaaGreatDoorShelf
import Derived.Shelf.SlIterI.Nil
namespace Go.Proofs.YtdmmlkkemceifaaGreatDoor
open Go.RowKit Go.Maps Go.Sort Go.Shelf
set_option maxHeartbeats 1000000
set_option maxRecDepth 20000

/-- How an element is read: as nothing. -/
def rdU (_ : Value) : Option (DataW Unit × List MemPlace) := some (.nil, [])
theorem own_keys {w : World} {bm cl : Nat} {es : Array MapEntry} {ks : List Nat} (hb : w.heap[bm]? = some (.map es cl)) (hs : St es cl) (hk : Keys es ks) (hnd : ks.Nodup) (hr : ∀ k ∈ ks, (k : Int) ≤ 9223372036854775807) (hm : ks.length ≤ maxLen) :
    ∃ D0 : DataW Unit, w.ownsMap Tryz.prog 3 rdU bm ks.length D0 ∧ (intKeys D0).Perm (ks.map fun k : Nat => (k : Int)) ∧ Maps.size D0 = ks.length := by
  have hread : ∀ x ∈ es.toList, ∃ k ∈ ks, x.key = .int .i64 (k : Int) ∧ Go.WideElems.rd Tryz.prog 3 rdU x = some (.int .i64 (k : Int), .nil) := by
    intro x hx
    have h1 : x.key ∈ es.toList.map (·.key) := List.mem_map_of_mem hx
    rw [hk] at h1
    obtain ⟨k, hk1, e⟩ := List.mem_map.1 h1
    refine ⟨k, hk1, e.symm, ?_⟩
    have hwf : (Lit.int .i64 (k : Int)).wf = true := WalkArith.wf_i64 (by have := hr k hk1; omega)
    simp only [Go.WideElems.rd, ← e, rdU, Option.map_some]
    rw [Maps.keyOf_int_mk Tryz.underlying3 hwf]
    rfl
  have hkey : ∀ x ∈ es.toList, Go.intOf (Go.WideElems.rg Tryz.prog 3 rdU x).1 = (match x.key with | .int _ n => n | _ => 0) := by
    intro x hx
    obtain ⟨k, _, h2, h3⟩ := hread x hx
    rw [Go.WideElems.rg, h3, h2]; rfl
  refine ⟨.map ((es.toList.map (Go.WideElems.rg Tryz.prog 3 rdU)).foldr DataW.insert []), ⟨es, cl, hb, ⟨by rw [hk.size]; exact hm, ⟨hs.1, hs.2, ?_⟩, fun x hx => ?_⟩, Nat.le_of_eq hk.size, rfl⟩, ?_, ?_⟩
  · show (es.toList.map (·.key)).Nodup
    rw [hk]
    exact List.Pairwise.map _ (fun a b hab e => hab (by simp at e; omega)) hnd
  · obtain ⟨k, _, _, h3⟩ := hread x hx
    exact ⟨_, h3⟩
  · have h1 := (WideShapes.sorted_perm (es.toList.map (Go.WideElems.rg Tryz.prog 3 rdU))).map (fun p => Go.intOf p.1)
    have h2 : (es.toList.map (Go.WideElems.rg Tryz.prog 3 rdU)).map (fun p => Go.intOf p.1) = ks.map fun k : Nat => (k : Int) := by
      rw [List.map_map]
      have h3 : es.toList.map ((fun p => Go.intOf p.1) ∘ Go.WideElems.rg Tryz.prog 3 rdU) = es.toList.map ((fun v : Value => (match v with | .int _ n => n | _ => 0)) ∘ fun x => x.key) := List.map_congr_left fun x hx => hkey x hx
      rw [h3, ← List.map_map, hk, List.map_map]
      rfl
    rw [h2] at h1
    exact h1
  · rw [Maps.size_eq, (WideShapes.sorted_perm _).length_eq, List.length_map]
    exact hk.size

theorem clip_ints (A : Option Addr) (n c : Nat) (w : World) (h : n ≤ c) (_hc : c ≤ maxLen) :
    Calls Tryz.prog 63 #[.slice A n c] w fun e w' => e = .returned (.slice A n n) ∧ w = w' := by
  unfold maxLen at _hc
  go_enter Tryz.func63, Tryz.ntmps63
  go_wp2
  all_goals (go_ret; exact ⟨by simp, rfl⟩)

/-- slices.Sort's two contracts here. -/
theorem sortsI (m : Nat) : AnyZI.SortsIn Tryz.prog Tryz.sortedA_ren Fence.wide m :=
  ⟨fun blk off cap ss W hH hblk hsz => callsIn_wide.2 (Tryz.slices_Sort_int blk off cap ss W hH hblk hsz),
   fun p cap W => callsIn_wide.2 (Tryz.slices_Sort_int_none p cap W)⟩
/-- The blocks that were changed, in their order. -/
def CSt.chs (C : CSt) : List Nat := C.ch.mergeSort fun a b => decide (a ≤ b)
theorem CSt.chs_perm (C : CSt) : C.chs.Perm C.ch := List.mergeSort_perm _ _
theorem CSt.chs_map (C : CSt) : C.chs.map (fun k : Nat => (k : Int)) = (C.ch.map fun k : Nat => (k : Int)).mergeSort fun x y => decide (x ≤ y) := by
  unfold CSt.chs
  refine List.map_mergeSort fun a _ b _ => ?_
  simp
/-- A slice of the call's own that holds these ints, cut to its length. -/
theorem own_ints {w : World} {base n : Nat} {v : Value} {ns : List Nat} (h : w.ownsRow base 3 1 v n ((ns.map fun k : Nat => (k : Int)).map encZ)) :
    ∃ A c, v = .slice A n c ∧ n ≤ c ∧ c ≤ maxLen ∧ n = ns.length ∧ (ns ≠ [] → ∃ g, A = some ⟨g, 0, none⟩ ∧ base ≤ g ∧ ∃ cs, w.heap[g]? = some (.cells cs 3 (0, 0)) ∧ ∀ (j k : Nat), ns[j]? = some k → cs[j]? = some (.int .i64 (k : Int))) := by
  obtain ⟨h1, ⟨rfl, rfl⟩ | ⟨g, cap, cur, rfl, h3, h4, h5, h6, h7, h8⟩⟩ := h
  · have : ns = [] := by simpa using h1
    subst this
    exact ⟨none, 0, rfl, Nat.le_refl _, by simp [maxLen], rfl, fun h => absurd rfl h⟩
  · refine ⟨_, cap, rfl, h5, h6, by simpa using h1.symm, fun _ => ⟨g, rfl, h3, cur, h4, fun j k hj => ?_⟩⟩
    have hlen : ns.length = n := by simpa using h1
    have hlt : j < ns.length := (List.getElem?_eq_some_iff.1 hj).1
    have h9 := congrArg (·[j]?) h8
    simp only [List.getElem?_map, hj, Option.map_some] at h9
    rw [List.getElem?_take, if_pos (by omega), Array.getElem?_toList] at h9
    exact h9
/-- A new slice of ints. -/
def SlN (n0 : Nat) (w : World) (v : Value) (ns : List Nat) : Prop :=
  ∃ A, v = .slice A ns.length ns.length ∧ ns.length ≤ maxLen ∧ (ns ≠ [] → ∃ g, A = some ⟨g, 0, none⟩ ∧ n0 ≤ g ∧ ∃ cs, w.heap[g]? = some (.cells cs 3 (0, 0)) ∧ ∀ (j k : Nat), ns[j]? = some k → cs[j]? = some (.int .i64 (k : Int)))

theorem cache_Changed_ok {w : World} {bc bj bm bd : Nat} {C : CSt} {F : Nat → Prop} (h : CRep w bc bj bm bd C F) :
    Calls Tryz.prog 38 #[.pointer (some ⟨bc, 0, none⟩)] w fun e w' => ∃ v, e = .returned v ∧ SlN w.heap.size w' v C.chs ∧ Kp (fun _ => False) w w' := by
  have hM := cell_blk h.cblk 2
  simp at hM
  obtain ⟨es, cl, hm1, hm2, hm3⟩ := h.mblk
  obtain ⟨es', cl', hs1, hs2⟩ := h.stamp
  rw [hm1] at hs1
  cases hs1
  have hfew := h.few
  have hfw := h.disk.few
  obtain ⟨D0, hown, hperm, hsize⟩ := own_keys hm1 hs2 hm2 h.nd (fun k hk => by have := h.inb k hk; omega) (by unfold maxLen; omega)
  have hlen : C.ch.length ≤ 200 := by omega
  have hchs : C.chs.length = C.ch.length := C.chs_perm.length_eq
  have hcm := C.chs_map
  clear hm1 hm2 hm3 hs2 h hfew hfw
  have hbl := hown.lt
  refine (callsIn_wide (n := 6)).1 ?_
  have hseq : SeqGives Fence.wide 2 Tryz.prog 103 #[.pointer (some ⟨w.heap.size, 0, none⟩)] encZ (fun ss => ss.Perm (intKeys D0)) (Maps.size D0) (w.alloc (.cells #[.map (some bm)] 80)) :=
    AnyZI.keys_gives (ρ := Tryz.keysA_ren) { Tryz.keysA with } Fence.wide _ trivial rfl (by omega) w.heap.size bm _ D0 _ (by simp) (by simp) (by
      obtain ⟨es, clock, hb, Ft, hs, hD⟩ := hown
      exact ⟨es, clock, (Below.heap_alloc _ _ bm hbl).trans hb, Ft, hs, hD⟩)
  have cK : ∀ mb W, CallsIn Fence.wide 5 Tryz.prog 65 #[.map mb] W fun e w' => e = .returned (.func (.func 103) #[] #[.pointer (some ⟨W.heap.size, 0, none⟩)]) ∧ w' = W.alloc (.cells #[.map mb] 80) := fun mb W => AnyZI.keys_in Tryz.keysA Fence.wide 5 trivial rfl mb W
  have cS := AnyZI.sorted_in Tryz.sortedA Fence.wide 5 trivial trivial trivial trivial rfl (by omega) (sortsI _) (enters_of Tryz.func87 (by kernel_rfl) rfl) 103 #[.pointer (some ⟨w.heap.size, 0, none⟩)] trivial (enters_of Tryz.func103 (by kernel_rfl) rfl) _ _ (by rw [hsize]; unfold maxLen; omega) (by rw [hsize]; omega) _ hseq
  change CallsIn _ _ Tryz.prog 64 _ _ _ at cS
  have hfK : Fence.wide.fn 65 := trivial
  have hfS : Fence.wide.fn 64 := trivial
  have hfC : Fence.wide.fn 63 := trivial
  refine callsIn_of_wp Tryz.func38 rfl trivial ?_ rfl
  simp only [Tryz.ntmps38, List.size_toArray, List.length_cons, List.length_nil, Nat.reduceAdd, Nat.reduceSub, Array.replicate_succ, Array.replicate_zero, List.push_toArray, List.append_toArray, List.nil_append, List.cons_append]
  gi_wp2_with (first
    | (gi_at_call 65; refine (cK _ _).mono ?_; rintro e w' ⟨rfl, rfl⟩)
    | (gi_at_call 64; refine cS.mono ?_; rintro e w' ⟨v, ss, rfl, hS, hrow, hnil, hb⟩))
  rw [(mergeSort_of_perm_i (hS.trans hperm) : ss.mergeSort leI = _), ← hcm] at hrow
  obtain ⟨A, c, rfl, hc1, hc2, hc3, hcells⟩ := own_ints hrow
  have hkp : Kp (fun _ => False) w w' := ((Kp.refl _ w).alloc _).trans (Kp.of_below (F := fun _ => False) hb) (fun k h => .inl h)
  have hcells' := Lib.hid hcells
  have hl200 : C.chs.length ≤ 200 := by omega
  clear hcells hrow hchs
  rw [hc3] at hc1 ⊢
  clear hc3
  gi_wp2_with (gi_at_call 63; refine ((callsIn_wide (n := 5)).2 (clip_ints A _ c w' hc1 hc2)).mono ?_; rintro e w2 ⟨rfl, rfl⟩)
  go_ret
  refine ⟨_, rfl, ⟨A, rfl, by unfold maxLen; omega, fun hn => ?_⟩, hkp⟩
  obtain ⟨g, e1, e2, e3⟩ := hcells'.out hn
  exact ⟨g, e1, by have := size_alloc w (.cells #[.map (some bm)] 80); omega, e3⟩
end Go.Proofs.YtdmmlkkemceifaaGreatDoor
