/- The cache: which blocks were changed, in their order. -/
/- The cache: Flush writes what was changed as one group. -/
/- What a Flush leaves, on a disk that lives: every block reads as it was written last. -/
/- Six inodes over a map over a new cache, as the statements of layer 8 have them. -/
/- InodePieces: plain laws. -/
/- Layer 8's own helpers: made, awake. -/
/- Layer 8's own awake. -/
/- InodeSizes: what the walk needs: the document's number of blocks, a guarded conversion, the rows. -/
import Derived.Test.YthjbpbahcemfgaaGreatDoorNewC
import Derived.Test.YthjbpbahcemfgaaGreatDoorKeys
import Derived.Test.YthjbpbahcemfgaaGreatDoorShelf
import Derived.Shelf.SlIterI.Nil
import Derived.Test.YthjbpbahcemfgaaGreatDoorCommit
import Derived.Test.YthjbpbahcemfgaaGreatDoorITL
import Derived.Test.YthjbpbahcemfgaaGreatDoorText
import Derived.Test.YthjbpbahcemfgaaGreatDoorMadeC
import Derived.Deep.RegionHeldLaw
import Derived.Lib.SlBytesConst
namespace Go.Proofs.YthjbpbahcemfgaaGreatDoor
open Go.RowKit Go.Maps Go.Sort Go.Shelf
set_option maxHeartbeats 1000000
set_option maxRecDepth 20000

/-- How an element is read: as nothing. -/
def rdU (_ : Value) : Option (DataW Unit × List MemPlace) := some (.nil, [])
theorem own_keys {w : World} {bm cl : Nat} {es : Array MapEntry} {ks : List Nat} (hb : w.heap[bm]? = some (.map es cl)) (hs : St es cl) (hk : Keys es ks) (hnd : ks.Nodup) (hr : ∀ k ∈ ks, (k : Int) ≤ 9223372036854775807) (hm : ks.length ≤ maxLen) :
    ∃ D0 : DataW Unit, w.ownsMap Tryz.prog 3 rdU bm ks.length D0 ∧ (intKeys D0).Perm (ks.map fun k : Nat => (k : Int)) ∧ Maps.size D0 = ks.length := by
  have hread : ∀ x ∈ es.toList, ∃ k ∈ ks, x.key = .int .i64 (k : Int) ∧ Go.WideElems.rd Tryz.prog 3 rdU x = some (.int .i64 (k : Int), .nil) := by
    intro x hx
    have h1 : x.key ∈ es.toList.map (·.key) := List.mem_map_of_mem hx
    rw [hk] at h1
    obtain ⟨k, hk1, e⟩ := List.mem_map.1 h1
    refine ⟨k, hk1, e.symm, ?_⟩
    have hwf : (Lit.int .i64 (k : Int)).wf = true := WalkArith.wf_i64 (by have := hr k hk1; omega)
    simp only [Go.WideElems.rd, ← e, rdU, Option.map_some]
    rw [Maps.keyOf_int_mk Tryz.underlying3 hwf]
    rfl
  have hkey : ∀ x ∈ es.toList, Go.intOf (Go.WideElems.rg Tryz.prog 3 rdU x).1 = (match x.key with | .int _ n => n | _ => 0) := by
    intro x hx
    obtain ⟨k, _, h2, h3⟩ := hread x hx
    rw [Go.WideElems.rg, h3, h2]; rfl
  refine ⟨.map ((es.toList.map (Go.WideElems.rg Tryz.prog 3 rdU)).foldr DataW.insert []), ⟨es, cl, hb, ⟨by rw [hk.size]; exact hm, ⟨hs.1, hs.2, ?_⟩, fun x hx => ?_⟩, Nat.le_of_eq hk.size, rfl⟩, ?_, ?_⟩
  · show (es.toList.map (·.key)).Nodup
    rw [hk]
    exact List.Pairwise.map _ (fun a b hab e => hab (by simp at e; omega)) hnd
  · obtain ⟨k, _, _, h3⟩ := hread x hx
    exact ⟨_, h3⟩
  · have h1 := (WideShapes.sorted_perm (es.toList.map (Go.WideElems.rg Tryz.prog 3 rdU))).map (fun p => Go.intOf p.1)
    have h2 : (es.toList.map (Go.WideElems.rg Tryz.prog 3 rdU)).map (fun p => Go.intOf p.1) = ks.map fun k : Nat => (k : Int) := by
      rw [List.map_map]
      have h3 : es.toList.map ((fun p => Go.intOf p.1) ∘ Go.WideElems.rg Tryz.prog 3 rdU) = es.toList.map ((fun v : Value => (match v with | .int _ n => n | _ => 0)) ∘ fun x => x.key) := List.map_congr_left fun x hx => hkey x hx
      rw [h3, ← List.map_map, hk, List.map_map]
      rfl
    rw [h2] at h1
    exact h1
  · rw [Maps.size_eq, (WideShapes.sorted_perm _).length_eq, List.length_map]
    exact hk.size

theorem clip_ints (A : Option Addr) (n c : Nat) (w : World) (h : n ≤ c) (_hc : c ≤ maxLen) :
    Calls Tryz.prog 84 #[.slice A n c] w fun e w' => e = .returned (.slice A n n) ∧ w = w' := by
  unfold maxLen at _hc
  go_enter Tryz.func84, Tryz.ntmps84
  go_wp2
  all_goals (go_ret; exact ⟨by simp, rfl⟩)

/-- slices.Sort's two contracts here. -/
theorem sortsI (m : Nat) : AnyZI.SortsIn Tryz.prog Tryz.sortedA_ren Fence.wide m :=
  ⟨fun blk off cap ss W hH hblk hsz => callsIn_wide.2 (Tryz.slices_Sort_int blk off cap ss W hH hblk hsz),
   fun p cap W => callsIn_wide.2 (Tryz.slices_Sort_int_none p cap W)⟩
/-- The blocks that were changed, in their order. -/
def CSt.chs (C : CSt) : List Nat := C.ch.mergeSort fun a b => decide (a ≤ b)
theorem CSt.chs_perm (C : CSt) : C.chs.Perm C.ch := List.mergeSort_perm _ _
theorem CSt.chs_map (C : CSt) : C.chs.map (fun k : Nat => (k : Int)) = (C.ch.map fun k : Nat => (k : Int)).mergeSort fun x y => decide (x ≤ y) := by
  unfold CSt.chs
  refine List.map_mergeSort fun a _ b _ => ?_
  simp
/-- A slice of the call's own that holds these ints, cut to its length. -/
theorem own_ints {w : World} {base n : Nat} {v : Value} {ns : List Nat} (h : w.ownsRow base 3 1 v n ((ns.map fun k : Nat => (k : Int)).map encZ)) :
    ∃ A c, v = .slice A n c ∧ n ≤ c ∧ c ≤ maxLen ∧ n = ns.length ∧ (ns ≠ [] → ∃ g, A = some ⟨g, 0, none⟩ ∧ base ≤ g ∧ ∃ cs, w.heap[g]? = some (.cells cs 3 (0, 0)) ∧ ∀ (j k : Nat), ns[j]? = some k → cs[j]? = some (.int .i64 (k : Int))) := by
  obtain ⟨h1, ⟨rfl, rfl⟩ | ⟨g, cap, cur, rfl, h3, h4, h5, h6, h7, h8⟩⟩ := h
  · have : ns = [] := by simpa using h1
    subst this
    exact ⟨none, 0, rfl, Nat.le_refl _, by simp [maxLen], rfl, fun h => absurd rfl h⟩
  · refine ⟨_, cap, rfl, h5, h6, by simpa using h1.symm, fun _ => ⟨g, rfl, h3, cur, h4, fun j k hj => ?_⟩⟩
    have hlen : ns.length = n := by simpa using h1
    have hlt : j < ns.length := (List.getElem?_eq_some_iff.1 hj).1
    have h9 := congrArg (·[j]?) h8
    simp only [List.getElem?_map, hj, Option.map_some] at h9
    rw [List.getElem?_take, if_pos (by omega), Array.getElem?_toList] at h9
    exact h9
/-- A new slice of ints. -/
def SlN (n0 : Nat) (w : World) (v : Value) (ns : List Nat) : Prop :=
  ∃ A, v = .slice A ns.length ns.length ∧ ns.length ≤ maxLen ∧ (ns ≠ [] → ∃ g, A = some ⟨g, 0, none⟩ ∧ n0 ≤ g ∧ ∃ cs, w.heap[g]? = some (.cells cs 3 (0, 0)) ∧ ∀ (j k : Nat), ns[j]? = some k → cs[j]? = some (.int .i64 (k : Int)))

theorem cache_Changed_ok {w : World} {bc bj bm bd : Nat} {C : CSt} {F : Nat → Prop} (h : CRep w bc bj bm bd C F) :
    Calls Tryz.prog 64 #[.pointer (some ⟨bc, 0, none⟩)] w fun e w' => ∃ v, e = .returned v ∧ SlN w.heap.size w' v C.chs ∧ Kp (fun _ => False) w w' := by
  have hM := cell_blk h.cblk 2
  simp at hM
  obtain ⟨es, cl, hm1, hm2, hm3⟩ := h.mblk
  obtain ⟨es', cl', hs1, hs2⟩ := h.stamp
  rw [hm1] at hs1
  cases hs1
  have hfew := h.few
  have hfw := h.disk.few
  obtain ⟨D0, hown, hperm, hsize⟩ := own_keys hm1 hs2 hm2 h.nd (fun k hk => by have := h.inb k hk; omega) (by unfold maxLen; omega)
  have hlen : C.ch.length ≤ 200 := by omega
  have hchs : C.chs.length = C.ch.length := C.chs_perm.length_eq
  have hcm := C.chs_map
  clear hm1 hm2 hm3 hs2 h hfew hfw
  have hbl := hown.lt
  refine (callsIn_wide (n := 6)).1 ?_
  have hseq : SeqGives Fence.wide 2 Tryz.prog 135 #[.pointer (some ⟨w.heap.size, 0, none⟩)] encZ (fun ss => ss.Perm (intKeys D0)) (Maps.size D0) (w.alloc (.cells #[.map (some bm)] 127)) :=
    AnyZI.keys_gives (ρ := Tryz.keysA_ren) { Tryz.keysA with } Fence.wide _ trivial rfl (by omega) w.heap.size bm _ D0 _ (by simp) (by simp) (by
      obtain ⟨es, clock, hb, Ft, hs, hD⟩ := hown
      exact ⟨es, clock, (Below.heap_alloc _ _ bm hbl).trans hb, Ft, hs, hD⟩)
  have cK : ∀ mb W, CallsIn Fence.wide 5 Tryz.prog 102 #[.map mb] W fun e w' => e = .returned (.func (.func 135) #[] #[.pointer (some ⟨W.heap.size, 0, none⟩)]) ∧ w' = W.alloc (.cells #[.map mb] 127) := fun mb W => AnyZI.keys_in Tryz.keysA Fence.wide 5 trivial rfl mb W
  have cS := AnyZI.sorted_in Tryz.sortedA Fence.wide 5 trivial trivial trivial trivial rfl (by omega) (sortsI _) (enters_of Tryz.func99 (by kernel_rfl) rfl) 135 #[.pointer (some ⟨w.heap.size, 0, none⟩)] trivial (enters_of Tryz.func135 (by kernel_rfl) rfl) _ _ (by rw [hsize]; unfold maxLen; omega) (by rw [hsize]; omega) _ hseq
  change CallsIn _ _ Tryz.prog 101 _ _ _ at cS
  have hfK : Fence.wide.fn 102 := trivial
  have hfS : Fence.wide.fn 101 := trivial
  have hfC : Fence.wide.fn 84 := trivial
  refine callsIn_of_wp Tryz.func64 rfl trivial ?_ rfl
  simp only [Tryz.ntmps64, List.size_toArray, List.length_cons, List.length_nil, Nat.reduceAdd, Nat.reduceSub, Array.replicate_succ, Array.replicate_zero, List.push_toArray, List.append_toArray, List.nil_append, List.cons_append]
  gi_wp2_with (first
    | (gi_at_call 102; refine (cK _ _).mono ?_; rintro e w' ⟨rfl, rfl⟩)
    | (gi_at_call 101; refine cS.mono ?_; rintro e w' ⟨v, ss, rfl, hS, hrow, hnil, hb⟩))
  rw [(mergeSort_of_perm_i (hS.trans hperm) : ss.mergeSort leI = _), ← hcm] at hrow
  obtain ⟨A, c, rfl, hc1, hc2, hc3, hcells⟩ := own_ints hrow
  have hkp : Kp (fun _ => False) w w' := ((Kp.refl _ w).alloc _).trans (Kp.of_below (F := fun _ => False) hb) (fun k h => .inl h)
  have hcells' := Lib.hid hcells
  have hl200 : C.chs.length ≤ 200 := by omega
  clear hcells hrow hchs
  rw [hc3] at hc1 ⊢
  clear hc3
  gi_wp2_with (gi_at_call 84; refine ((callsIn_wide (n := 5)).2 (clip_ints A _ c w' hc1 hc2)).mono ?_; rintro e w2 ⟨rfl, rfl⟩)
  go_ret
  refine ⟨_, rfl, ⟨A, rfl, by unfold maxLen; omega, fun hn => ?_⟩, hkp⟩
  obtain ⟨g, e1, e2, e3⟩ := hcells'.out hn
  exact ⟨g, e1, by have := size_alloc w (.cells #[.map (some bm)] 127); omega, e3⟩
end Go.Proofs.YthjbpbahcemfgaaGreatDoor
namespace Go.Proofs.YthjbpbahcemfgaaGreatDoor
open Go.RowKit
set_option maxHeartbeats 2000000
set_option maxRecDepth 20000

theorem journal_Commit_none {w : World} {bj bd at_ most : Nat} {D : DSt} {F : Nat → Prop} (hj : JBlk w bj bd at_ most) (h : DRep w bd D F) (v : Value) (ht : BT w v []) :
    Calls Tryz.prog 65 #[.pointer (some ⟨bj, 0, none⟩), v] w fun e w' => e = .returned .nilIface ∧ Kp (fun _ => False) w w' := by
  obtain ⟨A, c, rfl, _, _, _⟩ := id ht
  have hG := Lib.hid (journal_good hj h _ [] ht.bs (fun x hx => by cases hx) List.nodup_nil (by simp))
  have c2 := cell_blk hj 2
  simp at c2
  clear hj h ht
  go_enter Tryz.func65, Tryz.ntmps65
  go_wp2_with fail
  refine hG.out.mono ?_
  rintro e wg ⟨rfl, hkg⟩
  have cg2 := hkg.cell c2 (fun h => h)
  have Hkg := Lib.hid hkg
  clear c2 hkg hG
  go_wp2_with fail
  go_ret
  exact ⟨rfl, Hkg.out⟩
theorem run_lookup_yes1 {w : World} {bm clock : Nat} {es : Array MapEntry} {ks : List Nat} {T E : TypeId} (hT : Tryz.prog.underlying T = some (.map 3 E)) (hb : w.heap[bm]? = some (.map es clock)) (hk : Keys es ks) (hnd : ks.Nodup) {j k : Nat} {e : MapEntry} (hj : ks[j]? = some k) (he : es[j]? = some e) :
    (Instr.lookup T (.map (some bm)) (.int .i64 (k : Int)) false).run Tryz.prog w = .ok e.val w := by
  have hf := run_find (w := w) (findNow_some es.toList ks 0 j e hk hnd hj (by rw [Array.getElem?_toList]; exact he))
  simp [Instr.lookup, run_underlying hT, run_check, hf, Result.andThen, getObj, Sem.run, hb]
/-- What a Flush writes. -/
def CSt.group (C : CSt) : List (Nat × List Int) := C.chs.map fun no => (no, C.cont no)
theorem CSt.group_len (C : CSt) : C.group.length = C.chs.length := by simp [CSt.group]
/-- What its Commit answers, and the disk behind it. -/
def CSt.commit (C : CSt) : EV × DSt := if C.group = [] then (none, C.D) else C.D.runs (cwOf C.jat C.group)
/-- The cache behind a Flush. -/
def CSt.flush (C : CSt) : CSt := if C.commit.1 = none then { C with D := C.commit.2, ch := [] } else { C with D := C.commit.2 }
theorem Tryz.infoBlk : (Tryz.prog.info? 131).map (fun i => (i.zero, i.size, i.bytes)) = some (some (.agg #[.int .i64 0, .slice none 0 0]), 2, 32) := by kernel_rfl
/-- The cells of the blocks so far. -/
def gcells (vf : Nat → Value) (ns : List Nat) : List Value := ns.flatMap fun no => [.int .i64 (no : Nat), vf no]
theorem gcells_snoc (vf : Nat → Value) (ns : List Nat) (n : Nat) : gcells vf (ns ++ [n]) = gcells vf ns ++ [.int .i64 (n : Nat), vf n] := by simp [gcells]
theorem gcells_get (vf : Nat → Value) : ∀ (ns : List Nat) (i no : Nat), ns[i]? = some no → (gcells vf ns)[i * 2]? = some (.int .i64 (no : Nat)) ∧ (gcells vf ns)[i * 2 + 1]? = some (vf no)
  | [], _, _, h => by cases h
  | n :: ns, 0, no, h => by
    simp at h; subst h; exact ⟨rfl, rfl⟩
  | n :: ns, i + 1, no, h => by
    have := gcells_get vf ns i no (by simpa using h)
    rw [show (i + 1) * 2 = i * 2 + 1 + 1 by omega]
    exact this

theorem DRep.grow {w : World} {bd : Nat} {D : DSt} {F F' : Nat → Prop} (h : DRep w bd D F') (h1 : ∀ k, F k → k < w.heap.size) (h2 : Hi F) (h3 : FCl w F) : DRep w bd D (fun k => F k ∨ F' k) := by
  obtain ⟨⟨bl, rows, a1, a2, a3, a4, a5⟩, ho, hl, hf, hg, hh, hc⟩ := h
  refine ⟨⟨bl, rows, a1, a2, a3, .inr a4, fun i hi => ?_⟩, .inr ho, fun k hk => hk.elim (h1 k) (hl k), hf, hg, fun k hk => hk.elim (h2 k) (hh k), fun k hk cs fr => hk.elim (fun h => h3 k h cs fr) (fun h => hc k h cs fr)⟩
  obtain ⟨v, hv, hr⟩ := a5 i hi
  refine ⟨v, hv, ?_⟩
  rcases hr with hz | ⟨g', c', e1, e2, e3, e4, e5, e6⟩
  · exact .inl hz
  · exact .inr ⟨g', c', e1, e2, e3, .inr e4, e5, e6⟩
theorem FCl.kpD {w W : World} {bd : Nat} {D D' : DSt} {F F' : Nat → Prop} (hc : FCl w F) (h : DRep w bd D F) (h' : DRep W bd D' F') (k : KpD bd w W) : FCl W F := by
  obtain ⟨bl, rows, e1, e2, _⟩ := h.ex
  obtain ⟨bl', rows', e1', e2', _⟩ := h'.ex
  have hL : DL w bd bl := ⟨D.n, by rw [cell_blk e1]; rfl⟩
  obtain ⟨kk, n, hn⟩ := k bl hL
  have hbb : bl' = bl := by
    rw [cell_blk e1'] at hn
    simp at hn
    exact hn.1
  intro b hb cs fr
  by_cases h1 : b = bd
  · subst h1; rw [e1']; simp
  · by_cases h2 : b = bl
    · subst h2; rw [hbb] at e2'; rw [e2']; simp
    · rw [kk.block b (h.lt b hb) (by rintro (h | h); exact h1 h; exact h2 h)]
      exact hc b hb cs fr
/-- The cache over a disk whose own blocks alone were turned. -/
theorem CRep.disk' {w W : World} {bc bj bm bd : Nat} {C : CSt} {D' : DSt} {F F' : Nat → Prop} (h : CRep w bc bj bm bd C F) (hd : DRep W bd D' F') (k : KpD bd w W) (hs : w.heap.size ≤ W.heap.size) (hn : D'.n = C.D.n) : CRep W bc bj bm bd { C with D := D' } (fun k => F k ∨ F' k) := by
  obtain ⟨h1, h2, ⟨es, cl, h3, h4, h5⟩, h6, h7, h8, h9, h10, es', cl', hs1, hs2⟩ := h
  have hm : ∀ {b : Nat} {a : Array MapEntry} {c : Nat}, w.heap[b]? = some (.map a c) → W.heap[b]? = some (.map a c) := fun hb => k.blk h7 hb (by simp) (by simp)
  refine ⟨k.blk h7 h1 (by intro cs fr e; injection e with _ e2; exact absurd e2 (by decide)) (by intro cs fr e; injection e with _ e2; exact absurd e2 (by decide)), h2.kpD h7 k, ⟨es, cl, hm h3, h4, fun i no hi => ?_⟩, ⟨.inl h6.1, .inl h6.2.1, .inl h6.2.2⟩,
    hd.grow (fun k hk => Nat.lt_of_lt_of_le (h7.lt k hk) hs) h7.hi (h7.cl.kpD h7 hd k), h8, h9, ⟨h10.1, h10.2.1, by show C.blocks ≤ D'.n; rw [hn]; exact h10.2.2⟩, es', cl', hm hs1, hs2⟩
  obtain ⟨e, a, g, c, b1, b2, b3, b4, b5, b6⟩ := h5 i no hi
  exact ⟨e, a, g, c, b1, b2, b3, b4.kpD h7 k, .inl b5, b6⟩
theorem CSt.chs_mem {C : CSt} {no : Nat} : no ∈ C.chs ↔ no ∈ C.ch := C.chs_perm.mem_iff
theorem gcells_len (vf : Nat → Value) (ns : List Nat) : (gcells vf ns).length = ns.length * 2 := by
  induction ns with
  | nil => rfl
  | cons n ns ih => simp only [gcells, List.flatMap_cons, List.length_append, List.length_cons, List.length_nil] at *; omega
theorem row_kpF {w w' : World} {base e s n : Nat} {v : Value} {xs : List Value} (h : w.ownsRow base e s v n xs) (k : Kp (fun _ => False) w w') : w'.ownsRow base e s v n xs := row_kp0 h k

theorem group_bt {w : World} {base : Nat} {x : Value} {C : CSt} {vf : Nat → Value} {F : Nat → Prop} (h : w.ownsRow base 131 2 x C.chs.length (gcells vf C.chs)) (hr : ∀ no ∈ C.ch, RowS w F (vf no) (C.cont no)) : BT w x C.group := by
  obtain ⟨_, ⟨rfl, h0⟩ | ⟨g, cap, cur, rfl, h3, h4, h5, h6, h7, h8⟩⟩ := h
  · have : C.group = [] := List.eq_nil_of_length_eq_zero (by rw [CSt.group_len]; exact h0)
    rw [this]
    exact ⟨none, 0, rfl, Nat.le_refl _, by simp [maxLen], fun h => absurd rfl h⟩
  · refine ⟨_, cap, by rw [CSt.group_len], by rw [CSt.group_len]; exact h5, h6, fun _ => ⟨g, 0, cur, (0, 0), rfl, h4, fun i no ys hi => ?_⟩⟩
    rw [CSt.group, List.getElem?_map, Option.map_eq_some_iff] at hi
    obtain ⟨n, hn, e⟩ := hi
    simp only [Prod.mk.injEq] at e
    obtain ⟨rfl, rfl⟩ := e
    have hlt := (List.getElem?_eq_some_iff.1 hn).1
    obtain ⟨q1, q2⟩ := gcells_get vf _ _ _ hn
    obtain ⟨g2, c2, e2, r1, r2, r3, _, r5⟩ := hr n (CSt.chs_mem.1 (List.mem_of_getElem? hn))
    rw [← h8, List.getElem?_take, if_pos (by omega), Array.getElem?_toList] at q1 q2
    rw [e2] at q2
    exact ⟨by rw [Nat.zero_add]; exact q1, g2, c2, by rw [Nat.zero_add]; exact q2, r1, r2, r3, r5⟩
theorem cache_Flush {w : World} {bc bj bm bd : Nat} {C : CSt} {F : Nat → Prop} (h : CRep w bc bj bm bd C F) (hz : C.D.Fz) (hjat : C.blocks ≤ C.jat) (hroom : C.jat + need C.most ≤ C.D.n) :
    Calls Tryz.prog 29 #[.pointer (some ⟨bc, 0, none⟩)] w fun e w' => ∃ u, e = .returned u ∧ ErrV w' u (wrapE (tx [99, 97, 99, 104, 101]) (tx []) (wrapE (tx [106, 111, 117, 114, 110, 97, 108]) (tx []) C.commit.1)) ∧
      ∃ F', CRep w' bc bj bm bd C.flush F' ∧ Kp F w w' ∧ Gr F F' w.heap.size := by
  have hM := cell_blk h.cblk 2
  have hC := cell_blk h.cblk 0
  simp at hM hC
  obtain ⟨es, cl, hm1, hm2, hm3⟩ := h.mblk
  have hfew := h.few
  have hfw := h.disk.few
  obtain ⟨vf, hvf⟩ := Classical.skolem.1 (show ∀ no : Nat, ∃ u : Value, no ∈ C.ch → (∀ W, Kp (fun _ => False) w W → (Instr.lookup 127 (.map (some bm)) (.int .i64 (no : Int)) false).run Tryz.prog W = .ok u W) ∧ RowS w F u (C.cont no) from fun no => by
    by_cases hin : no ∈ C.ch
    · obtain ⟨j, hj⟩ := List.mem_iff_getElem?.1 hin
      obtain ⟨e, he, hr⟩ := hm3 j no hj
      exact ⟨e.val, fun _ => ⟨fun W hW => run_lookup_yes1 Tryz.underlying127 (hW.blk hm1 (fun h => h)) hm2 h.nd hj he, hr⟩⟩
    · exact ⟨undef, fun h => absurd h hin⟩)
  have HV := Lib.hid hvf
  have H := Lib.hid h
  have Hz := Lib.hid hz
  have hlen : C.chs.length ≤ C.most := by rw [C.chs_perm.length_eq]; exact hfew.1
  have HM := Lib.hid hM
  have HC0 := Lib.hid hC
  clear hvf hm1 hm2 hm3 h hz hM hC
  go_enter Tryz.func29, Tryz.ntmps29
  go_wp2_with fail
  refine (cache_Changed_ok H.out).mono ?_
  rintro e w1 ⟨vc, rfl, hvc, hk1⟩
  have Hk1 := Lib.hid hk1
  obtain ⟨Ac, rfl, hcm, hvc2⟩ := hvc
  have Hvc := Lib.hid hvc2
  clear hk1 hvc2
  unfold maxLen at hcm
  go_wp2_with fail
  go_loopw [3, 10] (fun x y wr => ∃ (i : Nat), y = .int .i64 (i : Nat) ∧ i ≤ C.chs.length ∧ wr.ownsRow w1.heap.size 131 2 x i (gcells vf (C.chs.take i)) ∧ Kp (fun _ => False) w1 wr) (fun _ y _ => C.chs.length - (intOf y).toNat)
  case atStart => exact ⟨0, rfl, by omega, World.ownsRow_nil _ _ _ _, Kp.refl _ _⟩
  case round =>
    obtain ⟨i, rfl, hi, hown, hk⟩ := hrel
    have Hown := Lib.hid hown
    have Hk := Lib.hid hk
    have Hkw := Lib.hid (Hk1.out.trans hk (Gr.refl _ _))
    by_cases hlt : i < C.chs.length
    · have hy : (i : Int) < (C.chs.length : Int) := by omega
      have hy0 : (0 : Int) ≤ (i : Int) := by omega
      obtain ⟨no, hno⟩ : ∃ no, C.chs[i]? = some no := ⟨_, List.getElem?_eq_getElem hlt⟩
      obtain ⟨g, rfl, hg, cs, hb, hcs⟩ := Hvc.out (by intro h0; rw [h0] at hno; cases hno)
      have cc := cell_blk (hk.blk hb (fun h => h)) i
      rw [hcs i no hno] at cc
      have hmem : no ∈ C.ch := CSt.chs_mem.1 (List.mem_of_getElem? hno)
      obtain ⟨hlk, g2, c2, hu, hu1, hu2, _, _, _⟩ := HV.out no hmem
      have hlk' := hlk wr Hkw.out
      rw [hu] at hlk'
      have hM := Hkw.out.cell HM.out (fun h => h)
      have Hno := Lib.hid (take_succ' hno)
      have HU := Lib.hid hu
      obtain ⟨i0, hi0, hz0, hz1, hz2⟩ := info_parts Tryz.infoBlk
      have hws := Hk.out.size
      have hws1 := Hk1.out.size
      clear hown hk hb hcs hno hlk hu
      go_wp2_with ((at_builtin; refine wpList_append_own _ rfl _ _ 124 rfl w1.heap.size 131 i0 (.agg #[.int .i64 0, .slice none 0 0]) 2 32 Tryz.underlying124 hi0 hz0 hz1 hz2 rfl (by decide) _ _ _ rfl (Hown.out.alloc _) ⟨wr.heap.size, 0, none⟩ 1 1 [.int .i64 (no : Nat), .slice (some ⟨g2, 0, none⟩) 128 c2] rfl rfl (fun j u hj => by have e : (⟨wr.heap.size, 0, none⟩ : Addr).add j = ⟨wr.heap.size, j, none⟩ := (by unfold Addr.add; split <;> simp_all); rw [e, cell_blk (new_blk wr _)]; simpa using hj) (by simp [Value.oneCell']) (by unfold maxLen; omega) (by omega) (le_alloc _ (by omega)) ?_; intro v' w2 hown2 hgrow _; have Hown2 := Lib.hid hown2; have Hgrow := Lib.hid hgrow; clear hown2 hgrow))
      go_roundw
      case rel => exact ⟨i + 1, by go_num, by omega, by rw [Hno.out, gcells_snoc, HU.out]; exact Hown2.out, (Hk.out.alloc _).grown Hgrow.out (fun k hk => .inr (Hown.out.lt k hk).1)⟩
      case measure => simp [intOf]; omega
    · have hy : ¬ (i : Int) < (C.chs.length : Int) := by omega
      have him : i = C.chs.length := by omega
      have hil : C.chs.take i = C.chs := List.take_of_length_le (by omega)
      rw [hil, him] at hown
      have hrl := H.out.kp0 Hkw.out
      have hbt := Lib.hid (group_bt hown (F := F) (fun no hn => (HV.out no hn).2.kp Hkw.out (fun _ _ h => h)))
      have HR := Lib.hid hrl
      have hC0 := Hkw.out.cell HC0.out (fun h => h)
      clear hown hk hil him hrl
      go_wp2_with fail
      by_cases hge : C.group = []
      · have hb0 := hbt.out
        rw [hge] at hb0
        have HCN := Lib.hid (journal_Commit_none HR.out.jblk HR.out.disk _ hb0)
        have hcom : C.commit = (none, C.D) := by rw [CSt.commit, if_pos hge]
        have Hcom := Lib.hid hcom
        have Hfl := Lib.hid (show C.flush = C.drop by rw [CSt.flush, hcom]; simp [CSt.drop])
        clear hcom hge hb0
        refine HCN.out.mono ?_
        rintro e w5 ⟨rfl, hk5⟩
        have HR5 := Lib.hid (HR.out.kp0 hk5)
        have Hk5 := Lib.hid (Hkw.out.trans hk5 (Gr.refl _ _))
        have hc2 := cell_blk HR5.out.cblk 2
        simp at hc2
        obtain ⟨es5, cl5, hm5, _, _⟩ := HR5.out.mblk
        have hcl := run_clear_map (w := w5) (ty := 0) Tryz.underlying127 hm5
        have Hm5 := Lib.hid hm5
        clear hk5 hm5
        go_wp2_with fail
        go_ret
        rw [Hcom.out, Hfl.out]
        exact ⟨_, rfl, rfl, F, HR5.out.cleared Hm5.out, (Hk5.out.mono (fun _ h => h.elim)).trans ((putO_kp w5 bm _).mono (fun i e => (show i = bm from e) ▸ H.out.own.2.2)) (Gr.refl _ _), Gr.refl _ _⟩
      · have hcom : C.commit = C.D.runs (cwOf C.jat C.group) := by rw [CSt.commit, if_neg hge]
        have HCC := Lib.hid (journal_Commit HR.out.jblk HR.out.disk Hz.out _ C.group hbt.out (fun x hx => by
          obtain ⟨no, hno, rfl⟩ := List.mem_map.1 hx
          have hmem := CSt.chs_mem.1 hno
          have := H.out.inb no hmem
          exact ⟨by show no < _; omega, by show no < _; omega, (HV.out no hmem).2.sl.2.2⟩)
          (by rw [show C.group.map (·.1) = C.chs by rw [CSt.group, List.map_map]; exact List.map_id _]; exact C.chs_perm.nodup_iff.2 H.out.nd) hge (by rw [CSt.group_len]; exact hlen) hfew.2.1 hroom)
        rw [← hcom] at HCC
        have HN := Lib.hid (show C.commit.2.n = C.D.n by rw [hcom, DSt.runs_n])
        have Hcom := Lib.hid hcom
        clear hcom hge
        refine HCC.out.mono ?_
        rintro e w5 ⟨u5, rfl, hu5, F5, hd5, hk5, hg5, hkd5⟩
        have HR5 := Lib.hid (HR.out.disk' hd5 hkd5 hk5.size HN.out)
        have Hk5 := Lib.hid ((Hkw.out.mono (fun _ h => h.elim)).trans hk5 (Gr.refl _ _))
        have Hg5 := Lib.hid (show Gr F (fun k => F k ∨ F5 k) w.heap.size from fun k hk => hk.elim .inl (fun h => (hg5 k h).imp id (Nat.le_trans Hkw.out.size)))
        have Hu5 := Lib.hid hu5
        clear hd5 hk5 hg5 hkd5 hu5
        cases hE : C.commit.1 with
        | none =>
          have hu := Hu5.out
          rw [hE] at hu
          have hu' : u5 = .nilIface := hu
          subst hu'
          have Hfl := Lib.hid (show C.flush = CSt.drop { C with D := C.commit.2 } by rw [CSt.flush, if_pos hE]; simp [CSt.drop])
          have hc2 := cell_blk HR5.out.cblk 2
          simp at hc2
          obtain ⟨es5, cl5, hm5, _, _⟩ := HR5.out.mblk
          have hcl := run_clear_map (w := w5) (ty := 0) Tryz.underlying127 hm5
          have Hm5 := Lib.hid hm5
          have HE := Lib.hid hE
          clear hu hm5 hE
          go_wp2_with fail
          go_ret
          rw [Hfl.out, HE.out]
          exact ⟨_, rfl, rfl, _, HR5.out.cleared Hm5.out, Hk5.out.trans ((putO_kp w5 bm _).mono (fun i e => (show i = bm from e) ▸ H.out.own.2.2)) (Gr.refl _ _), Hg5.out⟩
        | some p =>
          have hu := Hu5.out
          rw [hE] at hu
          obtain ⟨t5, x5, rfl⟩ := IsErr.iface hu
          have Hfl := Lib.hid (show C.flush = { C with D := C.commit.2 } by rw [CSt.flush, if_neg (by rw [hE]; simp)])
          have HE := Lib.hid hE
          have Hu := Lib.hid hu
          clear hu hE
          go_wp2_with fail
          refine (fault_Wrap _ _ _ (wrapE (tx [106, 111, 117, 114, 110, 97, 108]) (tx []) (some p)) _ Hu.out).mono ?_
          rintro e w6 ⟨v6, rfl, hv6, hk6⟩
          have Hv6 := Lib.hid hv6
          have Hk6 := Lib.hid hk6
          clear hv6 hk6
          go_wp2_with fail
          go_ret
          rw [Hfl.out, HE.out]
          exact ⟨_, rfl, Hv6.out, _, HR5.out.kp0 Hk6.out, Hk5.out.trans (F1 := fun _ => False) Hk6.out (fun _ h => h.elim), Hg5.out⟩
end Go.Proofs.YthjbpbahcemfgaaGreatDoor
namespace Go.Proofs.YthjbpbahcemfgaaGreatDoor
open Go.RowKit
set_option maxHeartbeats 1000000
set_option maxRecDepth 20000

/-- A disk without a fuse does not die. -/
theorem DSt.runs_alive : ∀ (l : List (Nat × List Int)) {D : DSt}, D.dead = false → D.fuse ≤ 0 → (D.runs l).1 = none ∧ (D.runs l).2.dead = false ∧ (D.runs l).2.fuse = D.fuse ∧ (D.runs l).2 = l.foldl (fun D x => D.wr x.1 x.2) D
  | [], _, h, _ => ⟨rfl, h, rfl, rfl⟩
  | x :: l, D, h, hf => by
    have h1 : (D.wr x.1 x.2).dead = false := by simp only [DSt.wr]; rw [if_neg (by omega)]; exact h
    have h2 : (D.wr x.1 x.2).fuse = D.fuse := by simp only [DSt.wr]; rw [if_neg (by omega)]
    rw [DSt.runs, h]
    have := DSt.runs_alive l h1 (by omega)
    rw [h2] at this
    exact this
theorem fold_not : ∀ (l : List (Nat × List Int)) (D : DSt) (k : Nat), (∀ x ∈ l, x.1 ≠ k) → (l.foldl (fun D x => D.wr x.1 x.2) D).row k = D.row k
  | [], _, _, _ => rfl
  | x :: l, D, k, h => by
    rw [List.foldl_cons, fold_not l _ k (fun y hy => h y (List.mem_cons_of_mem _ hy))]
    simp only [DSt.wr]
    rw [if_neg (fun e => h x List.mem_cons_self e.symm)]
theorem fold_mem : ∀ (l : List (Nat × List Int)) (D : DSt) (k : Nat) (ys : List Int), (l.map (·.1)).Nodup → (k, ys) ∈ l → (l.foldl (fun D x => D.wr x.1 x.2) D).row k = ys
  | [], _, _, _, _, h => by cases h
  | x :: l, D, k, ys, hn, h => by
    rw [List.foldl_cons]
    rw [List.map_cons, List.nodup_cons] at hn
    rcases List.mem_cons.1 h with e | h
    · subst e
      rw [fold_not l _ k (fun y hy e => hn.1 (List.mem_map.2 ⟨y, hy, e⟩))]
      simp [DSt.wr]
    · exact fold_mem l _ k ys hn.2 h
theorem CSt.commit_alive {C : CSt} (h : C.D.dead = false) (hf : C.D.fuse ≤ 0) : C.commit.1 = none ∧ C.commit.2.dead = false ∧ C.commit.2.fuse = C.D.fuse ∧ C.commit.2.n = C.D.n := by
  unfold CSt.commit
  split
  · exact ⟨rfl, h, rfl, rfl⟩
  · have := DSt.runs_alive (cwOf C.jat C.group) h hf
    exact ⟨this.1, this.2.1, this.2.2.1, DSt.runs_n _ _⟩
theorem CSt.flush_alive {C : CSt} (h : C.D.dead = false) (hf : C.D.fuse ≤ 0) : C.flush = { C with D := C.commit.2, ch := [] } := by
  rw [CSt.flush, if_pos (C.commit_alive h hf).1]
/-- The disk's row behind a Flush. -/
theorem CSt.flush_row {C : CSt} (h : C.D.dead = false) (hf : C.D.fuse ≤ 0) (hnd : C.ch.Nodup) (k : Nat) (hk : k < C.jat) : C.commit.2.row k = C.view k := by
  unfold CSt.commit
  split
  · rename_i hg
    have : C.ch = [] := by
      have h1 : C.chs = [] := by simpa [CSt.group] using hg
      have h2 := C.chs_perm
      rw [h1] at h2
      exact h2.symm.eq_nil
    simp [CSt.view, this]
  · have e := (DSt.runs_alive (cwOf C.jat C.group) h hf).2.2.2
    rw [e, cwOf, List.foldl_append, List.foldl_cons, List.foldl_append]
    rw [fold_not [(C.jat, zs 128)] _ k (fun x hx => by simp at hx; subst hx; simp; omega)]
    have hw : ∀ (D : DSt), ((wsOf C.jat (bodyRows C.group)).foldl (fun D x => D.wr x.1 x.2) D).row k = D.row k := fun D => fold_not _ _ k (fun x hx => by
      obtain ⟨i, _, rfl⟩ := List.mem_map.1 hx
      show C.jat + 1 + i ≠ k
      omega)
    by_cases hin : k ∈ C.ch
    · rw [fold_mem C.group _ k (C.cont k) (by rw [show C.group.map (·.1) = C.chs by rw [CSt.group, List.map_map]; exact List.map_id _]; exact C.chs_perm.nodup_iff.2 hnd) (List.mem_map.2 ⟨k, CSt.chs_mem.2 hin, rfl⟩)]
      simp [CSt.view, hin]
    · rw [fold_not C.group _ k (fun x hx => by
        obtain ⟨no, hno, rfl⟩ := List.mem_map.1 hx
        intro e
        have e : no = k := e
        exact hin (e ▸ CSt.chs_mem.1 hno))]
      have : ∀ (D : DSt) (ys : List Int), (D.wr C.jat ys).row k = D.row k := fun D ys => by simp only [DSt.wr]; rw [if_neg (by omega)]
      rw [this, hw]
      simp [CSt.view, hin]
end Go.Proofs.YthjbpbahcemfgaaGreatDoor
namespace Go.Proofs.YthjbpbahcemfgaaGreatDoor
open Go.RowKit
set_option maxHeartbeats 1000000
set_option maxRecDepth 20000

theorem TI.congr {C C' : CSt} {at_ n mat lo nbl : Nat} {T : Nat → Nd} (h : TI C at_ n mat lo nbl T) (g : Geo at_ n mat lo nbl C.blocks) (hv : ∀ no, no < C.blocks → C'.view no = C.view no) : TI C' at_ n mat lo nbl T := by
  have g1 := g.g1
  have g2 := g.g2
  have g3 := g.g3
  have g6 := g.g6
  refine ⟨fun k a b => by rw [hv _ (by omega)]; exact h.img k a b, fun k a b c => ?_, h.ok, fun j hj => ?_, h.sep⟩
  · have ho := h.ok k a b
    have hm : (T k).more ≠ 0 := fun h0 => by have := ho.more.1 h0; omega
    have := ho.rng _ (Nd.mem_more hm)
    rw [hv _ (by omega)]; exact h.mor k a b c
  · rw [bitC_congr (C := C) (nbl := nbl) (fun no hno => hv no (by unfold IsM at hno; omega)) j hj]
    exact h.bit j hj
theorem dataOf_congr {C C' : CSt} {at_ n mat lo nbl : Nat} {T : Nat → Nd} (h : TI C at_ n mat lo nbl T) (g : Geo at_ n mat lo nbl C.blocks) (hv : ∀ no, no < C.blocks → C'.view no = C.view no) {k : Nat} (k1 : 1 ≤ k) (k2 : k ≤ n) : dataOf C'.view (T k) = dataOf C.view (T k) := by
  have g3 := g.g3
  unfold dataOf
  congr 1
  exact cat_congr fun b hb => hv b (by have := (h.ok k k1 k2).rng b (Nd.mem_l hb); omega)
/-- R: of each inode the kind and the bytes. -/
structure IT (w : World) (bt bx bc bj bm bd nbl : Nat) (R : Nat → Nat × List Int) (F : Nat → Prop) (wr : World) : Prop where
  ex : ∃ C T, Tab wr bt bx bc bj bm bd 5 6 0 20 nbl C F T ∧ (∀ k, 1 ≤ k → k ≤ 6 → (T k).kind = (R k).1 ∧ dataOf C.view (T k) = (R k).2) ∧ (∀ x ∈ C.ch, x < 80) ∧ C.most = 80 ∧ C.jat = 120 ∧ C.blocks = 120 ∧ C.D.n = 220 ∧ C.D.fuse = -1
  kp : Kp (fun _ => False) w wr
  hi : ∀ k, F k → w.heap.size ≤ k
  few : nbl ≤ 60
  ng : NG ≤ w.heap.size
variable {w wr : World} {bt bx bc bj bm bd nbl : Nat} {R : Nat → Nat × List Int} {F : Nat → Prop}
theorem IT.kp0 {w' : World} (h : IT w bt bx bc bj bm bd nbl R F wr) (k : Kp (fun _ => False) wr w') : IT w bt bx bc bj bm bd nbl R F w' := by
  obtain ⟨⟨C, T, h1, h2⟩, h3, h4, h5, h6⟩ := h
  exact ⟨⟨C, T, h1.kp0 k, h2⟩, h3.trans k (Gr.refl _ _), h4, h5, h6⟩
theorem IT.ngr (h : IT w bt bx bc bj bm bd nbl R F wr) : NG ≤ wr.heap.size := Nat.le_trans h.ng h.kp.size
theorem IT.fresh (h : IT w bt bx bc bj bm bd nbl R F wr) : ∀ k, F k → k < wr.heap.size := by
  obtain ⟨⟨C, T, h1, h2⟩, h3, h4, h5, h6⟩ := h
  exact h1.map.rep.disk.lt
theorem IT.gl (h : IT w bt bx bc bj bm bd nbl R F wr) : Gl wr := by
  obtain ⟨⟨C, T, h1, h2⟩, h3, h4, h5, h6⟩ := h
  exact h1.gl
theorem it_room {C : CSt} (h : ∀ x ∈ C.ch, x < 80) (hm : C.most = 80) (hn : nbl ≤ 60) {ino : Nat} (h2 : ino ≤ 6) : Rm C.ch (mapW 0 nbl ++ [5 + ino - 1]) C.most 20 (20 + nbl) := by
  rw [hm]
  refine Rm.below h (fun x hx => ?_) (by omega)
  rcases List.mem_append.1 hx with hx | hx
  · have := mem_mapW.1 hx; unfold IsM nb at this; omega
  · simp at hx; omega
theorem it_set {w' : World} {ino : Nat} {ys : List Int} {C : CSt} {T : Nat → Nd} (h1 : 1 ≤ ino) (h2 : ino ≤ 6) (_ht : Tab wr bt bx bc bj bm bd 5 6 0 20 nbl C F T) (hR : ∀ k, 1 ≤ k → k ≤ 6 → (T k).kind = (R k).1 ∧ dataOf C.view (T k) = (R k).2)
    (hC : (∀ x ∈ C.ch, x < 80) ∧ C.most = 80 ∧ C.jat = 120 ∧ C.blocks = 120 ∧ C.D.n = 220 ∧ C.D.fuse = -1) (h3 : Kp (fun _ => False) w wr) (h4 : ∀ k, F k → w.heap.size ≤ k) (h5 : nbl ≤ 60) (h6 : NG ≤ w.heap.size)
    {x' : Nd} {C' : CSt} {F' : Nat → Prop} (hs : SetR wr bt bx bc bj bm bd 5 6 0 20 nbl C F T none ino ys x' C' F' w') : IT w bt bx bc bj bm bd nbl (setR R ino ((R ino).1, ys)) F' w' ∧ Kp F wr w' ∧ Gr F F' wr.heap.size := by
  have hkp : Kp F wr w' := hs.kp.mono (fun k hk => by rcases hk with hk | hk; exact hk; cases hk)
  refine ⟨⟨⟨C', setT T ino x', hs.tab, fun k k1 k2 => ?_, fun x hx => ?_, by rw [hs.cs.mo]; exact hC.2.1, by rw [hs.cs.ja]; exact hC.2.2.1, by rw [hs.cs.bl]; exact hC.2.2.2.1, by rw [hs.cs.D]; exact hC.2.2.2.2.1, by rw [hs.cs.D]; exact hC.2.2.2.2.2⟩, h3.over hkp h4, hs.gr.over h4 h3.size, h5, h6⟩, hkp, hs.gr⟩
  · by_cases e : k = ino
    · subst e
      rw [setT_same, setR_same]
      exact ⟨hs.kd.trans (hR k k1 k2).1, hs.data⟩
    · rw [setT_other _ _ e, setR_other _ _ e, hs.rest k k1 k2 e]
      exact hR k k1 k2
  · rcases hs.cs.ch x hx with h | h | h | h
    · exact hC.1 x h
    · unfold IsM nb at h; omega
    · omega
    · have ho := hs.tab.ti.ok ino h1 h2
      rw [setT_same] at ho
      have := ho.rng x h; omega
theorem it_write (h : IT w bt bx bc bj bm bd nbl R F wr) {ino p : Nat} (h1 : 1 ≤ ino) (h2 : ino ≤ 6) (hk : (R ino).1 ≠ 0) (v : Value) (ys : List Int) (hv : Sl wr v ys) (hyb : Byt ys) (hy0 : ys ≠ []) (hp : p + ys.length ≤ 4000) (hroom : usedR R 6 + bks (max (R ino).2.length (p + ys.length)) ≤ nbl + bks (R ino).2.length) :
    Calls Tryz.prog 23 #[.pointer (some ⟨bt, 0, none⟩), .int .i64 ino, .int .i64 p, v] wr fun e w' => e = .returned .nilIface ∧ ∃ F', IT w bt bx bc bj bm bd nbl (setR R ino ((R ino).1, wrAt (R ino).2 p ys)) F' w' ∧ Kp F wr w' ∧ Gr F F' wr.heap.size := by
  obtain ⟨⟨C, T, ht, hR, hC⟩, h3, h4, h5, h6⟩ := h
  obtain ⟨e1, e2⟩ := hR ino h1 h2
  have hdl := data_len ht h1 h2
  have hu := it_used ht hR
  have hb := bks_of (ht.ti.ok ino h1 h2)
  rw [e2] at hdl
  refine (inode_Write_ok ht h1 h2 (Nat.le_trans h6 h3.size) (by rw [e1]; exact hk) v ys hv hyb hy0 hp (by rw [← hdl]; rw [← hdl] at hb; omega) (it_room hC.1 hC.2.1 h5 h2)).mono ?_
  rintro e w' ⟨rfl, x', C', F', hs⟩
  rw [e2] at hs
  exact ⟨rfl, F', it_set h1 h2 ht hR hC h3 h4 h5 h6 hs⟩
theorem it_write0 (h : IT w bt bx bc bj bm bd nbl R F wr) {ino p : Nat} (h1 : 1 ≤ ino) (h2 : ino ≤ 6) (hk : (R ino).1 ≠ 0) (v : Value) (hv : Sl wr v []) (hp : p ≤ 4000) :
    Calls Tryz.prog 23 #[.pointer (some ⟨bt, 0, none⟩), .int .i64 ino, .int .i64 p, v] wr fun e w' => e = .returned .nilIface ∧ Kp (fun _ => False) wr w' := by
  obtain ⟨⟨C, T, ht, hR, hC⟩, h3, h4, h5, h6⟩ := h
  exact inode_Write_empty ht h1 h2 (by rw [(hR ino h1 h2).1]; exact hk) v hv hp
theorem it_cut (h : IT w bt bx bc bj bm bd nbl R F wr) {ino M : Nat} (h1 : 1 ≤ ino) (h2 : ino ≤ 6) (hk : (R ino).1 ≠ 0) (hM : M ≤ 4000) (hroom : usedR R 6 + bks M ≤ nbl + bks (R ino).2.length) :
    Calls Tryz.prog 25 #[.pointer (some ⟨bt, 0, none⟩), .int .i64 ino, .int .i64 M] wr fun e w' => e = .returned .nilIface ∧ ∃ F', IT w bt bx bc bj bm bd nbl (setR R ino ((R ino).1, cutAt (R ino).2 M)) F' w' ∧ Kp F wr w' ∧ Gr F F' wr.heap.size := by
  obtain ⟨⟨C, T, ht, hR, hC⟩, h3, h4, h5, h6⟩ := h
  obtain ⟨e1, e2⟩ := hR ino h1 h2
  have hdl := data_len ht h1 h2
  have hu := it_used ht hR
  have hb := bks_of (ht.ti.ok ino h1 h2)
  rw [e2] at hdl
  refine (inode_Cut_ok ht h1 h2 (Nat.le_trans h6 h3.size) (by rw [e1]; exact hk) hM (by rw [← hdl] at hb; omega) (it_room hC.1 hC.2.1 h5 h2)).mono ?_
  rintro e w' ⟨rfl, x', C', F', hs⟩
  rw [e2] at hs
  exact ⟨rfl, F', it_set h1 h2 ht hR hC h3 h4 h5 h6 hs⟩
theorem it_read (h : IT w bt bx bc bj bm bd nbl R F wr) {ino p m : Nat} (h1 : 1 ≤ ino) (h2 : ino ≤ 6) (hk : (R ino).1 ≠ 0) (hp : p ≤ 9223372036854775807) (hm : m ≤ 9223372036854775807) :
    Calls Tryz.prog 27 #[.pointer (some ⟨bt, 0, none⟩), .int .i64 ino, .int .i64 p, .int .i64 m] wr fun e w' => ∃ v, e = .returned (.tuple #[v, .nilIface]) ∧ Sl w' v (readAt (R ino).2 p m) ∧ Kp (fun _ => False) wr w' := by
  obtain ⟨⟨C, T, ht, hR, hC⟩, h3, h4, h5, h6⟩ := h
  obtain ⟨e1, e2⟩ := hR ino h1 h2
  have := inode_Read_ok ht h1 h2 (by rw [e1]; exact hk) hp hm
  rw [e2] at this
  exact this
theorem it_size (h : IT w bt bx bc bj bm bd nbl R F wr) {ino : Nat} (h1 : 1 ≤ ino) (h2 : ino ≤ 6) (hk : (R ino).1 ≠ 0) :
    Calls Tryz.prog 13 #[.pointer (some ⟨bt, 0, none⟩), .int .i64 ino] wr fun e w' => e = .returned (.tuple #[.int .i64 (R ino).2.length, .nilIface]) ∧ Kp (fun _ => False) wr w' := by
  obtain ⟨⟨C, T, ht, hR, hC⟩, h3, h4, h5, h6⟩ := h
  obtain ⟨e1, e2⟩ := hR ino h1 h2
  have := inode_Size_ok ht h1 h2 (by rw [e1]; exact hk)
  rw [← data_len ht h1 h2, e2] at this
  exact this
theorem it_free (h : IT w bt bx bc bj bm bd nbl R F wr) :
    Calls Tryz.prog 18 #[.pointer (some ⟨bx, 0, none⟩)] wr fun e w' => e = .returned (.tuple #[.int .i64 ((nbl : Int) - (usedR R 6 : Nat)), .nilIface]) ∧ Kp (fun _ => False) wr w' := by
  obtain ⟨⟨C, T, ht, hR, hC⟩, h3, h4, h5, h6⟩ := h
  have hu := it_used ht hR
  have hf := frees_taken C 0 20 nbl
  have := alloc_Free_ok ht.map
  rw [show (((taken C 0 20 nbl).length : Nat) : Int) = ((usedR R 6 : Nat) : Int) by omega] at this
  exact this
theorem it_make (h : IT w bt bx bc bj bm bd nbl R F wr) {i kd : Nat} (h1 : 1 ≤ i) (h2 : i ≤ 6) (h0 : (R i).1 = 0) (hl : ∀ j, 1 ≤ j → j < i → (R j).1 ≠ 0) (hk : kd = 1 ∨ kd = 2) :
    Calls Tryz.prog 19 #[.pointer (some ⟨bt, 0, none⟩), .int .i64 kd] wr fun e w' => e = .returned (.tuple #[.int .i64 i, .nilIface]) ∧ ∃ F', IT w bt bx bc bj bm bd nbl (setR R i (kd, [])) F' w' ∧ Kp F wr w' ∧ Gr F F' wr.heap.size := by
  obtain ⟨⟨C, T, ht, hR, hC⟩, h3, h4, h5, h6⟩ := h
  have hT0 : (T i).kind = 0 := (hR i h1 h2).1.trans h0
  have ht1 := inode_take_ok ht h1 h2 hT0 (fun j j1 j2 => by rw [(hR j j1 (by omega)).1]; exact hl j j1 j2) (show 1 ≤ kd by omega) (by omega) (it_room hC.1 hC.2.1 h5 h2)
  refine (inode_Make_of (R := fun x y w' => x = .int .i64 i ∧ y = .nilIface ∧ ∃ F', Tab w' bt bx bc bj bm bd 5 6 0 20 nbl (C.nodeW 5 i ⟨kd, 0, [], 0⟩) F' (setT T i ⟨kd, 0, [], 0⟩) ∧ Kp F wr w' ∧ Gr F F' wr.heap.size) (kd := (kd : Int)) (by omega) (ht1.mono ?_)).mono ?_
  · rintro e w' ⟨rfl, F', a, b, c⟩
    exact ⟨_, _, rfl, rfl, rfl, F', a, b, c⟩
  · rintro e w' ⟨x, y, rfl, rfl, rfl, F', a, b, c⟩
    refine ⟨rfl, F', ⟨⟨_, _, a, fun k k1 k2 => ?_, fun x hx => ?_, hC.2⟩, h3.over b h4, c.over h4 h3.size, h5, h6⟩, b, c⟩
    · by_cases e : k = i
      · subst e
        rw [setT_same, setR_same]
        exact ⟨rfl, rfl⟩
      · rw [setT_other _ _ e, setR_other _ _ e]
        have hb := blks_empty (ht.ti.ok i h1 h2) hT0
        have hcs : CS (fun no => no = 5 + i - 1 ∨ no ∈ (⟨kd, 0, [], 0⟩ : Nd).blks) C (C.nodeW 5 i ⟨kd, 0, [], 0⟩) := (nodeW_cs C 5 i ⟨kd, 0, [], 0⟩).mono (fun no h => by rcases h with h | ⟨h8, _⟩; exact .inl h; exact absurd h8 (by simp))
        rw [ht.ti.data ht.geo h1 h2 (fit_same (x' := ⟨kd, 0, [], 0⟩) hb rfl) (CS.refl _ _) hcs k1 k2 e]
        exact hR k k1 k2
    · have hx' := (nodeW_cs C 5 i ⟨kd, 0, [], 0⟩).ch x hx
      rcases hx' with h | h | ⟨h8, _⟩
      · exact hC.1 x h
      · omega
      · exact absurd h8 (by simp)
theorem it_flush (h : IT w bt bx bc bj bm bd nbl R F wr) :
    Calls Tryz.prog 29 #[.pointer (some ⟨bc, 0, none⟩)] wr fun e w' => e = .returned .nilIface ∧ ∃ F', IT w bt bx bc bj bm bd nbl R F' w' ∧ Kp F wr w' ∧ Gr F F' wr.heap.size := by
  obtain ⟨⟨C, T, ht, hR, hC1, c6, c7, c8, c9, c10⟩, h3, h4, h5, h6⟩ := h
  have c1 := ht.map
  have hz : C.D.Fz := by unfold DSt.Fz; rw [c10]; omega
  have hf : C.D.fuse ≤ 0 := by rw [c10]; omega
  have hca := C.commit_alive c1.live hf
  have hfa := C.flush_alive c1.live hf
  have hrow : ∀ k, k < 120 → C.commit.2.row k = C.view k := fun k hk => C.flush_row c1.live hf c1.rep.nd k (by rw [c7]; exact hk)
  have hview : ∀ k, k < 120 → C.flush.view k = C.view k := fun k hk => by rw [hfa]; simp [CSt.view, hrow k hk]
  have hblk : C.flush.blocks = C.blocks := by rw [hfa]
  have hvw : ∀ no, no < C.blocks → C.flush.view no = C.view no := fun no hno => hview no (by rw [← c8]; exact hno)
  refine (cache_Flush c1.rep hz (by rw [c7, c8]; omega) (by rw [c7, c6, c9]; decide)).mono ?_
  rintro e w' ⟨u, rfl, hu, F', hr, hk, hg⟩
  rw [hca.1] at hu
  have hu' : u = .nilIface := hu
  subst hu'
  refine ⟨rfl, F', ⟨⟨C.flush, T, ⟨hk.blk ht.blk ht.out, hg.not ht.out (lt_blk ht.blk), c1.step hr hk hg hblk (by rw [hfa]; exact hca.2.1) (fun no hno => by rw [hvw no (by rw [hblk] at hno; exact hno)]; exact c1.vb no (by rw [hblk] at hno; exact hno)), by rw [hblk]; exact ht.geo, ht.ti.congr ht.geo hvw⟩, fun k k1 k2 => ?_, fun x hx => ?_, by rw [hfa]; exact c6, by rw [hfa]; exact c7, by rw [hfa]; exact c8, by rw [hfa]; exact hca.2.2.2.trans c9, by rw [hfa]; exact hca.2.2.1.trans c10⟩, h3.over hk h4, hg.over h4 h3.size, h5, h6⟩, hk, hg⟩
  · rw [dataOf_congr ht.ti ht.geo hvw k1 k2]
    exact hR k k1 k2
  · rw [hfa] at hx; cases hx
end Go.Proofs.YthjbpbahcemfgaaGreatDoor
namespace Go.Proofs.YthjbpbahcemfgaaGreatDoor
open Go.RowKit
set_option maxHeartbeats 2000000
set_option maxRecDepth 20000

theorem it_new {w w1 w2 w3 : World} {bt bx bc bj bm bd nbl : Nat} {F : Nat → Prop} (hr : CRep w1 bc bj bm bd (CSt.made 120) F) (hk1 : Kp (fun _ => False) w w1) (hf : ∀ k, F k → w.heap.size ≤ k) (hk2 : Kp (fun _ => False) w1 w2) (hb : MBlk w2 bx bc 0 20 nbl) (hbx : w1.heap.size ≤ bx)
    (hk3 : Kp (fun _ => False) w2 w3) (ht : TBlk w3 bt bc bx 5 6) (hbt : w2.heap.size ≤ bt) (h1 : 1 ≤ nbl) (h2 : nbl ≤ 60) (hng : NG ≤ w.heap.size) : IT w bt bx bc bj bm bd nbl (fun _ => (0, [])) F w3 := by
  have hlt := hr.disk.lt
  have s2 := hk2.size
  have hm : MapOn w2 bx bc bj bm bd 0 20 nbl (CSt.made 120) F := made_map hr hk2 hb hbx h1 (by omega) (by unfold nb; omega) (by omega)
  have hnb : nb nbl = 1 := by unfold nb; omega
  refine ⟨⟨CSt.made 120, fun _ => Nd.zero, ⟨ht, fun hF => by have := hlt _ hF; omega, hm.step (hm.rep.kp0 hk3) (hk3.mono (fun _ h => h.elim)) (Gr.refl _ _) rfl hm.live hm.vb, ⟨by rw [hnb]; decide, by decide, by show 20 + nbl ≤ 120; omega, by show (120 : Nat) ≤ 2048; decide, by decide, h1⟩, ?_⟩, fun k _ _ => ⟨rfl, rfl⟩, (fun x hx => by cases hx), rfl, rfl, rfl, rfl, rfl⟩, (hk1.trans hk2 (Gr.refl _ _)).trans hk3 (Gr.refl _ _), hf, h2, hng⟩
  refine ⟨fun k _ _ => by rw [nodeRow_zero]; exact new_view _, fun k _ _ h8 => absurd h8 (by simp [Nd.zero]), fun k _ _ => NdOk.zero' _ _, fun j _ => ?_, fun k k' _ _ _ _ _ b hb => by simp [Nd.blks, Nd.zero] at hb⟩
  constructor
  · intro h
    rw [CSt.made, new_bit] at h
    cases h
  · rintro ⟨k, _, _, h⟩
    simp [Nd.blks, Nd.zero] at h
theorem made8_ok {w : World} (hg : Gl w) (hng : NG ≤ w.heap.size) (n : Nat) (h0 : 1 ≤ n) (h1 : n ≤ 60) :
    Calls Tryz.prog 16 #[.int .i64 n] w fun e w' => ∃ bt bx bc bj bm bd F, e = .returned (.tuple #[.pointer (some ⟨bc, 0, none⟩), .pointer (some ⟨bx, 0, none⟩), .pointer (some ⟨bt, 0, none⟩)]) ∧ IT w bt bx bc bj bm bd n (fun _ => (0, [])) F w' := by
  have HM := Lib.hid (made7_ok (w := w) hg hng 120 (by omega) (by omega))
  have Hng := Lib.hid hng
  clear hg hng
  go_enter Tryz.func16, Tryz.ntmps16
  go_wp2_with fail
  refine HM.out.mono ?_
  rintro e w1 ⟨bd, bc, bj, bm, F, rfl, hr, hk1, hf⟩
  have Hr := Lib.hid (show CRep w1 bc bj bm bd (CSt.made 120) F from hr)
  have Hk1 := Lib.hid hk1
  have Hf := Lib.hid hf
  clear hr hk1 hf
  go_wp2_with fail
  refine (alloc_New_ok bc 0 20 (n : Int) (by omega) (by omega) (by omega) (by omega)).mono ?_
  rintro e w2 ⟨rfl, hb, hk2⟩
  have Hb := Lib.hid (show MBlk w2 w1.heap.size bc 0 20 n from hb)
  have Hk2 := Lib.hid hk2
  clear hb hk2
  go_wp2_with fail
  refine (inode_New_ok bc w1.heap.size 5 6 (by omega) (by omega)).mono ?_
  rintro e w3 ⟨rfl, ht, hk3⟩
  have Ht := Lib.hid ht
  have Hk3 := Lib.hid hk3
  clear ht hk3
  go_wp2_with fail
  have hit := it_new Hr.out Hk1.out Hf.out Hk2.out Hb.out (Nat.le_refl _) Hk3.out Ht.out (Nat.le_refl _) h0 h1 Hng.out
  refine bodyPost_ret (v := .tuple #[.pointer (some ⟨bc, 0, none⟩), .pointer (some ⟨w1.heap.size, 0, none⟩), .pointer (some ⟨w2.heap.size, 0, none⟩)]) (by simp [results, Tryz.results16, go_sem]) rfl ⟨_, _, bc, bj, bm, bd, F, rfl, hit⟩
end Go.Proofs.YthjbpbahcemfgaaGreatDoor
namespace Go.Proofs.YthjbpbahcemfgaaGreatDoor
open Go.RowKit
set_option maxHeartbeats 4000000
set_option maxRecDepth 20000

theorem sl_lit8 (w : World) (xs : List Int) (lo hi : Nat) (hx : xs.length ≤ maxLen) : Sl (w.alloc (.cells (bs xs).toArray 5 (lo, hi))) (.slice (some ⟨w.heap.size, 0, none⟩) xs.length xs.length) xs := by
  refine ⟨_, _, rfl, Nat.le_refl _, hx, fun _ => ⟨_, rfl, fun j u hj => ?_⟩⟩
  rw [add0, cell_blk (new_blk w _)]
  simpa using hj
theorem awake8_ok {w : World} (hg : Gl w) (hng : NG ≤ w.heap.size) :
    Calls Tryz.prog 17 #[] w fun e w' => e = .returned (.bool true) ∧ Kp (fun _ => False) w w' := by
  have HM := Lib.hid (made8_ok (w := w) hg hng 20 (by omega) (by omega))
  clear hg hng
  go_enter Tryz.func17, Tryz.ntmps17
  go_wp2_with fail
  refine HM.out.mono ?_
  rintro e w1 ⟨bt, bx, bc, bj, bm, bd, F, rfl, hit⟩
  have HI := Lib.hid hit
  clear hit
  go_wp2_with fail
  refine (it_make HI.out (i := 1) (kd := 1) (by omega) (by omega) rfl (fun j h1 h2 => by omega) (.inl rfl)).mono ?_
  rintro e w2 ⟨rfl, F2, hit, hk, hgr⟩
  have HI2 := Lib.hid (show IT w bt bx bc bj bm bd 20 (setR R0 1 (1, [])) F2 w2 from hit)
  clear hit hk hgr
  have hcv := Lib.run_convert_bytes_const (P := Tryz.prog) w2 52 5 #[.int .u8 120] 1 1 Tryz.underlying52 Tryz.underlying5
  simp only [List.size_toArray, List.length_cons, List.length_nil, Nat.reduceAdd] at hcv
  go_wp2_with fail
  clear hcv
  have HI3 := Lib.hid (HI2.out.kp0 ((Kp.refl _ _).alloc (.cells #[.int .u8 120] 5 (1, 2))))
  refine (it_write HI3.out (ino := 1) (p := 2) (by omega) (by omega) (by decide) _ [120] (sl_lit8 w2 [120] 1 2 (by simp [maxLen])) (fun x hx => by simp at hx; omega) (by simp) (by simp) (by rw [used_one]; decide)).mono ?_
  rintro e w4 ⟨rfl, F4, hit, hk, hgr⟩
  rw [setR_setR] at hit
  have HI4 := Lib.hid (show IT w bt bx bc bj bm bd 20 (setR R0 1 (1, wrAt [] 2 [120])) F4 w4 from hit)
  clear hit hk hgr HI3 HI2
  go_wp2_with fail
  refine (it_read HI4.out (ino := 1) (p := 0) (m := 9) (by omega) (by omega) (by decide) (by omega) (by omega)).mono ?_
  rintro e w5 ⟨v, rfl, hs, hk5⟩
  have hval : readAt (wrAt [] 2 [120]) 0 9 = [0, 0, 120] := by decide +kernel
  rw [setR_same] at hs
  have hs' : Sl w5 v [0, 0, 120] := by rw [← hval]; exact hs
  have hcv := conv_str hs'
  have hst : str [0, 0, 120] = ({ data := #[0, 0, 120] } : ByteArray) := by decide +kernel
  rw [hst] at hcv
  have HK := Lib.hid (HI4.out.kp.trans hk5 (Gr.refl _ _))
  obtain ⟨Av, cv, ev, _, _, _⟩ := hs'
  have ev' : v = .slice Av 3 cv := ev
  subst ev'
  clear ev
  clear hs hk5 hval hst
  go_wp2_with fail
  go_ret
  exact ⟨rfl, HK.out⟩
end Go.Proofs.YthjbpbahcemfgaaGreatDoor
namespace Go.Proofs.YthjbpbahcemfgaaGreatDoor
open Go.RowKit
set_option maxHeartbeats 4000000
set_option maxRecDepth 20000

theorem ref_Blocks {w : World} (n : Nat) (hn : n ≤ 4000) :
    Calls Tryz.prog 54 #[.int .i64 n] w fun e w' => e = .returned (.int .i64 (bks n : Nat)) ∧ w = w' := by
  have hd : dat n ≤ 32 := by unfold dat; omega
  have e0 : ((n : Int) + 127) / 128 = ((dat n : Nat) : Int) := by unfold dat; omega
  have e1 : max (n : Int) 0 = (n : Int) := by omega
  have e2 : min (n : Int) 4000 = (n : Int) := by omega
  have hc : 8 < dat n ↔ 1024 < n := by unfold dat; omega
  have hb : bks n = dat n + if 1024 < n then 1 else 0 := rfl
  by_cases h1 : 1024 < n
  · have hc' : (8 : Int) < ((dat n : Nat) : Int) := by have := hc.2 h1; omega
    rw [if_pos h1] at hb
    have Hb := Lib.hid hb
    clear hb hc
    generalize dat n = d at *
    go_enter Tryz.func54, Tryz.ntmps54
    go_wp2_with fail
    go_ret
    exact ⟨ret_int (by rw [Hb.out]; push_cast; omega), rfl⟩
  · have hc' : ¬ (8 : Int) < ((dat n : Nat) : Int) := by have := mt hc.1 h1; omega
    rw [if_neg h1, Nat.add_zero] at hb
    have Hb := Lib.hid hb
    clear hb hc
    generalize dat n = d at *
    go_enter Tryz.func54, Tryz.ntmps54
    go_wp2_with fail
    go_ret
    exact ⟨ret_int (by rw [Hb.out]), rfl⟩
theorem wpList_convSg {ops : Array Oper} {rest : List Oper} {o : Oper} {a : Act} {Q : Exit → Act → World → Prop} {w : World} (hw : Region.wanted o (yielded ops a.tmps) = true) (x : Operand) (ho : o.op = .convert 9 52 x) (ys : List Int) (n : Nat) (hn : ys.length = n) (hx : a.eval x = .string (str ys)) (hb : Byt ys) (hl : n ≤ maxLen)
    (h : ∀ w' c, Kp (fun _ => False) w w' → Sl w' (.slice (some ⟨w.heap.size, 0, none⟩) n c) ys → wpList Tryz.prog ops Q rest (a.put o.dst (.slice (some ⟨w.heap.size, 0, none⟩) n c)) w') : wpList Tryz.prog ops Q (o :: rest) a w := by
  subst hn
  refine wpList_step fun K hK => ?_
  rw [if_pos hw]
  have hr := Lib.run_convert_string_bytes (P := Tryz.prog) w 9 52 5 (str ys) Tryz.underlying9 Tryz.underlying52 Tryz.underlying5
  unfold Oper.wp execOp
  simp only [ho, hx, Sem.run_bind, Sem.run_pure, Result.andThen_ok, hr]
  rw [str_size]
  have hc1 := grownCap_ge w ys.length 0 5
  have hc2 := grownCap_le_maxLen w ys.length 0 5 hl
  have hk : Kp (fun _ => False) w (Lib.bytesWorld w 5 (str ys)) :=
    ⟨rfl, rfl, rfl, by rw [Lib.bytesWorld_size]; omega, fun k hk _ => Lib.bytesWorld_at_old w _ _ k hk⟩
  refine hK _ _ (h _ _ hk ⟨some ⟨w.heap.size, 0, none⟩, _, rfl, hc1, hc2, fun _ => ⟨_, rfl, fun j u hj => ?_⟩⟩)
  obtain ⟨y, hy, rfl⟩ := bs_get _ _ _ hj
  have hlt := (List.getElem?_eq_some_iff.1 hy).1
  rw [add0, Lib.bytesWorld_cell _ _ _ _ (by rw [str_size]; exact hlt), str_list]
  have hyr := hb y (List.mem_of_getElem? hy)
  rw [List.getD_eq_getElem?_getD, List.getElem?_map, hy]
  simp only [Option.map_some, Option.getD_some]
  congr 2
  have : (UInt8.ofNat y.toNat).toNat = y.toNat % 256 := by simp
  omega
end Go.Proofs.YthjbpbahcemfgaaGreatDoor
