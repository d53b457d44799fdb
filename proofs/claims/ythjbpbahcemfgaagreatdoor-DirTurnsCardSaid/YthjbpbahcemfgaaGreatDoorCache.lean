/- The cache: what its functions answer on a disk that lives. -/
import Derived.Test.YthjbpbahcemfgaaGreatDoorMap
namespace Go.Proofs.YthjbpbahcemfgaaGreatDoor
open Go.RowKit
set_option maxHeartbeats 1000000
set_option maxRecDepth 20000

/-- A cache over a journal over a disk: the disk, the journal's place and size, the cache's blocks, those that were changed, what these hold. -/
structure CSt where
  D : DSt
  jat : Nat
  most : Nat
  blocks : Nat
  ch : List Nat
  cont : Nat → List Int
/-- A block as it reads. -/
def CSt.view (C : CSt) (no : Nat) : List Int := if no ∈ C.ch then C.cont no else C.D.row no

/-- A row of the cache in memory. -/
def RowS (w : World) (F : Nat → Prop) (v : Value) (xs : List Int) : Prop :=
  ∃ g c, v = .slice (some ⟨g, 0, none⟩) 128 c ∧ 128 ≤ c ∧ c ≤ maxLen ∧ Row w g xs ∧ F g ∧ xs.length = 128
theorem RowS.kp {w w' : World} {F : Nat → Prop} {v : Value} {xs : List Int} {S : Nat → Prop} (h : RowS w F v xs) (k : Kp S w w') (hs : ∀ i, F i → ¬ S i) : RowS w' F v xs := by
  obtain ⟨g, c, h1, h2, h3, h4, h5, h6⟩ := h
  exact ⟨g, c, h1, h2, h3, h4.kp k (hs g h5), h5, h6⟩
theorem RowS.mono {w : World} {F F' : Nat → Prop} {v : Value} {xs : List Int} (h : RowS w F v xs) (hf : ∀ k, F k → F' k) : RowS w F' v xs := by
  obtain ⟨g, c, h1, h2, h3, h4, h5, h6⟩ := h
  exact ⟨g, c, h1, h2, h3, h4, hf g h5, h6⟩
theorem RowS.sl {w : World} {F : Nat → Prop} {v : Value} {xs : List Int} (h : RowS w F v xs) : Sl w v xs ∧ (∀ b, blockOf v = some b → F b) ∧ xs.length = 128 := by
  obtain ⟨g, c, rfl, h2, h3, h4, h5, h6⟩ := h
  refine ⟨?_, fun b hb => by simp [blockOf] at hb; subst hb; exact h5, h6⟩
  have := h4.sl c (by omega) h3
  rw [h6] at this; exact this

structure CRep (w : World) (bc bj bm bd : Nat) (C : CSt) (F : Nat → Prop) : Prop where
  cblk : w.heap[bc]? = some (.cells #[.pointer (some ⟨bj, 0, none⟩), .int .i64 C.blocks, .map (some bm)] 129 (0, 0))
  jblk : JBlk w bj bd C.jat C.most
  mblk : ∃ es clock, w.heap[bm]? = some (.map es clock) ∧ Keys es C.ch ∧ ∀ (i no : Nat), C.ch[i]? = some no → ∃ e : MapEntry, es[i]? = some e ∧ RowS w F e.val (C.cont no)
  own : F bc ∧ F bj ∧ F bm
  disk : DRep w bd C.D F
  nd : C.ch.Nodup
  inb : ∀ no ∈ C.ch, no < C.blocks
  few : C.ch.length ≤ C.most ∧ C.most ≤ 200 ∧ C.blocks ≤ C.D.n
  stamp : ∃ es clock, w.heap[bm]? = some (.map es clock) ∧ St es clock

theorem CRep.kp {w w' : World} {bc bj bm bd : Nat} {C : CSt} {F S : Nat → Prop} (h : CRep w bc bj bm bd C F) (k : Kp S w w') (hs : ∀ i, F i → ¬ S i) (hS : Hi S) : CRep w' bc bj bm bd C F := by
  obtain ⟨h1, h2, ⟨es, cl, h3, h4, h5⟩, h6, h7, h8, h9, h10, es', cl', hs1, hs2⟩ := h
  exact ⟨k.blk h1 (hs _ h6.1), k.blk h2 (hs _ h6.2.1), ⟨es, cl, k.blk h3 (hs _ h6.2.2), h4, fun i no hi => let ⟨e, a, b⟩ := h5 i no hi; ⟨e, a, b.kp k hs⟩⟩, h6, h7.kp k hs hS, h8, h9, h10, es', cl', k.blk hs1 (hs _ h6.2.2), hs2⟩
theorem CRep.kp0 {w w' : World} {bc bj bm bd : Nat} {C : CSt} {F : Nat → Prop} (h : CRep w bc bj bm bd C F) (k : Kp (fun _ => False) w w') : CRep w' bc bj bm bd C F := h.kp k (fun _ _ h => h) Hi.none

theorem cache_there {w : World} {bc bj bm bd : Nat} {C : CSt} {F : Nat → Prop} (h : CRep w bc bj bm bd C F) (no : Int) (h0 : 0 ≤ no) (h1 : no < C.blocks) :
    Calls Tryz.prog 128 #[.pointer (some ⟨bc, 0, none⟩), .int .i64 no] w fun e w' => e = .returned (.bool true) ∧ w = w' := by
  have c1 := cell_blk h.cblk 1
  simp at c1
  clear h
  go_enter Tryz.func128, Tryz.ntmps128
  go_wp2
  go_ret
  exact ⟨rfl, rfl⟩
theorem cache_there_no {w : World} {bc bj bm bd : Nat} {C : CSt} {F : Nat → Prop} (h : CRep w bc bj bm bd C F) (no : Int) (h0 : no < 0 ∨ (C.blocks : Int) ≤ no) :
    Calls Tryz.prog 128 #[.pointer (some ⟨bc, 0, none⟩), .int .i64 no] w fun e w' => e = .returned (.bool false) ∧ w = w' := by
  have c1 := cell_blk h.cblk 1
  simp at c1
  clear h
  by_cases hn : no < 0
  · go_enter Tryz.func128, Tryz.ntmps128
    go_wp2
    go_ret
    exact ⟨rfl, rfl⟩
  · have hz : (C.blocks : Int) ≤ no := by omega
    clear h0
    have hdz : decide (no < (C.blocks : Int)) = false := by simp; omega
    go_enter Tryz.func128, Tryz.ntmps128
    go_wp2
    go_ret
    exact ⟨by simp, rfl⟩

theorem cache_told (no : Int) (v : Value) (E : EV) (w : World) (hg : Gl w) (h0 : -9223372036854775808 ≤ no) (h1 : no ≤ 9223372036854775807) (hv : ErrV w v E) :
    Calls Tryz.prog 131 #[.int .i64 no, v] w fun e w' => ∃ v', e = .returned v' ∧ ErrV w' v' (wrapE (tx [99, 97, 99, 104, 101]) (tx (Lib.itoa no)) E) ∧ Kp (fun _ => False) w w' := by
  have H := Lib.hid hv
  have Hg := Lib.hid hg
  clear hv hg
  go_enter Tryz.func131, Tryz.ntmps131
  go_wp2_with fail
  refine (itoa_any no h0 h1 _ Hg.out).mono ?_
  rintro e w1 ⟨rfl, hk⟩
  go_wp2_with fail
  refine (fault_Wrap _ _ v E _ (H.out.kp hk (FCl.none _))).mono ?_
  rintro e w2 ⟨v', rfl, h1, h2⟩
  go_wp2_with fail
  go_ret
  exact ⟨v', rfl, h1, hk.trans h2 (Gr.refl _ _)⟩

theorem cache_wrong (no n : Int) (w : World) (hg : Gl w) (h0 : -9223372036854775808 ≤ no) (h1 : no ≤ 9223372036854775807) (h : n ≠ 0) :
    Calls Tryz.prog 118 #[.int .i64 no, .int .i64 n] w fun e w' => ∃ v, e = .returned v ∧ IsErr w' v [(tx [99, 97, 99, 104, 101], tx (Lib.itoa no))] n ∧ Kp (fun _ => False) w w' := by
  have Hg := Lib.hid hg
  clear hg
  go_enter Tryz.func118, Tryz.ntmps118
  go_wp2_with fail
  refine (itoa_any no h0 h1 _ Hg.out).mono ?_
  rintro e w1 ⟨rfl, hk⟩
  go_wp2_with fail
  refine (fault_New _ _ _ _ h).mono ?_
  rintro e w2 ⟨v, rfl, hv, hk2⟩
  go_wp2_with fail
  go_ret
  exact ⟨v, rfl, hv, hk.trans hk2 (Gr.refl _ _)⟩

theorem not_in {l : List Nat} {n : Nat} (h : n ∉ l) : ∀ k ∈ l, (k : Int) ≠ (n : Int) := fun k hk e => h (by
  have : k = n := by omega
  rw [← this]; exact hk)
theorem zero_bytes (w : World) : (zeroValue 52).run Tryz.prog w = .ok (.slice none 0 0) w := by kernel_rfl

theorem cache_Read_ok {w : World} {bc bj bm bd : Nat} {C : CSt} {F : Nat → Prop} (h : CRep w bc bj bm bd C F) (hd : C.D.dead = false) (no : Int) (h0 : 0 ≤ no) (h1 : no < C.blocks) :
    Calls Tryz.prog 96 #[.pointer (some ⟨bc, 0, none⟩), .int .i64 no] w fun e w' => ∃ g, e = .returned (.tuple #[.slice (some ⟨g, 0, none⟩) 128 128, .nilIface]) ∧
      Row w' g (C.view no.toNat) ∧ Kp (fun _ => False) w w' ∧ w.heap.size ≤ g := by
  obtain ⟨n, rfl⟩ := Int.eq_ofNat_of_zero_le h0
  have hC := cell_blk h.cblk 0
  have hM := cell_blk h.cblk 2
  simp at hC hM
  obtain ⟨es, cl, hm1, hm2, hm3⟩ := h.mblk
  have hfew := h.few
  have hfw := h.disk.few
  by_cases hin : n ∈ C.ch
  · obtain ⟨j, hj⟩ := List.mem_iff_getElem?.1 hin
    obtain ⟨e, he, hr⟩ := hm3 j n hj
    obtain ⟨hsl, _, hlen⟩ := hr.sl
    obtain ⟨g0, c0, hev, hc1, hc2, _⟩ := hr
    have hlk := run_lookup_yes (w := w) (E := 52) Tryz.underlying127 hm1 hm2 h.nd hj he
    rw [hev] at hlk hsl
    have hview : C.view n = C.cont n := by simp [CSt.view, hin]
    have Hv := Lib.hid hview
    have Hs := Lib.hid hsl
    have Hl := Lib.hid hlen
    have HL := Lib.hid hlk
    have H := Lib.hid h
    clear hview hsl hlen hlk h hm1 hm2 hm3 hj he hev hd
    go_enter Tryz.func96, Tryz.ntmps96
    go_wp2_with (first | (go_at_call 128; refine (cache_there H.out _ h0 h1).mono ?_; rintro e w1 ⟨rfl, rfl⟩) | (at_lookup; refine wpList_lookup_run rfl _ _ _ _ rfl _ _ _ rfl rfl HL.out ?_) | (go_at_call 59; refine (clone_n _ _ _ _ Hs.out Hl.out (by omega) (by omega)).mono ?_; rintro e w1 ⟨g, c1, rfl, hc3, hc4, hrow, hg1, hkc⟩) | (go_at_call 58; refine (clip_any _ _ _ _ (by omega) hc4).mono ?_; rintro e w2 ⟨rfl, rfl⟩))
    go_ret2
    exact ⟨g, rfl, by rw [Int.toNat_natCast, Hv.out]; exact hrow, hkc, hg1⟩
  · have hlk := run_lookup_no (w := w) (E := 52) Tryz.underlying127 (zero_bytes w) hm1 hm2 (n : Int) (not_in hin)
    have hview : C.view n = C.D.row n := by simp [CSt.view, hin]
    have HR := Lib.hid (journal_Read_ok h.jblk h.disk n h0 (by omega) hd)
    have Hv := Lib.hid hview
    have HL := Lib.hid hlk
    have H := Lib.hid h
    have Hg := Lib.hid h.disk.gl
    clear hview hlk h hm1 hm2 hm3 hd hin
    go_enter Tryz.func96, Tryz.ntmps96
    go_wp2_with (first | (go_at_call 128; refine (cache_there H.out _ h0 h1).mono ?_; rintro e w1 ⟨rfl, rfl⟩) | (at_lookup; refine wpList_lookup_run rfl _ _ _ _ rfl _ _ _ rfl rfl HL.out ?_) | (go_at_call 130; refine (HR.out).mono ?_; rintro e w1 ⟨rfl, hr, hk⟩) | (go_at_call 131; refine (cache_told _ _ none _ (Hg.out.kp hk Hi.none) (by omega) (by omega) rfl).mono ?_; rintro e w2 ⟨v', rfl, hv', hk2⟩; obtain rfl : v' = .nilIface := hv'))
    go_ret2
    exact ⟨w.heap.size, rfl, by rw [Int.toNat_natCast] at hr ⊢; rw [Hv.out]; exact (hr.kp hk2 (fun h => h)).row, hk.trans hk2 (Gr.refl _ _), Nat.le_refl _⟩
end Go.Proofs.YthjbpbahcemfgaaGreatDoor
