/- A new cache. -/
import Derived.Test.YtmafihodbbagbaaGreatDoorCacheR
namespace Go.Proofs.YtmafihodbbagbaaGreatDoor
open Go.RowKit
set_option maxHeartbeats 1000000
set_option maxRecDepth 20000

/-- A cache in which nothing was changed. -/
def CSt.new (D : DSt) (at_ most blocks : Nat) : CSt := { D := D, jat := at_, most := most, blocks := blocks, ch := [], cont := fun _ => [] }

theorem cache_New_ok {w : World} {bd bj at_ most : Nat} {D : DSt} {F : Nat → Prop} (h : DRep w bd D F) (hj : JBlk w bj bd at_ most) (hbj : NG ≤ bj) (n : Int) (h0 : 1 ≤ n) (h1 : n ≤ D.n) (hm : most ≤ 200) :
    Calls Tryz.prog 22 #[.pointer (some ⟨bj, 0, none⟩), .int .i64 n] w fun e w' => ∃ bc bm F', e = .returned (.tuple #[.pointer (some ⟨bc, 0, none⟩), .nilIface]) ∧ CRep w' bc bj bm bd (CSt.new D at_ most n.toNat) F' ∧ Kp (fun _ => False) w w' ∧ (∀ k, F' k → F k ∨ k = bj ∨ w.heap.size ≤ k) := by
  obtain ⟨m, rfl⟩ := Int.eq_ofNat_of_zero_le (show 0 ≤ n by omega)
  have H := Lib.hid h
  have Hj := Lib.hid hj
  have Hb := Lib.hid hbj
  have hmm := @run_makeMap Tryz.prog
  clear h hj hbj
  go_enter Tryz.func22, Tryz.ntmps22
  go_wp2
  go_ret2
  obtain ⟨X, hX⟩ : ∃ X, X = Obj.cells #[.pointer (some ⟨bj, 0, none⟩), .int .i64 (m : Int), .map (some w.heap.size)] 68 := ⟨_, rfl⟩
  obtain ⟨M, hM⟩ : ∃ M, M = Obj.map #[] 0 := ⟨_, rfl⟩
  refine ⟨w.heap.size + 1, w.heap.size, fun k => F k ∨ k = bj ∨ k = w.heap.size ∨ k = w.heap.size + 1, rfl, ?_⟩
  show CRep ((w.alloc (Obj.map #[] 0)).alloc (Obj.cells #[.pointer (some ⟨bj, 0, none⟩), .int .i64 (m : Int), .map (some w.heap.size)] 68)) _ _ _ _ _ _ ∧ Kp _ _ ((w.alloc (Obj.map #[] 0)).alloc (Obj.cells #[.pointer (some ⟨bj, 0, none⟩), .int .i64 (m : Int), .map (some w.heap.size)] 68)) ∧ _
  rw [← hX, ← hM]
  have kp : Kp (fun _ => False) w ((w.alloc M).alloc X) := ((Kp.refl _ _).alloc _).alloc _
  have e1 := new_blk w M
  have e2 := new_blk (w.alloc M) X
  have s1 := size_alloc w M
  have s2 := size_alloc (w.alloc M) X
  rw [s1] at e2 s2
  have e3 := (Kp.alloc (F := fun _ => False) (Kp.refl _ (w.alloc M)) X).blk e1 (fun h => h)
  have hjl := lt_blk Hj.out
  have hd := H.out.kp0 kp
  obtain ⟨⟨bl, rows, a1, a2, a3, a4, a5⟩, ho, hl, hf, hg, hh, hc⟩ := hd
  have hw := H.out.lt
  refine ⟨⟨by rw [e2, hX]; rfl, kp.blk Hj.out (fun h => h), ⟨#[], 0, by rw [e3, hM], Keys.nil, fun i no hi => by simp [CSt.new] at hi⟩, ⟨.inr (.inr (.inr rfl)), .inr (.inl rfl), .inr (.inr (.inl rfl))⟩, ⟨⟨bl, rows, a1, a2, a3, .inl a4, fun i hi => ?_⟩, .inl ho, ?_, hf, hg, ?_, ?_⟩, by simp [CSt.new], by simp [CSt.new], by simp [CSt.new]; omega, ⟨#[], 0, by rw [e3, hM], St.nil _⟩⟩, kp, ?_⟩
  · obtain ⟨v, hv, hr⟩ := a5 i hi
    refine ⟨v, hv, ?_⟩
    rcases hr with hz | ⟨g', c', e1, e2, e3, e4, e5, e6⟩
    · exact .inl hz
    · exact .inr ⟨g', c', e1, e2, e3, .inl e4, e5, e6⟩
  · rintro k (hk | rfl | rfl | rfl)
    · exact hl k hk
    all_goals omega
  · have := Hb.out
    have := hh _ ho
    rintro k (hk | rfl | rfl | rfl)
    · exact hh k hk
    all_goals omega
  · rintro k (hk | rfl | rfl | rfl) cs fr hcs
    · exact hc k hk cs fr hcs
    · rw [kp.blk Hj.out (fun h => h)] at hcs; simp at hcs
    · rw [e3, hM] at hcs; cases hcs
    · rw [e2, hX] at hcs; simp at hcs
  · rintro k (hk | rfl | rfl | rfl)
    · exact .inl hk
    · exact .inr (.inl rfl)
    · exact .inr (.inr (by omega))
    · exact .inr (.inr (by omega))

theorem Kp.over {F : Nat → Prop} {w w1 w2 : World} (h : Kp (fun _ => False) w w1) (k : Kp F w1 w2) (hf : ∀ i, F i → w.heap.size ≤ i) : Kp (fun _ => False) w w2 :=
  ⟨k.os.trans h.os, k.tape.trans h.tape, k.output.trans h.output, Nat.le_trans h.size k.size, fun i hi _ => (k.block i (Nat.lt_of_lt_of_le hi h.size) (fun hF => by have := hf i hF; omega)).trans (h.block i hi (fun h => h))⟩
theorem Gr.over {F F' : Nat → Prop} {n m : Nat} (h : Gr F F' n) (hf : ∀ i, F i → m ≤ i) (hm : m ≤ n) : ∀ i, F' i → m ≤ i := fun i hi => by
  rcases h i hi with h1 | h1
  · exact hf i h1
  · omega
theorem new_view {n at_ most blocks : Nat} (k : Nat) : (CSt.new (DSt.new n) at_ most blocks).view k = zs 128 := rfl
theorem nodup_le (m : Nat) : ∀ (l : List Nat), l.Nodup → (∀ x ∈ l, x < m) → l.length ≤ m := by
  induction m with
  | zero =>
    intro l _ h
    cases l with
    | nil => simp
    | cons a l => exact absurd (h a List.mem_cons_self) (by omega)
  | succ m ih =>
    intro l hn h
    have h1 := ih (l.erase m) (hn.erase m) (fun x hx => by
      have h2 := (hn.mem_erase_iff).1 hx
      have := h x h2.2
      have := h2.1
      omega)
    rw [List.length_erase] at h1
    split at h1 <;> omega
theorem room_of {C : CSt} {w : World} {bc bj bm bd : Nat} {F : Nat → Prop} (h : CRep w bc bj bm bd C F) {m : Nat} (hm : ∀ x ∈ C.ch, x < m) (hlt : m < C.most) : C.ch.length < C.most := by
  have := nodup_le m _ h.nd hm
  omega
end Go.Proofs.YtmafihodbbagbaaGreatDoor
