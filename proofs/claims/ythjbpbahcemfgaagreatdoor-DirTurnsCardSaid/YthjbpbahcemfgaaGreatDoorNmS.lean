/- Names with a number behind a letter. -/
import Derived.Test.YthjbpbahcemfgaaGreatDoorDirT
import Derived.Test.YthjbpbahcemfgaaGreatDoorNum
namespace Go.Proofs.YthjbpbahcemfgaaGreatDoor
open Go.RowKit
set_option maxHeartbeats 4000000
set_option maxRecDepth 100000

/-- The bytes of a text. -/
def ofTx (l : List UInt8) : List Int := l.map fun b => (b.toNat : Int)
theorem ofTx_byt (l : List UInt8) : Byt (ofTx l) := by
  intro c hc
  obtain ⟨b, _, rfl⟩ := List.mem_map.1 hc
  have := b.toNat_lt
  omega
theorem str_ofTx (l : List UInt8) : str (ofTx l) = tx l := by
  refine ba_ext ?_
  rw [str_list]
  unfold ofTx tx
  rw [List.map_map]
  refine (List.map_congr_left (g := id) fun b _ => ?_).trans (List.map_id _)
  show UInt8.ofNat ((b.toNat : Int)).toNat = b
  simp
/-- A letter, then a number. -/
def nmS (c : UInt8) (i : Nat) : List Int := ofTx (c :: Lib.itoa (i : Int))
theorem str_nmS (c : UInt8) (i : Nat) : str (nmS c i) = tx (c :: Lib.itoa (i : Int)) := str_ofTx _
def nmB (s : List Int) : Bool := decide (1 ≤ s.length) && decide (s.length ≤ 27) && decide (s ≠ [46]) && decide (s ≠ [46, 46]) && s.all signB
theorem nmB_ok {s : List Int} (h : nmB s = true) : NmOk s := by
  unfold nmB at h
  simp only [Bool.and_eq_true, decide_eq_true_eq, List.all_eq_true] at h
  obtain ⟨⟨⟨⟨a, b⟩, c⟩, d⟩, e⟩ := h
  exact ⟨a, b, c, d, e⟩
def decS (s : List Int) : Int := (s.drop 1).foldl (fun a c => 10 * a + (c - 48)) 0
theorem nmS_all : ∀ i : Fin 128, nmB (nmS 102 i.1) = true ∧ nmB (nmS 110 i.1) = true ∧ decS (nmS 102 i.1) = (i.1 : Int) ∧ decS (nmS 110 i.1) = (i.1 : Int) := by decide +kernel
theorem nmS_ok {c : UInt8} (hc : c = 102 ∨ c = 110) {i : Nat} (hi : i < 128) : NmOk (nmS c i) := by
  have := nmS_all ⟨i, hi⟩
  rcases hc with rfl | rfl
  · exact nmB_ok this.1
  · exact nmB_ok this.2.1
theorem nmS_inj {c : UInt8} (hc : c = 102 ∨ c = 110) {i j : Nat} (hi : i < 128) (hj : j < 128) (h : nmS c i = nmS c j) : i = j := by
  have h1 := nmS_all ⟨i, hi⟩
  have h2 := nmS_all ⟨j, hj⟩
  rcases hc with rfl | rfl
  · have := h1.2.2.1
    rw [h, h2.2.2.1] at this
    simp at this; omega
  · have := h1.2.2.2
    rw [h, h2.2.2.2] at this
    simp at this; omega
theorem nmS_head (c : UInt8) (i : Nat) (s : List Int) (x : Int) (hx : x ≠ (c.toNat : Int)) : nmS c i ≠ x :: s := by
  intro h
  unfold nmS ofTx at h
  simp only [List.map_cons, List.cons.injEq] at h
  exact hx h.1.symm
theorem tx_num {i : Nat} (hi : i < 128) : (tx (Lib.itoa (i : Int))).size ≤ 26 := by
  have h := (nmS_ok (c := 102) (.inl rfl) hi).hi
  unfold nmS ofTx at h
  rw [tx_size]
  simp at h; omega
/-- k records with names of one letter and a number. -/
def recsS (c : UInt8) (f : Nat → Nat) (k : Nat) : List Rc := (List.range k).map fun i => ⟨nmS c i, f i⟩
theorem recsS_len (c : UInt8) (f : Nat → Nat) (k : Nat) : (recsS c f k).length = k := by unfold recsS; simp
theorem recsS_get {c : UInt8} {f : Nat → Nat} {k i : Nat} (hi : i < k) : (recsS c f k)[i]? = some ⟨nmS c i, f i⟩ := by
  unfold recsS
  rw [List.getElem?_map, List.getElem?_range hi]; rfl
theorem recsS_succ (c : UInt8) (f : Nat → Nat) (k : Nat) : recsS c f (k + 1) = recsS c f k ++ [⟨nmS c k, f k⟩] := by
  unfold recsS
  rw [List.range_succ, List.map_append]; rfl
theorem recsS_mem {c : UInt8} {f : Nat → Nat} {k : Nat} {y : Rc} (h : y ∈ recsS c f k) : ∃ i, i < k ∧ y = ⟨nmS c i, f i⟩ := by
  unfold recsS at h
  obtain ⟨i, hi, rfl⟩ := List.mem_map.1 h
  exact ⟨i, List.mem_range.1 hi, rfl⟩
theorem recsS_new {c : UInt8} (hc : c = 102 ∨ c = 110) {f : Nat → Nat} {k : Nat} (hk : k < 128) : ∀ y ∈ recsS c f k, y.s ≠ nmS c k := by
  intro y hy e
  obtain ⟨i, hi, rfl⟩ := recsS_mem hy
  have := nmS_inj hc (by omega) hk e
  omega
/-- The document's numbers behind a letter. -/
theorem cat_num (c : UInt8) (n : Nat) : (({ data := #[c] } : ByteArray) ++ tx (Lib.itoa (n : Int))) = str (nmS c n) := by
  rw [str_nmS]
  have : ({ data := #[c] } : ByteArray) = tx [c] := rfl
  rw [this, tx_app]; rfl
end Go.Proofs.YthjbpbahcemfgaaGreatDoor
