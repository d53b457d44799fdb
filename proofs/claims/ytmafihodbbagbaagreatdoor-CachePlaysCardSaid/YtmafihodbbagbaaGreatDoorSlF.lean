/- A slice of structs whose fields are one cell each, opened: what a walk that only reads it wants. -/
import Derived.Deep.Fields
import Derived.Deep.Slices
namespace Go.Proofs.YtmafihodbbagbaaGreatDoor
open Go.Deep Go.ChangeShapes Go.WideShapes

theorem open_slice_fields {H : Type} {enc : TypeId × Value → H} {P : Program} {w : World} {base : Nat} {spare : Nat → Bool} {held : Bool} {t e : TypeId} {fs : Array Field} {fuel : Nat} {cs : List Value} {x : DataW H × List MemPlace}
    (ht : P.underlying t = some (.slice e)) (he : P.underlying e = some (.struct fs)) (hone : oneCellFields P fs = true) (ce : P.cellsOf e = fs.size) (h : DataW.trod enc P w base spare held fuel t cs = some x) :
    cs = [.slice none 0 0] ∨ ∃ (a : Addr) (len cap : Nat), cs = [.slice (some a) len cap] ∧ len ≤ cap ∧ cap ≤ maxLen ∧
      ∀ j, j < len → ∀ (i : Nat) (f : Field), fs[i]? = some f → ∃ v n y, w.cell? ((a.add (j * fs.size)).add i) = some v ∧ DataW.trod enc P w base spare held n f.type [v] = some y := by
  rcases open_slice ht h with h0 | ⟨a, len, cap, m, n, D, Pl, rfl, hb, hl, hm, hmm, rfl, hx⟩
  · exact Or.inl h0.1
  right
  have hlm : len ≤ m := by rw [hmm]; split <;> omega
  refine ⟨a, len, cap, rfl, hl, hm, fun j hj i f hi => ?_⟩
  obtain ⟨cs', h1, h2⟩ := hx j (by omega)
  rw [ce] at h1
  obtain ⟨_, hlen, hcell⟩ := World.cells?_some h1
  obtain ⟨xs, k, hk, hxy, _, hxl, hf⟩ := DataW.trod_struct he h2
  have hlt : i < fs.size := (Array.getElem?_eq_some_iff.1 hi).1
  obtain ⟨ho, hc1⟩ := hone_of hone i f hi
  have g := hf i f hi
  rw [ho, hc1, take1_drop cs' i undef (by omega), List.getElem?_eq_getElem (by omega)] at g
  refine ⟨cs'.getD i undef, k, _, ?_, g⟩
  rw [hcell i hlt, List.getElem?_eq_getElem (by omega)]
  simp [List.getD, List.getElem?_eq_getElem (show i < cs'.length by omega)]
end Go.Proofs.YtmafihodbbagbaaGreatDoor
