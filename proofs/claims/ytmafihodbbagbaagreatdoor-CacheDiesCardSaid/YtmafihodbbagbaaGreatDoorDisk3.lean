/- The disk: Power, Fuse. -/
import Derived.Test.YtmafihodbbagbaaGreatDoorDead
namespace Go.Proofs.YtmafihodbbagbaaGreatDoor
open Go.RowKit
set_option maxHeartbeats 1000000
set_option maxRecDepth 20000

/-- The head of the disk was turned, its rows were not. -/
theorem DRep.head {w W : World} {bd : Nat} {D : DSt} {F : Nat → Prop} (h : DRep w bd D F) (k : Kp (fun i => i = bd) w W) (D' : DSt) (hn : D'.n = D.n) (hr : D'.row = D.row) (hb : ∀ bl, w.cell? ⟨bd, 0, none⟩ = some (.slice (some ⟨bl, 0, none⟩) D.n D.n) → W.heap[bd]? = some (.cells #[.slice (some ⟨bl, 0, none⟩) D'.n D'.n, .int .i64 D'.writes, .int .i64 D'.fuse, .bool D'.dead] 87 (0, 0))) : DRep W bd D' F ∧ Kp F w W := by
  obtain ⟨⟨bl, rows, h1, h2, h3, h4, h5⟩, ho, hl, hf, hg, hh, hc⟩ := h
  have hbd := hb bl (by rw [cell_blk h1]; rfl)
  have hkF : Kp F w W := k.mono (fun i e => (show i = bd from e) ▸ ho)
  have hne : bl ≠ bd := fun e => by rw [e, h1] at h2; simp at h2
  refine ⟨⟨⟨bl, rows, hbd, k.blk h2 hne, by rw [hn]; exact h3, h4, fun i hi => ?_⟩, ho, fun i hi => k.lt (hl i hi), by rw [hn]; exact hf, hg.kp hkF hh, hh, fun i hi cs fr hx => ?_⟩, hkF⟩
  · obtain ⟨v, hv, hrv⟩ := h5 i (by omega)
    refine ⟨v, hv, ?_⟩
    rw [hr]
    rcases hrv with hz | ⟨g', c', e1, e2, e3, e4, e5, e6⟩
    · exact .inl hz
    · refine .inr ⟨g', c', e1, e2, e3.kp k ?_, e4, e5, e6⟩
      rintro rfl
      obtain ⟨cs, _, hb, _⟩ := e3
      rw [h1] at hb; simp at hb
  · by_cases e : i = bd
    · subst e; rw [hbd] at hx; simp at hx
    · rw [k.block i (hl i hi) e] at hx
      exact hc i hi cs fr hx
/-- The disk behind a Power. -/
def DSt.power (D : DSt) : DSt := { D with fuse := -1, dead := false }
/-- .. behind a Fuse. -/
def DSt.fused (D : DSt) (n : Int) : DSt := { D with fuse := max n (-1), dead := D.dead || n == 0 }
theorem disk_Power {w : World} {bd : Nat} {D : DSt} {F : Nat → Prop} (h : DRep w bd D F) :
    Calls Tryz.prog 18 #[.pointer (some ⟨bd, 0, none⟩)] w fun e w' => e = .returned (.tuple #[]) ∧ DRep w' bd D.power F ∧ Kp F w w' := by
  have hx := h.ex
  obtain ⟨bl, rows, h1, _⟩ := hx
  have c2 := cell_blk h1 2
  have c3 := cell_blk h1 3
  have f2 := frozen_blk h1 2
  have f3 := frozen_blk h1 3
  simp at c2 c3
  have H := Lib.hid h
  have H1 := Lib.hid h1
  clear h h1
  go_enter Tryz.func18, Tryz.ntmps18
  go_wp2
  go_end0
  refine ⟨rfl, H.out.head (Kp.setCell (F := fun k => k = bd) (p := ⟨bd, 2, none⟩) (Kp.setCell (F := fun k => k = bd) (p := ⟨bd, 3, none⟩) (Kp.refl _ _) (.inl rfl) _) (.inl rfl) _) D.power rfl rfl (fun bl' hbl' => ?_)⟩
  rw [cell_blk H1.out] at hbl'
  simp at hbl'
  subst hbl'
  rw [set_blk (set_blk H1.out 3 _) 2 _]
  simp [DSt.power]
theorem disk_Fuse {w : World} {bd : Nat} {D : DSt} {F : Nat → Prop} (h : DRep w bd D F) (n : Int) (h0 : 0 ≤ n) :
    Calls Tryz.prog 17 #[.pointer (some ⟨bd, 0, none⟩), .int .i64 n] w fun e w' => e = .returned (.tuple #[]) ∧ DRep w' bd (D.fused n) F ∧ Kp F w w' := by
  have hx := h.ex
  obtain ⟨bl, rows, h1, _⟩ := hx
  have c2 := cell_blk h1 2
  have c3 := cell_blk h1 3
  have f2 := frozen_blk h1 2
  have f3 := frozen_blk h1 3
  simp at c2 c3
  have hmax : max n (-1) = n := by omega
  have H := Lib.hid h
  have H1 := Lib.hid h1
  clear h h1
  go_enter Tryz.func17, Tryz.ntmps17
  go_wp2
  all_goals (
    go_end0
    refine ⟨rfl, H.out.head (Kp.setCell (F := fun k => k = bd) (p := ⟨bd, 3, none⟩) (Kp.setCell (F := fun k => k = bd) (p := ⟨bd, 2, none⟩) (Kp.refl _ _) (.inl rfl) _) (.inl rfl) _) (D.fused n) rfl rfl (fun bl' hbl' => ?_)⟩
    rw [cell_blk H1.out] at hbl'
    simp at hbl'
    subst hbl'
    rw [set_blk (set_blk H1.out 2 _) 3 _]
    simp [DSt.fused, *])
end Go.Proofs.YtmafihodbbagbaaGreatDoor
