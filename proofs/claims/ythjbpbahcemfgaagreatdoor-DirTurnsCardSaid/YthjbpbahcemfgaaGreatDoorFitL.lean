/- The blocks of an inode are given back and taken: plain laws. -/
import Derived.Test.YthjbpbahcemfgaaGreatDoorInoD
namespace Go.Proofs.YthjbpbahcemfgaaGreatDoor
open Go.RowKit
set_option maxHeartbeats 1000000
set_option maxRecDepth 20000
variable {C Cc C' : CSt} {mat lo nbl : Nat} {x xc xc' : Nd}

/-- How many blocks a file of this size has. -/
def bks (n : Nat) : Nat := dat n + if 1024 < n then 1 else 0
theorem bks_of {lo nbl : Nat} {x : Nd} (h : NdOk lo nbl x) : x.blks.length = bks x.size := by
  have h1 := h.len
  have h2 := h.more
  rw [Nd.blks_len, h1]
  unfold bks
  by_cases hm : x.more = 0
  · have := h2.1 hm
    rw [if_pos hm, if_neg (by unfold dat at h1; omega)]
  · have : ¬ x.l.length ≤ 8 := fun h => hm (h2.2 h)
    rw [if_neg hm, if_pos (by unfold dat at h1; omega)]
theorem fit_start (h : ∀ b ∈ x.blks, lo ≤ b ∧ b < lo + nbl) (hb : ∀ b ∈ x.blks, bitC C mat (b - lo) = true) (hn : x.blks.Nodup) : Fit C C mat lo nbl x x := by
  refine ⟨fun j hj => ?_, h, hn, fun b hb => .inl hb⟩
  constructor
  · intro hj
    by_cases hm : lo + j ∈ x.blks
    · exact .inr hm
    · exact .inl ⟨hj, hm⟩
  · rintro (h1 | h1)
    · exact h1.1
    · have := hb _ h1
      rwa [show lo + j - lo = j by omega] at this
theorem Fit.mem (h : Fit C Cc mat lo nbl x xc) {b : Nat} (hb : b ∈ xc.blks) : bitC Cc mat (b - lo) = true := by
  have hr := h.rng b hb
  exact (h.bit (b - lo) (by omega)).2 (.inr (by rw [show lo + (b - lo) = b by omega]; exact hb))
theorem Fit.rem {b : Nat} (h : Fit C Cc mat lo nbl x xc) (hp : ∀ a, a ∈ xc.blks ↔ a ∈ xc'.blks ∨ a = b) (hb : b ∉ xc'.blks) (hn : xc'.blks.Nodup) (hbit : ∀ j, j < nbl → bitC C' mat j = if lo + j = b then false else bitC Cc mat j)
    (hbx : b ∈ x.blks) : Fit C C' mat lo nbl x xc' := by
  refine ⟨fun j hj => ?_, fun a ha => h.rng a ((hp a).2 (.inl ha)), hn, fun a ha => h.new a ((hp a).2 (.inl ha))⟩
  rw [hbit j hj]
  by_cases e : lo + j = b
  · rw [if_pos e]
    subst e
    constructor
    · intro h0; cases h0
    · rintro (h1 | h1)
      · exact absurd hbx h1.2
      · exact absurd h1 hb
  · rw [if_neg e, h.bit j hj, hp]
    constructor
    · rintro (h1 | h1 | h1)
      · exact .inl h1
      · exact .inr h1
      · exact absurd h1 e
    · rintro (h1 | h1)
      · exact .inl h1
      · exact .inr (.inl h1)
theorem Fit.add {b : Nat} (h : Fit C Cc mat lo nbl x xc) (hp : ∀ a, a ∈ xc'.blks ↔ a ∈ xc.blks ∨ a = b) (hn : xc'.blks.Nodup) (hr : lo ≤ b ∧ b < lo + nbl) (hfree : bitC Cc mat (b - lo) = false) (hbit : ∀ j, j < nbl → bitC C' mat j = if lo + j = b then true else bitC Cc mat j) : Fit C C' mat lo nbl x xc' := by
  refine ⟨fun j hj => ?_, fun a ha => ?_, hn, fun a ha => ?_⟩
  · rw [hbit j hj]
    by_cases e : lo + j = b
    · rw [if_pos e]
      simp only [true_iff]
      exact .inr ((hp _).2 (.inr e))
    · rw [if_neg e, h.bit j hj, hp]
      constructor
      · rintro (h1 | h1)
        · exact .inl h1
        · exact .inr (.inl h1)
      · rintro (h1 | h1 | h1)
        · exact .inl h1
        · exact .inr h1
        · exact absurd h1 e
  · rcases (hp a).1 ha with h1 | rfl
    · exact h.rng a h1
    · exact hr
  · rcases (hp a).1 ha with h1 | rfl
    · exact h.new a h1
    · by_cases hx : a ∈ x.blks
      · exact .inl hx
      · right
        have hnt : ¬ bitC Cc mat (a - lo) = true := by rw [hfree]; simp
        rw [h.bit (a - lo) (by omega)] at hnt
        cases hc : bitC C mat (a - lo)
        · rfl
        · exact absurd (.inl ⟨hc, by rw [show lo + (a - lo) = a by omega]; exact hx⟩) hnt
theorem Fit.fresh (h : Fit C Cc mat lo nbl x xc) {i : Nat} (_hi : i < nbl) (hfree : bitC Cc mat i = false) : lo + i ∉ xc.blks := fun hm => by
  have := h.mem hm
  rw [show lo + i - lo = i by omega, hfree] at this
  cases this

/-! The four ways that an inode's blocks turn. -/
def Nd.pop (x : Nd) (k : Nat) : Nd := { x with l := x.l.take k }
def Nd.noMore (x : Nd) : Nd := { x with more := 0 }
def Nd.push (x : Nd) (b : Nat) : Nd := { x with l := x.l ++ [b] }
def Nd.withMore (x : Nd) (b : Nat) : Nd := { x with more := b }
theorem pop_mem {k b : Nat} (hk : x.l.length = k + 1) (hb : x.l[k]? = some b) (hn : x.blks.Nodup) : (∀ a, a ∈ x.blks ↔ a ∈ (x.pop k).blks ∨ a = b) ∧ b ∉ (x.pop k).blks ∧ (x.pop k).blks.Nodup ∧ x.blks.length = (x.pop k).blks.length + 1 := by
  have hl : x.l = x.l.take k ++ [b] := by
    have h1 : x.l.take (k + 1) = x.l.take k ++ [b] := by rw [List.take_add_one, hb]; rfl
    rwa [List.take_of_length_le (by omega)] at h1
  have e : x.blks = x.l.take k ++ ([b] ++ if x.more = 0 then [] else [x.more]) := by
    show x.l ++ _ = _
    rw [← List.append_assoc, ← hl]
  have e2 : (x.pop k).blks = x.l.take k ++ if x.more = 0 then [] else [x.more] := rfl
  rw [e] at hn ⊢
  rw [e2]
  generalize (if x.more = 0 then [] else [x.more]) = M at *
  generalize x.l.take k = L at *
  have hn' : (L ++ M).Nodup ∧ b ∉ L ++ M := by
    have hp : (L ++ ([b] ++ M)).Perm (b :: (L ++ M)) := by
      rw [show b :: (L ++ M) = [b] ++ (L ++ M) from rfl]
      exact (List.perm_append_comm_assoc L [b] M)
    have := hp.nodup_iff.1 hn
    rw [List.nodup_cons] at this
    exact ⟨this.2, this.1⟩
  refine ⟨fun a => ?_, hn'.2, hn'.1, by simp; omega⟩
  simp only [List.mem_append, List.mem_singleton]
  constructor
  · rintro (h | h | h)
    · exact .inl (.inl h)
    · exact .inr h
    · exact .inl (.inr h)
  · rintro ((h | h) | h)
    · exact .inl h
    · exact .inr (.inr h)
    · exact .inr (.inl h)
theorem noMore_mem (hm : x.more ≠ 0) (hn : x.blks.Nodup) : (∀ a, a ∈ x.blks ↔ a ∈ x.noMore.blks ∨ a = x.more) ∧ x.more ∉ x.noMore.blks ∧ x.noMore.blks.Nodup ∧ x.blks.length = x.noMore.blks.length + 1 := by
  have e : x.blks = x.l ++ [x.more] := by unfold Nd.blks; rw [if_neg hm]
  have e2 : x.noMore.blks = x.l := by unfold Nd.blks Nd.noMore; simp
  rw [e] at hn ⊢
  rw [e2]
  rw [List.nodup_append] at hn
  refine ⟨fun a => by simp, fun h => hn.2.2 _ h _ (List.mem_singleton_self _) rfl, hn.1, by simp⟩
theorem push_mem {b : Nat} (hb : b ∉ x.blks) (hn : x.blks.Nodup) : (∀ a, a ∈ (x.push b).blks ↔ a ∈ x.blks ∨ a = b) ∧ (x.push b).blks.Nodup ∧ (x.push b).blks.length = x.blks.length + 1 := by
  have e : x.blks = x.l ++ if x.more = 0 then [] else [x.more] := rfl
  have e2 : (x.push b).blks = (x.l ++ [b]) ++ if x.more = 0 then [] else [x.more] := rfl
  rw [e] at hb hn ⊢
  rw [e2]
  generalize (if x.more = 0 then [] else [x.more]) = M at *
  generalize x.l = L at *
  have hp : ((L ++ [b]) ++ M).Perm (b :: (L ++ M)) := by
    rw [List.append_assoc]
    exact (List.perm_append_comm_assoc L [b] M)
  refine ⟨fun a => ?_, hp.nodup_iff.2 (List.nodup_cons.2 ⟨hb, hn⟩), by rw [hp.length_eq]; rfl⟩
  rw [hp.mem_iff, List.mem_cons]
  exact Or.comm
theorem withMore_mem {b : Nat} (hb : b ∉ x.blks) (hb0 : b ≠ 0) (hm : x.more = 0) (hn : x.blks.Nodup) : (∀ a, a ∈ (x.withMore b).blks ↔ a ∈ x.blks ∨ a = b) ∧ (x.withMore b).blks.Nodup ∧ (x.withMore b).blks.length = x.blks.length + 1 := by
  have e : x.blks = x.l := by unfold Nd.blks; rw [if_pos hm]; simp
  have e2 : (x.withMore b).blks = x.l ++ [b] := by
    unfold Nd.blks Nd.withMore
    simp [hb0]
  rw [e] at hb hn ⊢
  rw [e2]
  refine ⟨fun a => by simp, ?_, by simp⟩
  rw [List.nodup_append]
  refine ⟨hn, by simp, ?_⟩
  rintro a ha c hc rfl
  simp at hc
  exact hb (hc ▸ ha)
theorem frees_give {S S' : Nat → Bool} {n i : Nat} (hi : i < n) (h : S i = true) (h1 : S' i = false) (h2 : ∀ j, j < n → j ≠ i → S' j = S j) : frees S' n = frees S n + 1 :=
  (frees_upd (S := S') (S' := S) hi h1 h (fun j hj hne => (h2 j hj hne).symm)).symm
end Go.Proofs.YthjbpbahcemfgaaGreatDoor
