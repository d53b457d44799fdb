/- What a table of inodes is, in terms of the cache below it: plain laws. -/
import Derived.Test.YthjbpbahcemfgaaGreatDoorNode
import Derived.Test.YthjbpbahcemfgaaGreatDoorMadeC
namespace Go.Proofs.YthjbpbahcemfgaaGreatDoor
open Go.RowKit
set_option maxHeartbeats 1000000
set_option maxRecDepth 20000

/-- C' is C but for blocks of P. -/
structure CS (P : Nat → Prop) (C C' : CSt) : Prop where
  D : C'.D = C.D
  bl : C'.blocks = C.blocks
  mo : C'.most = C.most
  ja : C'.jat = C.jat
  ch : ∀ x, x ∈ C'.ch → x ∈ C.ch ∨ P x
  up : ∀ x, x ∈ C.ch → x ∈ C'.ch
  vw : ∀ no, ¬ P no → C'.view no = C.view no
theorem CS.refl (P : Nat → Prop) (C : CSt) : CS P C C := ⟨rfl, rfl, rfl, rfl, fun _ h => .inl h, fun _ h => h, fun _ _ => rfl⟩
theorem CS.mono {P Q : Nat → Prop} {C C' : CSt} (h : CS P C C') (k : ∀ x, P x → Q x) : CS Q C C' :=
  ⟨h.D, h.bl, h.mo, h.ja, fun x hx => (h.ch x hx).imp id (k x), h.up, fun no hn => h.vw no (fun hp => hn (k no hp))⟩
theorem CS.trans {P : Nat → Prop} {A B C : CSt} (h : CS P A B) (k : CS P B C) : CS P A C :=
  ⟨k.D.trans h.D, k.bl.trans h.bl, k.mo.trans h.mo, k.ja.trans h.ja, fun x hx => (k.ch x hx).elim (fun h1 => h.ch x h1) .inr, fun x hx => k.up x (h.up x hx), fun no hn => (k.vw no hn).trans (h.vw no hn)⟩
theorem CS.wr {P : Nat → Prop} {C : CSt} {no off : Nat} {ys : List Int} (h : P no) : CS P C (C.wr no off ys) := by
  refine ⟨rfl, rfl, rfl, rfl, fun x hx => ?_, fun x hx => ?_, fun k hk => ?_⟩
  · simp only [CSt.wr] at hx
    split at hx
    · exact .inl hx
    · rw [List.mem_append, List.mem_singleton] at hx
      exact hx.imp id (fun e => by rw [e]; exact h)
  · simp only [CSt.wr]
    split
    · exact hx
    · exact List.mem_append_left _ hx
  · rw [view_wr, if_neg (fun e => hk (by rw [e]; exact h))]
theorem view_full {C : CSt} {no : Nat} {ys : List Int} (h : ys.length = 128) (hl : (C.view no).length = 128) (k : Nat) : (C.wr no 0 ys).view k = if k = no then ys else C.view k := by
  rw [view_wr]
  split
  · exact splice_all _ _ (by omega)
  · rfl
theorem wr_vb {C : CSt} {no off : Nat} {ys : List Int} (h : VB C) (hb : Byt ys) (hn : no < C.blocks) : VB (C.wr no off ys) := by
  intro k hk
  rw [view_wr]
  split
  · exact splice_byt (h no hn) hb
  · exact h k hk

/-- There is room for all that a step may change: blocks that were changed, those of W, and up to 33 of the data's. -/
def Rm (ch W : List Nat) (most lo hi : Nat) : Prop := ∀ X : List Nat, X.length ≤ 33 → (∀ b ∈ X, lo ≤ b ∧ b < hi) → ∀ l : List Nat, l.Nodup → (∀ x ∈ l, x ∈ ch ∨ x ∈ W ∨ x ∈ X) → l.length ≤ most
theorem Rm.room {ch ch' W X : List Nat} {most lo hi no : Nat} (h : Rm ch W most lo hi) (h1 : X.length ≤ 33) (h2 : ∀ b ∈ X, lo ≤ b ∧ b < hi) (hn : ch'.Nodup) (hc : ∀ x ∈ ch', x ∈ ch ∨ x ∈ W ∨ x ∈ X) (hno : no ∈ W ∨ no ∈ X) : no ∈ ch' ∨ ch'.length < most := by
  by_cases hin : no ∈ ch'
  · exact .inl hin
  · right
    have := h X h1 h2 (no :: ch') (List.nodup_cons.2 ⟨hin, hn⟩) (fun x hx => by
      rcases List.mem_cons.1 hx with rfl | hx
      · exact .inr hno
      · exact hc x hx)
    rw [List.length_cons] at this; omega
theorem nodup_below {l : List Nat} {m : Nat} (hn : l.Nodup) (h : ∀ x ∈ l, x < m) : l.length ≤ m := nodup_le m l hn h
/-- Where all that may be changed lies below the bound of a group there is always room. -/
theorem Rm.below {ch W : List Nat} {most lo hi : Nat} (h1 : ∀ x ∈ ch, x < most) (h2 : ∀ x ∈ W, x < most) (h3 : hi ≤ most) : Rm ch W most lo hi := by
  intro X _ hX l hn hl
  refine nodup_below hn fun x hx => ?_
  rcases hl x hx with h | h | h
  · exact h1 x h
  · exact h2 x h
  · have := hX x h; omega
theorem Rm.mono {ch ch' W W' : List Nat} {most lo hi : Nat} (h : Rm ch W most lo hi) (h1 : ∀ x ∈ ch', x ∈ ch ∨ x ∈ W) (h2 : ∀ x ∈ W', x ∈ ch ∨ x ∈ W) : Rm ch' W' most lo hi := by
  intro X a b l c d
  refine h X a b l c fun x hx => ?_
  rcases d x hx with h3 | h3 | h3
  · rcases h1 x h3 with h4 | h4
    · exact .inl h4
    · exact .inr (.inl h4)
  · rcases h2 x h3 with h4 | h4
    · exact .inl h4
    · exact .inr (.inl h4)
  · exact .inr (.inr h3)

/-- How many are free. -/
def frees (S : Nat → Bool) : Nat → Nat
  | 0 => 0
  | n + 1 => frees S n + if S n then 0 else 1
theorem frees_congr {S S' : Nat → Bool} {n : Nat} (h : ∀ j, j < n → S j = S' j) : frees S n = frees S' n := by
  induction n with
  | zero => rfl
  | succ n ih => rw [frees, frees, ih (fun j hj => h j (by omega)), h n (by omega)]
theorem frees_upd {S : Nat → Bool} {n i : Nat} (hi : i < n) (h : S i = false) (S' : Nat → Bool) (h1 : S' i = true) (h2 : ∀ j, j < n → j ≠ i → S' j = S j) : frees S' n + 1 = frees S n := by
  induction n with
  | zero => omega
  | succ n ih =>
    by_cases e : i = n
    · subst e
      rw [frees, frees, frees_congr (S := S') (S' := S) (fun j hj => h2 j (by omega) (by omega)), h, h1]; simp
    · have := ih (by omega) (fun j hj hne => h2 j (by omega) hne)
      rw [frees, frees, h2 n (by omega) (by omega)]; omega
theorem frees_pos {S : Nat → Bool} {n : Nat} (h : 0 < frees S n) : ∃ i, i < n ∧ S i = false ∧ ∀ j, j < i → S j = true := by
  induction n with
  | zero => simp [frees] at h
  | succ n ih =>
    by_cases h0 : 0 < frees S n
    · obtain ⟨i, a, b, c⟩ := ih h0
      exact ⟨i, by omega, b, c⟩
    · rw [frees] at h
      have hn : S n = false := by
        cases e : S n
        · rfl
        · rw [e] at h; simp at h; omega
      refine ⟨n, by omega, hn, fun j hj => ?_⟩
      cases e : S j
      · exfalso
        have : ∀ m, j < m → 0 < frees S m := by
          intro m
          induction m with
          | zero => omega
          | succ m ihm =>
            intro hm
            rw [frees]
            by_cases e2 : j = m
            · subst e2; rw [e]; simp
            · have := ihm (by omega); omega
        exact h0 (this n hj)
      · rfl
theorem frees_taken (C : CSt) (mat f n : Nat) : frees (bitC C mat) n + (taken C mat f n).length = n := by
  induction n with
  | zero => rfl
  | succ n ih =>
    rw [frees, taken_succ, List.length_append]
    by_cases h : bitC C mat n = true
    · rw [h]; simp; omega
    · have h' : bitC C mat n = false := by simpa using h
      rw [h']; simp; omega
/-- What is taken is counted by any list of it. -/
theorem frees_list {S : Nat → Bool} {lo n : Nat} {L : List Nat} (hn : L.Nodup) (hr : ∀ b ∈ L, lo ≤ b ∧ b < lo + n) (h : ∀ j, j < n → (S j = true ↔ lo + j ∈ L)) : frees S n + L.length = n := by
  induction n generalizing L with
  | zero =>
    have : L = [] := by
      cases L with
      | nil => rfl
      | cons b L => have := hr b List.mem_cons_self; omega
    subst this; rfl
  | succ n ih =>
    by_cases hm : lo + n ∈ L
    · have h1 := ih (L := L.erase (lo + n)) (hn.erase _) (fun b hb => by
        have hb' := (List.Nodup.mem_erase_iff hn).1 hb
        have := hr b hb'.2
        have := hb'.1
        omega) (fun j hj => by
          rw [h j (by omega), List.Nodup.mem_erase_iff hn]
          constructor
          · intro hx; exact ⟨by omega, hx⟩
          · exact fun hx => hx.2)
      have h2 : L.length = (L.erase (lo + n)).length + 1 := by
        rw [List.length_erase_of_mem hm]
        have := List.length_pos_of_mem hm; omega
      rw [frees, (h n (by omega)).2 hm]; simp; omega
    · have h1 := ih (L := L) hn (fun b hb => by
        have := hr b hb
        have hne : b ≠ lo + n := fun e => hm (e ▸ hb)
        omega) (fun j hj => h j (by omega))
      have h2 : S n = false := by
        cases e : S n
        · rfl
        · exact absurd ((h n (by omega)).1 e) hm
      rw [frees, h2]; simp; omega

/-- An inode that may be. -/
structure NdOk (lo nbl : Nat) (x : Nd) : Prop where
  kind : x.kind ≤ 2
  size : x.size ≤ 4000
  len : x.l.length = dat x.size
  rng : ∀ b ∈ x.blks, lo ≤ b ∧ b < lo + nbl
  more : x.more = 0 ↔ x.l.length ≤ 8
  nd : x.blks.Nodup
  zero : x.kind = 0 → x.size = 0
theorem NdOk.zero' (lo nbl : Nat) : NdOk lo nbl Nd.zero := ⟨by decide, by decide, rfl, (fun b hb => by simp [Nd.blks, Nd.zero] at hb), by simp [Nd.zero], by simp [Nd.blks, Nd.zero], fun _ => rfl⟩
theorem NdOk.len32 {lo nbl : Nat} {x : Nd} (h : NdOk lo nbl x) : x.l.length ≤ 32 := by rw [h.len]; have := h.size; unfold dat; omega
theorem Nd.mem_l {x : Nd} {b : Nat} (h : b ∈ x.l) : b ∈ x.blks := List.mem_append_left _ h
theorem Nd.mem_more {x : Nd} (h : x.more ≠ 0) : x.more ∈ x.blks := by unfold Nd.blks; rw [if_neg h]; simp
theorem Nd.mem_blks {x : Nd} {b : Nat} : b ∈ x.blks ↔ b ∈ x.l ∨ (x.more ≠ 0 ∧ b = x.more) := by
  unfold Nd.blks
  rw [List.mem_append]
  by_cases h : x.more = 0
  · simp [h]
  · simp [h]
theorem Nd.blks_len {x : Nd} : x.blks.length = x.l.length + if x.more = 0 then 0 else 1 := by
  unfold Nd.blks; rw [List.length_append]; split <;> rfl

/-- Where the map, the table and the data lie. -/
structure Geo (at_ n mat lo nbl blocks : Nat) : Prop where
  g1 : mat + nb nbl ≤ at_
  g2 : at_ + n ≤ lo
  g3 : lo + nbl ≤ blocks
  g4 : blocks ≤ 2048
  g5 : 1 ≤ n ∧ n ≤ 200
  g6 : 1 ≤ nbl
theorem Geo.nb1 {at_ n mat lo nbl blocks : Nat} (g : Geo at_ n mat lo nbl blocks) : 1 ≤ nb nbl := by have := g.g6; unfold nb; omega
/-- The map's own blocks. -/
def IsM (mat nbl no : Nat) : Prop := mat ≤ no ∧ no < mat + nb nbl
def mapW (mat nbl : Nat) : List Nat := (List.range (nb nbl)).map (mat + ·)
theorem mem_mapW {mat nbl no : Nat} : no ∈ mapW mat nbl ↔ IsM mat nbl no := by
  unfold mapW IsM
  simp only [List.mem_map, List.mem_range]
  constructor
  · rintro ⟨j, h, rfl⟩; omega
  · rintro ⟨h1, h2⟩; exact ⟨no - mat, by omega, by omega⟩

/-- The table's bytes are these inodes. -/
structure TI (C : CSt) (at_ n mat lo nbl : Nat) (T : Nat → Nd) : Prop where
  img : ∀ id, 1 ≤ id → id ≤ n → C.view (at_ + id - 1) = nodeRow (T id)
  mor : ∀ id, 1 ≤ id → id ≤ n → 8 < (T id).l.length → C.view (T id).more = moreRow (T id)
  ok : ∀ id, 1 ≤ id → id ≤ n → NdOk lo nbl (T id)
  bit : ∀ j, j < nbl → (bitC C mat j = true ↔ ∃ id, 1 ≤ id ∧ id ≤ n ∧ lo + j ∈ (T id).blks)
  sep : ∀ id id', 1 ≤ id → id ≤ n → 1 ≤ id' → id' ≤ n → id ≠ id' → ∀ b ∈ (T id).blks, b ∉ (T id').blks

def setT (T : Nat → Nd) (id : Nat) (x : Nd) : Nat → Nd := fun k => if k = id then x else T k
@[simp] theorem setT_same (T : Nat → Nd) (id : Nat) (x : Nd) : setT T id x id = x := by simp [setT]
theorem setT_other (T : Nat → Nd) {id k : Nat} (x : Nd) (h : k ≠ id) : setT T id x k = T k := by simp [setT, h]

/-- An inode x that has got other blocks: x'. -/
structure Fit (C C' : CSt) (mat lo nbl : Nat) (x x' : Nd) : Prop where
  bit : ∀ j, j < nbl → (bitC C' mat j = true ↔ (bitC C mat j = true ∧ lo + j ∉ x.blks) ∨ lo + j ∈ x'.blks)
  rng : ∀ b ∈ x'.blks, lo ≤ b ∧ b < lo + nbl
  nd : x'.blks.Nodup
  new : ∀ b ∈ x'.blks, b ∈ x.blks ∨ bitC C mat (b - lo) = false

theorem bitC_congr {C C' : CSt} {mat nbl : Nat} (h : ∀ no, IsM mat nbl no → C'.view no = C.view no) (j : Nat) (hj : j < nbl) : bitC C' mat j = bitC C mat j := by
  unfold bitC
  rw [h _ (by unfold IsM nb; omega)]

/-- An inode is written, its blocks as Fit has them: the table stands. -/
theorem TI.fit {C C1 C' : CSt} {at_ n mat lo nbl id : Nat} {T : Nat → Nd} {x' : Nd} (h : TI C at_ n mat lo nbl T) (g : Geo at_ n mat lo nbl C.blocks) (h1 : 1 ≤ id) (h2 : id ≤ n) (hf : Fit C C1 mat lo nbl (T id) x') (hok : NdOk lo nbl x')
    (hs : CS (fun no => IsM mat nbl no ∨ no ∈ x'.blks) C C1) (hs' : CS (fun no => no = at_ + id - 1 ∨ no ∈ x'.blks) C1 C')
    (hi : C'.view (at_ + id - 1) = nodeRow x') (hm : 8 < x'.l.length → C'.view x'.more = moreRow x') : TI C' at_ n mat lo nbl (setT T id x') := by
  have g1 := g.g1
  have g2 := g.g2
  have hx' : ∀ b ∈ x'.blks, ∀ k, 1 ≤ k → k ≤ n → k ≠ id → b ∉ (T k).blks := by
    intro b hb k k1 k2 hne hbk
    rcases hf.new b hb with h3 | h3
    · exact h.sep id k h1 h2 k1 k2 (Ne.symm hne) b h3 hbk
    · have hr := hf.rng b hb
      have := (h.bit (b - lo) (by omega)).2 ⟨k, k1, k2, by rw [show lo + (b - lo) = b by omega]; exact hbk⟩
      rw [this] at h3; cases h3
  have hlo : ∀ b ∈ x'.blks, lo ≤ b := fun b hb => (hf.rng b hb).1
  have hvw : ∀ no, no ≠ at_ + id - 1 → no ∉ x'.blks → ¬ IsM mat nbl no → C'.view no = C.view no := fun no a b c => by
    rw [hs'.vw no (by rintro (e | e); exact a e; exact b e), hs.vw no (by rintro (e | e); exact c e; exact b e)]
  refine ⟨fun k k1 k2 => ?_, fun k k1 k2 k8 => ?_, fun k k1 k2 => ?_, fun j hj => ?_, fun k k' a b c d hne b' hb' => ?_⟩
  · by_cases e : k = id
    · subst e; rw [setT_same]; exact hi
    · rw [setT_other _ _ e, hvw _ (by omega) (fun hb => by have := hlo _ hb; omega) (by unfold IsM; omega)]
      exact h.img k k1 k2
  · by_cases e : k = id
    · subst e; rw [setT_same] at k8 ⊢; exact hm k8
    · rw [setT_other _ _ e] at k8 ⊢
      have ho := h.ok k k1 k2
      have hm0 : (T k).more ≠ 0 := fun h0 => by have := ho.more.1 h0; omega
      have hmb := Nd.mem_more hm0
      have hr := ho.rng _ hmb
      rw [hvw _ (by omega) (fun hb => hx' _ hb k k1 k2 e hmb) (by unfold IsM; omega)]
      exact h.mor k k1 k2 k8
  · by_cases e : k = id
    · subst e; rw [setT_same]; exact hok
    · rw [setT_other _ _ e]; exact h.ok k k1 k2
  · have hb1 : bitC C' mat j = bitC C1 mat j := bitC_congr (fun no hno => hs'.vw no (by
      unfold IsM at hno
      rintro (e | e)
      · omega
      · have := hlo _ e; omega)) j hj
    rw [hb1, hf.bit j hj]
    constructor
    · rintro (⟨a, b⟩ | a)
      · obtain ⟨k, k1, k2, k3⟩ := (h.bit j hj).1 a
        have hne : k ≠ id := by rintro rfl; exact b k3
        exact ⟨k, k1, k2, by rw [setT_other _ _ hne]; exact k3⟩
      · exact ⟨id, h1, h2, by rw [setT_same]; exact a⟩
    · rintro ⟨k, k1, k2, k3⟩
      by_cases e : k = id
      · subst e; rw [setT_same] at k3; exact .inr k3
      · rw [setT_other _ _ e] at k3
        exact .inl ⟨(h.bit j hj).2 ⟨k, k1, k2, k3⟩, fun hb => h.sep id k h1 h2 k1 k2 (Ne.symm e) _ hb k3⟩
  · by_cases e : k = id
    · subst e
      rw [setT_same] at hb'
      rw [setT_other _ _ (Ne.symm hne)]
      exact hx' b' hb' k' c d (Ne.symm hne)
    · rw [setT_other _ _ e] at hb'
      by_cases e' : k' = id
      · subst e'; rw [setT_same]; exact fun hb => hx' b' hb k a b e hb'
      · rw [setT_other _ _ e']; exact h.sep k k' a b c d hne b' hb'
/-- No other inode's bytes are turned. -/
theorem TI.data {C C1 C' : CSt} {at_ n mat lo nbl id k : Nat} {T : Nat → Nd} {x' : Nd} (h : TI C at_ n mat lo nbl T) (g : Geo at_ n mat lo nbl C.blocks) (h1 : 1 ≤ id) (h2 : id ≤ n) (hf : Fit C C1 mat lo nbl (T id) x')
    (hs : CS (fun no => IsM mat nbl no ∨ no ∈ x'.blks) C C1) (hs' : CS (fun no => no = at_ + id - 1 ∨ no ∈ x'.blks) C1 C') (k1 : 1 ≤ k) (k2 : k ≤ n) (hne : k ≠ id) : dataOf C'.view (T k) = dataOf C.view (T k) := by
  unfold dataOf
  congr 1
  refine cat_congr fun b hb => ?_
  have hbb := Nd.mem_l hb
  have hr := (h.ok k k1 k2).rng b hbb
  have g1 := g.g1
  have g2 := g.g2
  have hx : b ∉ x'.blks := fun hb' => by
    rcases hf.new b hb' with h3 | h3
    · exact h.sep id k h1 h2 k1 k2 (Ne.symm hne) b h3 hbb
    · have := (h.bit (b - lo) (by omega)).2 ⟨k, k1, k2, by rw [show lo + (b - lo) = b by omega]; exact hbb⟩
      rw [this] at h3; cases h3
  rw [hs'.vw b (by rintro (e | e); omega; exact hx e), hs.vw b (by rintro (e | e); unfold IsM at e; omega; exact hx e)]
/-- All blocks that inodes have. -/
def usedT (T : Nat → Nd) : Nat → List Nat
  | 0 => []
  | n + 1 => usedT T n ++ (T (n + 1)).blks
theorem mem_usedT {T : Nat → Nd} {n b : Nat} : b ∈ usedT T n ↔ ∃ id, 1 ≤ id ∧ id ≤ n ∧ b ∈ (T id).blks := by
  induction n with
  | zero =>
    simp only [usedT, List.not_mem_nil, false_iff]
    rintro ⟨id, h1, h2, _⟩; omega
  | succ n ih =>
    rw [usedT, List.mem_append, ih]
    constructor
    · rintro (⟨id, h1, h2, h3⟩ | h)
      · exact ⟨id, h1, by omega, h3⟩
      · exact ⟨n + 1, by omega, by omega, h⟩
    · rintro ⟨id, h1, h2, h3⟩
      by_cases e : id = n + 1
      · subst e; exact .inr h3
      · exact .inl ⟨id, h1, by omega, h3⟩
theorem usedT_nd {T : Nat → Nd} {n : Nat} (h1 : ∀ id, 1 ≤ id → id ≤ n → (T id).blks.Nodup) (h2 : ∀ id id', 1 ≤ id → id ≤ n → 1 ≤ id' → id' ≤ n → id ≠ id' → ∀ b ∈ (T id).blks, b ∉ (T id').blks) : (usedT T n).Nodup := by
  induction n with
  | zero => simp [usedT]
  | succ n ih =>
    rw [usedT, List.nodup_append]
    refine ⟨ih (fun id a b => h1 id a (by omega)) (fun id id' a b c d => h2 id id' a (by omega) c (by omega)), h1 (n + 1) (by omega) (by omega), ?_⟩
    rintro a ha b hb rfl
    obtain ⟨id, i1, i2, i3⟩ := mem_usedT.1 ha
    exact h2 id (n + 1) i1 (by omega) (by omega) (by omega) (by omega) a i3 hb
/-- How many blocks are taken. -/
theorem TI.used {C : CSt} {at_ n mat lo nbl : Nat} {T : Nat → Nd} (h : TI C at_ n mat lo nbl T) : frees (bitC C mat) nbl + (usedT T n).length = nbl := by
  refine frees_list (lo := lo) (usedT_nd (fun id a b => (h.ok id a b).nd) h.sep) (fun b hb => ?_) (fun j hj => ?_)
  · obtain ⟨id, i1, i2, i3⟩ := mem_usedT.1 hb
    exact (h.ok id i1 i2).rng b i3
  · rw [h.bit j hj, mem_usedT]
end Go.Proofs.YthjbpbahcemfgaaGreatDoor
