/- Inodes as bytes: plain laws, no program in sight. -/
import Derived.Test.YthjbpbahcemfgaaGreatDoorAllocG
namespace Go.Proofs.YthjbpbahcemfgaaGreatDoor
open Go.RowKit
set_option maxHeartbeats 1000000
set_option maxRecDepth 20000

/-- An inode: its kind, its size, its blocks in the order of its bytes, the block that tells of those behind the first eight (0: none). -/
structure Nd where
  kind : Nat
  size : Nat
  l : List Nat
  more : Nat
def Nd.zero : Nd := ⟨0, 0, [], 0⟩
/-- All its blocks. -/
def Nd.blks (x : Nd) : List Nat := x.l ++ if x.more = 0 then [] else [x.more]
/-- How many blocks have bytes. -/
def dat (size : Nat) : Nat := (size + 127) / 128
def natI (l : List Nat) : List Int := l.map fun (n : Nat) => (n : Int)
@[simp] theorem natI_length (l : List Nat) : (natI l).length = l.length := by simp [natI]

/-- Numbers as bytes, two each. -/
def numB : List Nat → List Int
  | [] => []
  | n :: l => ((n % 256 : Nat) : Int) :: ((n / 256 % 256 : Nat) : Int) :: numB l
@[simp] theorem numB_length (l : List Nat) : (numB l).length = 2 * l.length := by
  induction l with
  | nil => rfl
  | cons n l ih => simp [numB, ih]; omega
theorem numB_app (a b : List Nat) : numB (a ++ b) = numB a ++ numB b := by
  induction a with
  | nil => rfl
  | cons n l ih => simp [numB, ih]
theorem numB_byt (l : List Nat) : Byt (numB l) := by
  induction l with
  | nil => intro x hx; cases hx
  | cons n l ih =>
    intro x hx
    simp only [numB, List.mem_cons] at hx
    rcases hx with rfl | rfl | hx
    · omega
    · omega
    · exact ih x hx
theorem numB_get (l : List Nat) (i : Nat) : (numB l).getD (2 * i) 0 = ((l.getD i 0 % 256 : Nat) : Int) ∧ (numB l).getD (2 * i + 1) 0 = ((l.getD i 0 / 256 % 256 : Nat) : Int) := by
  induction l generalizing i with
  | nil => simp [numB]
  | cons n l ih =>
    cases i with
    | zero => simp [numB]
    | succ i =>
      have e : 2 * (i + 1) = 2 * i + 1 + 1 := by omega
      rw [e]
      simp only [numB, List.getD_cons_succ]
      exact ih i
/-- The number of two bytes. -/
def num2 (ys : List Int) (i : Nat) : Int := ys.getD i 0 + ys.getD (i + 1) 0 * 256
def lst (ys : List Int) (off k : Nat) : List Int := (List.range k).map fun i => num2 ys (off + 2 * i)
theorem lst_succ (ys : List Int) (off k : Nat) : lst ys off (k + 1) = lst ys off k ++ [num2 ys (off + 2 * k)] := by simp [lst, List.range_succ]
@[simp] theorem lst_length (ys : List Int) (off k : Nat) : (lst ys off k).length = k := by simp [lst]
theorem num2_range {ys : List Int} (h : Byt ys) (i : Nat) : 0 ≤ num2 ys i ∧ num2 ys i < 65536 := by
  have h1 := h.getD i
  have h2 := h.getD (i + 1)
  unfold num2; omega
theorem getD_drop (ys : List Int) (k i : Nat) : (ys.drop k).getD i 0 = ys.getD (k + i) 0 := by
  rw [List.getD_eq_getElem?_getD, List.getElem?_drop, ← List.getD_eq_getElem?_getD]
theorem num2_drop (ys : List Int) (k i : Nat) : num2 (ys.drop k) i = num2 ys (k + i) := by
  unfold num2; rw [getD_drop, getD_drop]; rfl
theorem lst_drop (ys : List Int) (k off n : Nat) : lst (ys.drop k) off n = lst ys (k + off) n := by
  unfold lst
  refine List.map_congr_left fun i _ => ?_
  rw [num2_drop, Nat.add_assoc]

theorem splice_get (xs ys : List Int) (off i : Nat) (h : off + ys.length ≤ xs.length) : (splice xs off ys).getD i 0 = if off ≤ i ∧ i < off + ys.length then ys.getD (i - off) 0 else xs.getD i 0 := by
  unfold splice
  have hl : (xs.take off).length = off := by rw [List.length_take]; omega
  simp only [List.getD_eq_getElem?_getD]
  by_cases h1 : i < off
  · rw [if_neg (by omega), List.getElem?_append_left (by omega), List.getElem?_take, if_pos h1]
  · rw [List.getElem?_append_right (by omega), hl]
    by_cases h2 : i < off + ys.length
    · rw [if_pos (by omega), List.getElem?_append_left (by omega)]
    · rw [if_neg (by omega), List.getElem?_append_right (by omega), List.getElem?_drop]
      congr 2; omega
theorem splice_len (xs ys : List Int) (off : Nat) (h : off + ys.length ≤ xs.length) : (splice xs off ys).length = xs.length := by
  unfold splice
  simp only [List.length_append, List.length_take, List.length_drop]; omega
theorem splice_byt {xs ys : List Int} {off : Nat} (h : Byt xs) (k : Byt ys) : Byt (splice xs off ys) := by
  intro x hx
  unfold splice at hx
  simp only [List.mem_append] at hx
  rcases hx with hx | hx | hx
  · exact h x (List.mem_of_mem_take hx)
  · exact k x hx
  · exact h x (List.mem_of_mem_drop hx)
theorem splice_all (xs ys : List Int) (h : xs.length = ys.length) : splice xs 0 ys = ys := by
  unfold splice; simp [h]
theorem zs_byt (n : Nat) : Byt (zs n) := by intro x hx; rw [zs, List.mem_replicate] at hx; omega

/-- The two rows of an inode, with the rows between. -/
def nodeR0 (x : Nd) : List Int := (zs 128).set 0 (x.kind : Int)
def nodeR1 (x : Nd) : List Int := splice (nodeR0 x) 1 (numB [x.size])
def nodeR2 (x : Nd) : List Int := splice (nodeR1 x) 4 (numB (x.l.take 8))
def nodeRow (x : Nd) : List Int := if 8 < x.l.length then splice (nodeR2 x) 20 (numB [x.more]) else nodeR2 x
def moreRow (x : Nd) : List Int := splice (zs 128) 0 (numB (x.l.drop 8))
theorem nodeR0_len (x : Nd) : (nodeR0 x).length = 128 := by simp [nodeR0]
theorem nodeR1_len (x : Nd) : (nodeR1 x).length = 128 := by rw [nodeR1, splice_len _ _ _ (by rw [nodeR0_len]; simp), nodeR0_len]
theorem nodeR2_len (x : Nd) : (nodeR2 x).length = 128 := by rw [nodeR2, splice_len _ _ _ (by rw [nodeR1_len, numB_length, List.length_take]; omega), nodeR1_len]
theorem nodeRow_len (x : Nd) : (nodeRow x).length = 128 := by
  unfold nodeRow; split
  · rw [splice_len _ _ _ (by rw [nodeR2_len]; simp), nodeR2_len]
  · exact nodeR2_len x
theorem moreRow_len (x : Nd) (h : x.l.length ≤ 72) : (moreRow x).length = 128 := by
  rw [moreRow, splice_len _ _ _ (by rw [numB_length, List.length_drop, zs_length]; omega), zs_length]
theorem nodeRow_byt (x : Nd) (h : x.kind ≤ 255) : Byt (nodeRow x) := by
  have h0 : Byt (nodeR0 x) := by
    intro y hy
    rcases List.mem_or_eq_of_mem_set hy with hy | rfl
    · exact zs_byt _ _ hy
    · omega
  have h2 : Byt (nodeR2 x) := splice_byt (splice_byt h0 (numB_byt _)) (numB_byt _)
  unfold nodeRow; split
  · exact splice_byt h2 (numB_byt _)
  · exact h2
theorem moreRow_byt (x : Nd) : Byt (moreRow x) := splice_byt (zs_byt _) (numB_byt _)
theorem nodeRow_get (x : Nd) (i : Nat) (hi : i < 20) : (nodeRow x).getD i 0 = (nodeR2 x).getD i 0 := by
  unfold nodeRow; split
  · rw [splice_get _ _ _ _ (by rw [nodeR2_len]; simp), if_neg (by omega)]
  · rfl
theorem nodeR2_get (x : Nd) (i : Nat) (hi : i < 4) : (nodeR2 x).getD i 0 = (nodeR1 x).getD i 0 := by
  rw [nodeR2, splice_get _ _ _ _ (by rw [nodeR1_len, numB_length, List.length_take]; omega), if_neg (by omega)]
theorem nodeRow_kind (x : Nd) : (nodeRow x).getD 0 0 = (x.kind : Int) := by
  rw [nodeRow_get _ _ (by omega), nodeR2_get _ _ (by omega), nodeR1, splice_get _ _ _ _ (by rw [nodeR0_len]; simp), if_neg (by omega), nodeR0, List.getD_eq_getElem?_getD]
  simp
theorem nodeRow_size (x : Nd) (h : x.size < 65536) : num2 (nodeRow x) 1 = (x.size : Int) := by
  unfold num2
  have hl : 1 + (numB [x.size]).length ≤ (nodeR0 x).length := by rw [nodeR0_len]; simp
  rw [nodeRow_get _ _ (by omega), nodeRow_get _ _ (by omega), nodeR2_get _ _ (by omega), nodeR2_get _ _ (by omega), nodeR1, splice_get _ _ _ _ hl, splice_get _ _ _ _ hl, if_pos (by simp), if_pos (by simp)]
  simp [numB]
  omega
theorem num2_of (l : List Nat) (i : Nat) (h : l.getD i 0 < 65536) : num2 (numB l) (2 * i) = ((l.getD i 0 : Nat) : Int) := by
  unfold num2
  obtain ⟨h1, h2⟩ := numB_get l i
  rw [h1, h2]; omega
theorem num2_splice (xs ys : List Int) (off i : Nat) (h : off + ys.length ≤ xs.length) (hi : i + 1 < ys.length) : num2 (splice xs off ys) (off + i) = num2 ys i := by
  unfold num2
  rw [splice_get _ _ _ _ h, splice_get _ _ _ _ h, if_pos (by omega), if_pos (by omega)]
  congr 3 <;> omega
theorem nodeRow_l (x : Nd) (i : Nat) (h8 : i < 8) (hi : i < x.l.length) (h : x.l.getD i 0 < 65536) : num2 (nodeRow x) (4 + 2 * i) = ((x.l.getD i 0 : Nat) : Int) := by
  have hl : 4 + (numB (x.l.take 8)).length ≤ (nodeR1 x).length := by rw [nodeR1_len, numB_length, List.length_take]; omega
  have e : (x.l.take 8).getD i 0 = x.l.getD i 0 := by
    simp only [List.getD_eq_getElem?_getD]; rw [List.getElem?_take, if_pos h8]
  have h1 : num2 (nodeRow x) (4 + 2 * i) = num2 (nodeR2 x) (4 + 2 * i) := by
    unfold num2; rw [nodeRow_get _ _ (by omega), nodeRow_get _ _ (by omega)]
  rw [h1, nodeR2, num2_splice _ _ _ _ hl (by rw [numB_length, List.length_take]; omega), num2_of _ _ (by rw [e]; exact h), e]
theorem nodeRow_more (x : Nd) (h8 : 8 < x.l.length) (h : x.more < 65536) : num2 (nodeRow x) 20 = (x.more : Int) := by
  unfold nodeRow
  rw [if_pos h8]
  have := num2_splice (nodeR2 x) (numB [x.more]) 20 0 (by rw [nodeR2_len]; simp) (by simp)
  rw [Nat.add_zero] at this
  rw [this]
  exact num2_of [x.more] 0 (by simpa using h)
theorem moreRow_l (x : Nd) (i : Nat) (h72 : x.l.length ≤ 72) (hi : 8 + i < x.l.length) (h : x.l.getD (8 + i) 0 < 65536) : num2 (moreRow x) (2 * i) = ((x.l.getD (8 + i) 0 : Nat) : Int) := by
  have hl : 0 + (numB (x.l.drop 8)).length ≤ (zs 128).length := by rw [numB_length, List.length_drop, zs_length]; omega
  have e : (x.l.drop 8).getD i 0 = x.l.getD (8 + i) 0 := by
    simp only [List.getD_eq_getElem?_getD]; rw [List.getElem?_drop]
  have := num2_splice (zs 128) (numB (x.l.drop 8)) 0 (2 * i) hl (by rw [numB_length, List.length_drop]; omega)
  rw [Nat.zero_add] at this
  rw [moreRow, this, num2_of _ _ (by rw [e]; exact h), e]
theorem lst_eq (ys : List Int) (off k : Nat) (l : List Nat) (hl : l.length = k) (h : ∀ i, i < k → num2 ys (off + 2 * i) = ((l.getD i 0 : Nat) : Int)) : lst ys off k = natI l := by
  subst hl
  apply List.ext_getElem
  · simp
  · intro i h1 h2
    have hi : i < l.length := by simpa using h1
    simp only [lst, natI, List.getElem_map, List.getElem_range]
    rw [h i hi, List.getD_eq_getElem?_getD, List.getElem?_eq_getElem hi]; rfl
theorem getD_small {l : List Nat} (h : ∀ b ∈ l, b < 65536) (i : Nat) : l.getD i 0 < 65536 := by
  rw [List.getD_eq_getElem?_getD]
  cases hx : l[i]? with
  | none => simp
  | some x => exact h x (List.mem_of_getElem? hx)
theorem nodeRow_lst (x : Nd) (h : ∀ b ∈ x.l, b < 65536) : lst (nodeRow x) 4 (min x.l.length 8) = natI (x.l.take 8) := by
  refine lst_eq _ _ _ _ (by rw [List.length_take]; omega) fun i hi => ?_
  have e : (x.l.take 8).getD i 0 = x.l.getD i 0 := by
    simp only [List.getD_eq_getElem?_getD]; rw [List.getElem?_take, if_pos (by omega)]
  rw [nodeRow_l x i (by omega) (by omega) (getD_small h i), e]
theorem moreRow_lst (x : Nd) (h72 : x.l.length ≤ 72) (h : ∀ b ∈ x.l, b < 65536) : lst (moreRow x) 0 (x.l.length - 8) = natI (x.l.drop 8) := by
  refine lst_eq _ _ _ _ (by rw [List.length_drop]) fun i hi => ?_
  have e : (x.l.drop 8).getD i 0 = x.l.getD (8 + i) 0 := by
    simp only [List.getD_eq_getElem?_getD]; rw [List.getElem?_drop]
  rw [Nat.zero_add, moreRow_l x i h72 (by omega) (getD_small h _), e]
theorem nodeRow_zero : nodeRow Nd.zero = zs 128 := by decide +kernel

/-! Bytes behind each other. -/
def cat (v : Nat → List Int) (l : List Nat) : List Int := l.flatMap v
theorem cat_len {v : Nat → List Int} {l : List Nat} (h : ∀ b ∈ l, (v b).length = 128) : (cat v l).length = 128 * l.length := by
  induction l with
  | nil => rfl
  | cons b l ih =>
    have := ih (fun c hc => h c (List.mem_cons_of_mem _ hc))
    unfold cat at this ⊢
    rw [List.flatMap_cons, List.length_append, this, h b List.mem_cons_self, List.length_cons]; omega
theorem cat_get {v : Nat → List Int} {l : List Nat} (h : ∀ b ∈ l, (v b).length = 128) (k : Nat) : (cat v l)[k]? = (l[k / 128]?).bind fun b => (v b)[k % 128]? := by
  induction l generalizing k with
  | nil => simp [cat]
  | cons b l ih =>
    have hb := h b List.mem_cons_self
    have ih' := ih (fun c hc => h c (List.mem_cons_of_mem _ hc))
    unfold cat at ih' ⊢
    rw [List.flatMap_cons]
    by_cases hk : k < 128
    · rw [List.getElem?_append_left (by omega), Nat.div_eq_of_lt hk, Nat.mod_eq_of_lt hk]; rfl
    · rw [List.getElem?_append_right (by omega), hb, ih']
      have e1 : k / 128 = (k - 128) / 128 + 1 := by omega
      have e2 : (k - 128) % 128 = k % 128 := by omega
      rw [e1, e2, List.getElem?_cons_succ]
theorem cat_app (v : Nat → List Int) (l m : List Nat) : cat v (l ++ m) = cat v l ++ cat v m := by simp [cat]
theorem cat_congr {v v' : Nat → List Int} {l : List Nat} (h : ∀ b ∈ l, v b = v' b) : cat v l = cat v' l := by
  unfold cat
  induction l with
  | nil => rfl
  | cons b l ih => rw [List.flatMap_cons, List.flatMap_cons, h b List.mem_cons_self, ih (fun c hc => h c (List.mem_cons_of_mem _ hc))]
/-- An inode's bytes. -/
def dataOf (v : Nat → List Int) (x : Nd) : List Int := (cat v x.l).take x.size
/-- The i-th block of bytes, noughts behind their end. -/
def partB (b : List Int) (i : Nat) : List Int := splice (zs 128) 0 ((b.drop (128 * i)).take 128)
theorem partB_len (b : List Int) (i : Nat) : (partB b i).length = 128 := by
  rw [partB, splice_len _ _ _ (by rw [List.length_take, zs_length]; omega), zs_length]
theorem partB_byt {b : List Int} (h : Byt b) (i : Nat) : Byt (partB b i) :=
  splice_byt (zs_byt _) fun x hx => h x (List.mem_of_mem_drop (List.mem_of_mem_take hx))
theorem partB_get (b : List Int) (i k : Nat) (hk : k < 128) (hb : 128 * i + k < b.length) : (partB b i)[k]? = b[128 * i + k]? := by
  have hl : ((b.drop (128 * i)).take 128).length ≤ 128 := by rw [List.length_take]; omega
  have hk' : k < ((b.drop (128 * i)).take 128).length := by rw [List.length_take, List.length_drop]; omega
  unfold partB splice
  rw [List.take_zero, List.nil_append, List.getElem?_append_left hk', List.getElem?_take, if_pos hk, List.getElem?_drop]
/-- What is read behind a set. -/
theorem data_set {v v' : Nat → List Int} {x x' : Nd} {b : List Int} {fr : Nat} (hv : ∀ c ∈ x.l, (v c).length = 128) (hv' : ∀ c ∈ x'.l, (v' c).length = 128) (_hl : x.size ≤ 128 * x.l.length) (hs : x'.size = b.length) (hl' : x'.l.length = dat b.length)
    (h1 : fr ≤ x.size) (_h2 : fr ≤ b.length) (hb : b.take fr = (dataOf v x).take fr)
    (hlow : ∀ i, i < fr / 128 → ∃ c, x.l[i]? = some c ∧ x'.l[i]? = some c ∧ v' c = v c)
    (hhigh : ∀ i c, fr / 128 ≤ i → x'.l[i]? = some c → v' c = partB b i) : dataOf v' x' = b := by
  apply List.ext_getElem?
  intro k
  unfold dataOf
  rw [hs, List.getElem?_take]
  by_cases hk : k < b.length
  · rw [if_pos hk, cat_get hv']
    have hd : k / 128 < x'.l.length := by rw [hl']; unfold dat; omega
    by_cases hf : k / 128 < fr / 128
    · obtain ⟨c, c1, c2, c3⟩ := hlow _ hf
      rw [c2]
      have e : b[k]? = (dataOf v x)[k]? := by
        have := congrArg (fun l => l[k]?) hb
        simp only [List.getElem?_take] at this
        rwa [if_pos (by omega), if_pos (by omega)] at this
      rw [e]; unfold dataOf
      rw [List.getElem?_take, if_pos (by omega), cat_get hv, c1]
      show (v' c)[k % 128]? = (v c)[k % 128]?
      rw [c3]
    · rw [List.getElem?_eq_getElem hd]
      show (v' _)[k % 128]? = _
      rw [hhigh (k / 128) _ (by omega) (List.getElem?_eq_getElem hd), partB_get _ _ _ (Nat.mod_lt _ (by omega)) (by omega)]
      congr 1; omega
  · rw [if_neg hk, List.getElem?_eq_none (by omega)]
end Go.Proofs.YthjbpbahcemfgaaGreatDoor
