/- A disk that dies within a Flush: what it has when it lives again. -/
import Derived.Test.YtmafihodbbagbaaGreatDoorReplay
import Derived.Test.YtmafihodbbagbaaGreatDoorDisk3
import Derived.Test.YtmafihodbbagbaaGreatDoorFlushV
namespace Go.Proofs.YtmafihodbbagbaaGreatDoor
open Go.RowKit
set_option maxHeartbeats 1000000
set_option maxRecDepth 20000

theorem DSt.runs_take : ∀ (l : List (Nat × List Int)) (D : DSt), ∃ i, i ≤ l.length ∧ (D.runs l).2 = (l.take i).foldl (fun D x => D.wr x.1 x.2) D ∧ ((D.runs l).1 = none → i = l.length)
  | [], D => ⟨0, Nat.le_refl _, rfl, fun _ => rfl⟩
  | x :: l, D => by
    rw [DSt.runs]
    by_cases hd : D.dead = true
    · rw [if_pos hd]
      exact ⟨0, Nat.zero_le _, rfl, fun h => by cases h⟩
    · rw [if_neg hd]
      obtain ⟨i, h1, h2, h3⟩ := DSt.runs_take l (D.wr x.1 x.2)
      exact ⟨i + 1, by simp; omega, by rw [h2]; rfl, fun h => by rw [h3 h]; rfl⟩
theorem fold_n : ∀ (l : List (Nat × List Int)) (D : DSt), (l.foldl (fun D x => D.wr x.1 x.2) D).n = D.n
  | [], _ => rfl
  | x :: l, D => by rw [List.foldl_cons, fold_n l]; rfl
theorem wsOf_no {at_ : Nat} {rows : List (List Int)} : ∀ x ∈ wsOf at_ rows, at_ < x.1 := fun x hx => by
  obtain ⟨i, _, rfl⟩ := List.mem_map.1 hx
  show at_ < at_ + 1 + i
  omega
theorem wsOf_nodup (at_ : Nat) (rows : List (List Int)) : ((wsOf at_ rows).map (·.1)).Nodup := by
  have e : (wsOf at_ rows).map (·.1) = (List.range rows.length).map fun i => at_ + 1 + i := by
    rw [wsOf, List.map_map]; rfl
  rw [e]
  refine (List.pairwise_map).2 (List.nodup_range.imp fun h e => h (by omega))
theorem dies_law {C : CSt} {D0 : DSt} (hD0 : ∀ k, D0.row k = C.D.row k) (h20 : D0.row 20 = zs 128) (hjat : C.jat = 20) (hch : ∀ no ∈ C.ch, no < 12) (hnd : C.ch.Nodup) (hne : C.group ≠ []) :
    ∃ D2, D2 = (D0.runs (cwOf 20 C.group)).2.power ∧ D2.n = D0.n ∧ D2.dead = false ∧ D2.fuse = -1 ∧
      ((D2.row 20 = zs 128 ∧ (((D0.runs (cwOf 20 C.group)).1 ≠ none ∧ ∀ k, k < 12 → D2.row k = C.D.row k) ∨ ∀ k, k < 12 → D2.row k = C.view k)) ∨
       (D2.row 20 = headRow (C.group.length : Nat) (bodyRows C.group) ∧ (∀ i r, (bodyRows C.group)[i]? = some r → D2.row (20 + 1 + i) = r) ∧ ∀ k, k < 12 → (D2.runs (C.group ++ [(20, zs 128)])).2.row k = C.view k)) := by
  refine ⟨_, rfl, ?_, rfl, rfl, ?_⟩
  · show (D0.runs _).2.n = _
    exact DSt.runs_n _ _
  have hgm : C.group.map (·.1) = C.chs := by rw [CSt.group, List.map_map]; exact List.map_id _
  have hgnd : (C.group.map (·.1)).Nodup := by rw [hgm]; exact C.chs_perm.nodup_iff.2 hnd
  have hg12 : ∀ x ∈ C.group, x.1 < 12 := fun x hx => by
    obtain ⟨no, hno, rfl⟩ := List.mem_map.1 hx
    exact hch no (CSt.chs_mem.1 hno)
  have hgin : ∀ k, k ∈ C.ch → (k, C.cont k) ∈ C.group := fun k hk => List.mem_map.2 ⟨k, CSt.chs_mem.2 hk, rfl⟩
  have hgout : ∀ k, k ∉ C.ch → ∀ x ∈ C.group, x.1 ≠ k := fun k hk x hx e => by
    obtain ⟨no, hno, rfl⟩ := List.mem_map.1 hx
    exact hk (e ▸ CSt.chs_mem.1 hno)
  obtain ⟨i, hi, hrun, hnone⟩ := DSt.runs_take (cwOf 20 C.group) D0
  obtain ⟨ws, hws⟩ : ∃ ws, ws = wsOf 20 (bodyRows C.group) := ⟨_, rfl⟩
  have hcw : cwOf 20 C.group = ws ++ ((20, headRow (C.group.length : Nat) (bodyRows C.group)) :: (C.group ++ [(20, zs 128)])) := by rw [cwOf, hws]
  have hrow : ∀ k, (D0.runs (cwOf 20 C.group)).2.power.row k = (((cwOf 20 C.group).take i).foldl (fun D x => D.wr x.1 x.2) D0).row k := fun k => by
    show (D0.runs _).2.row k = _
    rw [hrun]
  have hwsno : ∀ x ∈ ws, 20 < x.1 := by rw [hws]; exact wsOf_no
  have hlen : (cwOf 20 C.group).length = ws.length + (C.group.length + 2) := by rw [hcw]; simp
  by_cases h1 : i ≤ ws.length
  · refine .inl ⟨?_, .inl ⟨fun e => ?_, fun k hk => ?_⟩⟩
    · rw [hrow, hcw, List.take_append_of_le_length h1, fold_not _ _ 20 (fun x hx => by have := hwsno x (List.mem_of_mem_take hx); omega)]
      exact h20
    · have := hnone e; omega
    · rw [hrow, hcw, List.take_append_of_le_length h1, fold_not _ _ k (fun x hx => by have := hwsno x (List.mem_of_mem_take hx); omega)]
      exact hD0 k
  · obtain ⟨j, rfl⟩ : ∃ j, i = ws.length + (j + 1) := ⟨i - ws.length - 1, by omega⟩
    have htk : (cwOf 20 C.group).take (ws.length + (j + 1)) = ws ++ ((20, headRow (C.group.length : Nat) (bodyRows C.group)) :: (C.group ++ [(20, zs 128)]).take j) := by
      rw [hcw, List.take_length_add_append]; rfl
    rw [htk] at hrow
    have hbase : ∀ k, (ws.foldl (fun D x => D.wr x.1 x.2) D0).row k = if k ≤ 20 then D0.row k else (ws.foldl (fun D x => D.wr x.1 x.2) D0).row k := fun k => by
      split
      · exact fold_not _ _ k (fun x hx => by have := hwsno x hx; omega)
      · rfl
    simp only [List.foldl_append, List.foldl_cons] at hrow
    by_cases h2 : j ≤ C.group.length
    · right
      rw [List.take_append_of_le_length h2] at hrow
      have hno20 : ∀ x ∈ C.group.take j, x.1 ≠ 20 := fun x hx => by have := hg12 x (List.mem_of_mem_take hx); omega
      refine ⟨?_, fun q r hq => ?_, fun k hk => ?_⟩
      · rw [hrow, fold_not _ _ 20 hno20]
        simp [DSt.wr]
      · rw [hrow, fold_not _ _ _ (fun x hx => by have := hg12 x (List.mem_of_mem_take hx); omega)]
        show (if 20 + 1 + q = 20 then _ else _) = _
        rw [if_neg (by omega)]
        refine fold_mem _ _ _ _ (by rw [hws]; exact wsOf_nodup _ _) ?_
        rw [hws]
        exact List.mem_of_getElem? (wsOf_get hq)
      · rw [(DSt.runs_alive _ (D := (D0.runs (cwOf 20 C.group)).2.power) rfl (by show (-1 : Int) ≤ 0; decide)).2.2.2, List.foldl_append]
        rw [fold_not [(20, zs 128)] _ k (fun x hx => by simp at hx; subst hx; simp; omega)]
        by_cases hin : k ∈ C.ch
        · rw [fold_mem C.group _ k (C.cont k) hgnd (hgin k hin)]
          simp [CSt.view, hin]
        · rw [fold_not C.group _ k (hgout k hin), hrow, fold_not _ _ k (fun x hx => hgout k hin x (List.mem_of_mem_take hx))]
          show (if k = 20 then _ else _) = _
          rw [if_neg (by omega), hbase, if_pos (by omega), hD0]
          simp [CSt.view, hin]
    · left
      have hj : j = C.group.length + 1 := by omega
      have e2 : (C.group ++ [(20, zs 128)]).take j = C.group ++ [(20, zs 128)] := List.take_of_length_le (by simp; omega)
      rw [e2] at hrow
      simp only [List.foldl_append, List.foldl_cons, List.foldl_nil] at hrow
      refine ⟨?_, .inr fun k hk => ?_⟩
      · rw [hrow]; simp [DSt.wr]
      · rw [hrow]
        show (if k = 20 then _ else _) = _
        rw [if_neg (by omega)]
        by_cases hin : k ∈ C.ch
        · rw [fold_mem C.group _ k (C.cont k) hgnd (hgin k hin)]
          simp [CSt.view, hin]
        · rw [fold_not C.group _ k (hgout k hin)]
          show (if k = 20 then _ else _) = _
          rw [if_neg (by omega), hbase, if_pos (by omega), hD0]
          simp [CSt.view, hin]
end Go.Proofs.YtmafihodbbagbaaGreatDoor
