/- The journal: blocks are laid where they belong. -/
import Derived.Test.YtdmmlkkemceifaaGreatDoorDead
import Derived.Test.YtdmmlkkemceifaaGreatDoorJrnl
import Derived.Test.YtdmmlkkemceifaaGreatDoorHead
namespace Go.Proofs.YtdmmlkkemceifaaGreatDoor
open Go.RowKit
set_option maxHeartbeats 1000000
set_option maxRecDepth 20000

/-- The disk behind some Writes; the first that fails ends them. -/
def DSt.runs (D : DSt) : List (Nat × List Int) → EV × DSt
  | [] => (none, D)
  | x :: l => if D.dead then (some ([(tx [100, 105, 115, 107], tx (Lib.itoa (x.1 : Int)))], 50), D) else (D.wr x.1 x.2).runs l
theorem DSt.runs_Fz : ∀ (l : List (Nat × List Int)) {D : DSt}, D.Fz → (D.runs l).2.Fz
  | [], _, h => h
  | x :: l, D, h => by
    unfold DSt.runs
    split
    · exact h
    · exact DSt.runs_Fz l (h.wr _ _)
theorem DSt.runs_n : ∀ (l : List (Nat × List Int)) (D : DSt), (D.runs l).2.n = D.n
  | [], _ => rfl
  | x :: l, D => by
    unfold DSt.runs
    split
    · rfl
    · rw [DSt.runs_n l]; rfl
theorem DSt.runs_app : ∀ (l m : List (Nat × List Int)) (D : DSt), D.runs (l ++ m) = if (D.runs l).1 = none then (D.runs l).2.runs m else D.runs l
  | [], m, D => by simp [DSt.runs]
  | x :: l, m, D => by
    rw [List.cons_append, DSt.runs, DSt.runs]
    cases hd : D.dead with
    | true => simp
    | false => simpa using DSt.runs_app l m _
theorem DSt.runs_none {D : DSt} {l : List (Nat × List Int)} (h : (D.runs l).1 = none) (x : Nat × List Int) : D.runs (l ++ [x]) = ((D.runs l).2.tells x.1, (D.runs l).2.put x.1 x.2) := by
  rw [DSt.runs_app, if_pos h, DSt.runs, DSt.tells, DSt.put]
  cases (D.runs l).2.dead <;> rfl

theorem DSt.runs_stop {D : DSt} {l m : List (Nat × List Int)} {i : Nat} {x : Nat × List Int} (hn : (D.runs (l.take i)).1 = none) (hx : l[i]? = some x) (hd : (D.runs (l.take i)).2.dead = true) : D.runs (l ++ m) = ((D.runs (l.take i)).2.tells x.1, (D.runs (l.take i)).2) := by
  have e : l ++ m = l.take i ++ (x :: (l.drop (i + 1) ++ m)) := by
    have h1 : l = l.take i ++ l.drop i := (List.take_append_drop i l).symm
    have h2 : l.drop i = x :: l.drop (i + 1) := by
      obtain ⟨hlt, he⟩ := List.getElem?_eq_some_iff.1 hx
      rw [List.drop_eq_getElem_cons hlt, he]
    calc l ++ m = (l.take i ++ l.drop i) ++ m := by rw [← h1]
      _ = _ := by rw [h2]; simp
  rw [e, DSt.runs_app, if_pos hn, DSt.runs, if_pos hd, DSt.tells, if_pos hd]

/-- A slice of blocks to be written. -/
def BS (w : World) (v : Value) (l : List (Nat × List Int)) : Prop :=
  ∃ A c, v = .slice A l.length c ∧ l.length ≤ c ∧ c ≤ maxLen ∧ (l ≠ [] → ∃ g off, A = some ⟨g, off, none⟩ ∧ ∀ i no ys, l[i]? = some (no, ys) → w.cell? ⟨g, off + i * 2, none⟩ = some (.int .i64 (no : Nat)) ∧ ∃ u, w.cell? ⟨g, off + i * 2 + 1, none⟩ = some u ∧ Sl w u ys)

theorem KpD.blk {w W : World} {bd : Nat} {D : DSt} {F : Nat → Prop} (h : DRep w bd D F) (k : KpD bd w W) {b : Nat} {o : Obj} (hb : w.heap[b]? = some o) (h1 : ∀ cs fr, o ≠ .cells cs 155 fr) (h2 : ∀ cs fr, o ≠ .cells cs 34 fr) : W.heap[b]? = some o := by
  obtain ⟨bl, rows, e1, e2, _⟩ := h.ex
  have hL : DL w bd bl := ⟨D.n, by rw [cell_blk e1]; rfl⟩
  refine (k bl hL).1.blk hb ?_
  rintro (rfl | rfl)
  · rw [e1] at hb; cases hb; exact h1 _ _ rfl
  · rw [e2] at hb; cases hb; exact h2 _ _ rfl
theorem JBlk.kpD {w W : World} {bj bd at_ most : Nat} {D : DSt} {F : Nat → Prop} (hj : JBlk w bj bd at_ most) (h : DRep w bd D F) (k : KpD bd w W) : JBlk W bj bd at_ most :=
  k.blk h hj (by intro cs fr e; injection e with _ e2; exact absurd e2 (by decide)) (by intro cs fr e; injection e with _ e2; exact absurd e2 (by decide))

theorem journal_lay {w : World} {bj bd at_ most : Nat} {D : DSt} {F : Nat → Prop} (hj : JBlk w bj bd at_ most) (h : DRep w bd D F) (hz : D.Fz) (v : Value) (l : List (Nat × List Int)) (hl : ∀ W, KpD bd w W → BS W v l)
    (hin : ∀ x ∈ l, x.1 < D.n ∧ x.2.length = 128) (hat : at_ < D.n) (hll : l.length ≤ 2048) :
    Calls Tryz.prog 72 #[.pointer (some ⟨bj, 0, none⟩), v] w fun e w' => ∃ u, e = .returned u ∧ ErrV w' u (D.runs (l ++ [(at_, zs 128)])).1 ∧
      ∃ F', DRep w' bd (D.runs (l ++ [(at_, zs 128)])).2 F' ∧ Kp F w w' ∧ Gr F F' w.heap.size ∧ KpD bd w w' := by
  obtain ⟨A, c, rfl, hc1, hc2, _⟩ := hl w (KpD.of0 (Kp.refl _ _))
  unfold maxLen at hc2
  have HJ := Lib.hid hj
  have H := Lib.hid h
  have Hz := Lib.hid hz
  have HL := Lib.hid hl
  have Hin := Lib.hid hin
  clear hj h hz hl hin
  go_enter Tryz.func72, Tryz.ntmps72
  go_wp2
  go_loopw [10] (fun x wr => ∃ (i : Nat) (F' : Nat → Prop), x = .int .i64 (i : Nat) ∧ i ≤ l.length ∧ (D.runs (l.take i)).1 = none ∧ DRep wr bd (D.runs (l.take i)).2 F' ∧ Kp F w wr ∧ Gr F F' w.heap.size ∧ KpD bd w wr) (fun x _ => l.length - (intOf x).toNat)
  case atStart => exact ⟨0, F, rfl, by omega, rfl, H.out, Kp.refl _ _, Gr.refl _ _, KpD.of0 (Kp.refl _ _)⟩
  case round =>
    obtain ⟨i, F1, rfl, hi, hnone, hD, hk, hg, hkd⟩ := hrel
    have HD := Lib.hid hD
    have Hk := Lib.hid hk
    have Hg := Lib.hid hg
    have Hkd := Lib.hid hkd
    have Hnone := Lib.hid hnone
    have cj := HJ.out.kpD H.out hkd
    have c0 := cell_blk cj 0
    have c1 := cell_blk cj 1
    simp at c0 c1
    obtain ⟨A', c', e', _, _, hcells⟩ := HL.out wr hkd
    cases e'
    by_cases hlt : i < l.length
    · have hy : (i : Int) < (l.length : Int) := by omega
      have hy0 : (0 : Int) ≤ (i : Int) := by omega
      obtain ⟨x, hx⟩ : ∃ x, l[i]? = some x := ⟨_, List.getElem?_eq_getElem hlt⟩
      obtain ⟨no, ys⟩ := x
      obtain ⟨g, off, rfl, hcell⟩ := hcells (by rintro rfl; simp at hlt)
      obtain ⟨ca, u, cb, hu⟩ := hcell i no ys hx
      have Hu := Lib.hid hu
      have hino := Hin.out _ (List.mem_of_getElem? hx)
      have Hx := Lib.hid hx
      obtain ⟨Au, cu, hue, _, _, _⟩ := id hu
      rw [hino.2] at hue
      subst hue
      have Hino := Lib.hid hino
      have hino1 := hino.1
      clear hino
      clear hcells hcell hu hx hD hk hg hkd hnone cj
      go_wp2_with fail
      have HDa := Lib.hid (HD.out.kp0 ((Kp.refl _ _).alloc (.cells #[.int .i64 (no : Nat), .slice Au 128 cu] 84)))
      have Hua := Lib.hid (Hu.out.kp (F := fun _ => False) ((Kp.refl _ _).alloc (.cells #[.int .i64 (no : Nat), .slice Au 128 cu] 84)) (fun _ _ h => h))
      have nb := new_blk wr (.cells #[.int .i64 (no : Nat), .slice Au 128 cu] 84)
      have ka : KpD bd wr (wr.alloc (.cells #[.int .i64 (no : Nat), .slice Au 128 cu] 84)) := KpD.of0 ((Kp.refl _ _).alloc _)
      have hl0 : ∀ W : World, KpD bd (wr.alloc (.cells #[.int .i64 (no : Nat), .slice Au 128 cu] 84)) W → W.cell? ⟨bj, 0, none⟩ = some (.pointer (some ⟨bd, 0, none⟩)) := fun W hW => by
        have := cell_blk (HJ.out.kpD H.out ((Hkd.out.trans ka).trans hW)) 0
        simpa using this
      have hb2 : ∀ W : World, KpD bd (wr.alloc (.cells #[.int .i64 (no : Nat), .slice Au 128 cu] 84)) W → W.heap[wr.heap.size]? = some (.cells #[.int .i64 (no : Nat), .slice Au 128 cu] 84 (0, 0)) := fun W hW =>
        hW.blk HDa.out nb (by intro cs fr e; injection e with _ e2; exact absurd e2 (by decide)) (by intro cs fr e; injection e with _ e2; exact absurd e2 (by decide))
      have hl1 : ∀ W : World, KpD bd (wr.alloc (.cells #[.int .i64 (no : Nat), .slice Au 128 cu] 84)) W → W.cell? ⟨wr.heap.size, 0, none⟩ = some (.int .i64 (no : Nat)) := fun W hW => by rw [cell_blk (hb2 W hW)]; rfl
      have hl2 : ∀ W : World, KpD bd (wr.alloc (.cells #[.int .i64 (no : Nat), .slice Au 128 cu] 84)) W → W.cell? ⟨wr.heap.size, 1, none⟩ = some (.slice Au 128 cu) := fun W hW => by rw [cell_blk (hb2 W hW)]; rfl
      have Hka := Lib.hid ((Kp.refl F wr).alloc (.cells #[.int .i64 (no : Nat), .slice Au 128 cu] 84))
      have Hkad := Lib.hid ka
      generalize hwa : wr.alloc (.cells #[.int .i64 (no : Nat), .slice Au 128 cu] 84) = wa at *
      generalize wr.heap.size = b at *
      clear hwa hb2 nb ka HD Hu ca cb c0 c1
      have HZ := Lib.hid (DSt.runs_Fz (l.take i) Hz.out)
      have HN := Lib.hid (DSt.runs_n (l.take i) D)
      have HR := Lib.hid (DSt.runs_none Hnone.out (no, ys))
      have hkk : KpD bd wa wa := KpD.of0 (Kp.refl _ _)
      have hsz := Hka.out.size
      go_region_held_law (fun W => KpD bd wa W)
        (first | assumption | exact KpD.of0 ((Kp.refl _ _).drew) | exact KpD.trans (by assumption) (by assumption) | exact KpD.trans (KpD.of0 ((Kp.refl _ _).drew)) (by assumption))
        (first | (go_at_call 69; refine (disk_Write_any (HDa.out.kp0 ((Kp.refl _ _).drew)) HZ.out no (by rw [HN.out]; exact hino1) _ ys (Hua.out.kp (F := fun _ => False) ((Kp.refl _ _).drew) (fun _ _ h => h)) Hino.out.2).mono ?_; rintro e w5 ⟨u5, rfl, hu5, F5, hr5, hk5, hg5, hkd5⟩))
      have kD5 := Lib.hid ((Hkd.out.trans Hkad.out).trans (show KpD bd wa w5 by assumption))
      have k5 := Lib.hid (((Hk.out.trans Hka.out (Gr.refl _ _)).drew).trans hk5 Hg.out)
      have g5 := Lib.hid (Hg.out.trans hg5 (Nat.le_trans Hk.out.size hsz))
      have R5 := Lib.hid hr5
      have U5 := Lib.hid hu5
      clear hkd5 hk5 hg5 hr5 hu5 hl0 hl1 hl2 hkk HDa Hua
      cases hd : (D.runs (l.take i)).2.dead with
      | true =>
        have hu := U5.out
        simp only [DSt.tells, hd, if_true, ErrV] at hu
        obtain ⟨t5, x5, rfl⟩ := hu.iface
        have hs := Lib.hid (DSt.runs_stop (m := [(at_, zs 128)]) Hnone.out Hx.out hd)
        have hp : (D.runs (l.take i)).2.put no ys = (D.runs (l.take i)).2 := by simp [DSt.put, hd]
        have R6 := Lib.hid (hp ▸ R5.out)
        clear hu hd hp
        go_wp2_with fail
        go_ret
        rw [hs.out]
        exact ⟨_, rfl, U5.out, F5, R6.out, k5.out, g5.out, kD5.out⟩
      | false =>
        have hu := U5.out
        simp only [DSt.tells, hd, ErrV] at hu
        have ht : (D.runs (l.take i)).2.tells no = none := by simp [DSt.tells, hd]
        have HT := Lib.hid ht
        have hu' : u5 = .nilIface := by simpa using hu
        subst hu'
        clear hu ht hd
        go_wp2_with fail
        go_roundw
        case rel => exact ⟨i + 1, F5, by go_num, by omega, by rw [take_succ' Hx.out, HR.out]; exact HT.out, by rw [take_succ' Hx.out, HR.out]; exact R5.out, k5.out, g5.out, kD5.out⟩
        case measure => simp [intOf]; omega
    · have hy : ¬ (i : Int) < (l.length : Int) := by omega
      have hil : l.take i = l := by rw [show i = l.length by omega, List.take_length]
      rw [hil] at hD hnone
      have HD := Lib.hid hD
      have HR := Lib.hid (DSt.runs_none hnone (at_, zs 128))
      have HZ := Lib.hid (DSt.runs_Fz l Hz.out)
      have HN := Lib.hid (DSt.runs_n l D)
      have hl0 : ∀ W : World, KpD bd wr W → W.cell? ⟨bj, 0, none⟩ = some (.pointer (some ⟨bd, 0, none⟩)) := fun W hW => by
        have := cell_blk (HJ.out.kpD H.out (Hkd.out.trans hW)) 0
        simpa using this
      have hl1 : ∀ W : World, KpD bd wr W → W.cell? ⟨bj, 1, none⟩ = some (.int .i64 (at_ : Nat)) := fun W hW => by
        have := cell_blk (HJ.out.kpD H.out (Hkd.out.trans hW)) 1
        simpa using this
      have hm7 := make128
      clear hcells hD hk hg hkd hnone cj hil c0 c1
      go_wp2_with fail
      have hkk : KpD bd wr wr := KpD.of0 (Kp.refl _ _)
      go_region_held_law (fun W => KpD bd wr W)
        (first | assumption | exact KpD.of0 ((Kp.refl _ _).drew) | exact KpD.of0 (((Kp.refl _ _).alloc _).drew) | exact KpD.of0 (((Kp.refl _ _).drew).alloc _) | exact KpD.trans (by assumption) (by assumption) | exact KpD.trans (KpD.of0 (((Kp.refl _ _).alloc _).drew)) (by assumption))
        (first | (go_at_call 69; refine (disk_Write_any (HD.out.kp0 (((Kp.refl _ _).alloc (zrow 128)).drew)) HZ.out at_ (by rw [HN.out]; exact hat) _ (zs 128) (((row_new wr 128).kp (F := fun _ => False) ((Kp.refl _ _).drew) (fun h => h)).sl 128 (by simp) (by simp [maxLen])) (by simp)).mono ?_; rintro e w5 ⟨u5, rfl, hu5, F5, hr5, hk5, hg5, hkd5⟩))
      have kD5 := Lib.hid (Hkd.out.trans (show KpD bd wr w5 by assumption))
      have k5 := Lib.hid (((Hk.out.alloc (zrow 128)).drew).trans hk5 Hg.out)
      have g5 := Lib.hid (Hg.out.trans hg5 (by have := Hk.out.size; have := size_alloc wr (zrow 128); show _ ≤ (wr.alloc (zrow 128)).heap.size; omega))
      have R5 := Lib.hid hr5
      have U5 := Lib.hid hu5
      clear hkd5 hk5 hg5 hr5 hu5 hl0 hl1 hkk HD
      go_wp2_with fail
      go_ret
      rw [HR.out]
      exact ⟨_, rfl, U5.out, F5, R5.out, k5.out, g5.out, kD5.out⟩
end Go.Proofs.YtdmmlkkemceifaaGreatDoor
