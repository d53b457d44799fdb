/- A group that stands in the journal as a whole is read: journal.group at a real head. -/
import Derived.Test.YtmafihodbbagbaaGreatDoorGrpL
import Derived.Test.YtmafihodbbagbaaGreatDoorCommit
import Derived.Test.YtmafihodbbagbaaGreatDoorFlushV
import Derived.Test.YtmafihodbbagbaaGreatDoorInts
import Derived.Deep.RegionHeldLaw
import Derived.Deep.AppendLies
namespace Go.Proofs.YtmafihodbbagbaaGreatDoor
open Go.RowKit
set_option maxHeartbeats 4000000
set_option maxRecDepth 20000

theorem journal_lists {w : World} (n : Nat) (hn : n ≤ 2048) :
    Calls Tryz.prog 72 #[.int .i64 (n : Nat)] w fun e w' => e = .returned (.int .i64 (ckN n : Nat)) ∧ w = w' := by
  have e1 : IntKind.i64.wrap ((n : Int) + 16) = (n : Int) + 16 := IntWalk.i64_in _ (by omega)
  have e2 : IntKind.i64.wrap ((n : Int) + 16 - 1) = (n : Int) + 16 - 1 := IntWalk.i64_in _ (by omega)
  have e3 : ((n : Int) + 16 - 1).tdiv 16 = (ckN n : Nat) := by unfold ckN; rw [Int.tdiv_eq_ediv_of_nonneg (by omega)]; omega
  have e4 : IntKind.i64.wrap ((ckN n : Nat) : Int) = ((ckN n : Nat) : Int) := IntWalk.i64_in _ (by unfold ckN; omega)
  go_enter Tryz.func72, Tryz.ntmps72
  go_wp2
  go_ret
  exact ⟨by simp only [e3, e4]; rfl, rfl⟩
theorem own_rows {w : World} {base k : Nat} {v : Value} {gs : List Nat} {rows : List (List Int)} (h : w.ownsRow base 29 1 v k (gs.map slv)) (hk : gs.length = k) (hr : rows.length = k) (h0 : 0 < k) (hrow : ∀ (j gj : Nat) (r : List Int), gs[j]? = some gj → rows[j]? = some r → RowE w gj r ∧ r.length = 128) :
    ∃ g cap, v = .slice (some ⟨g, 0, none⟩) k cap ∧ base ≤ g ∧ k ≤ cap ∧ cap ≤ maxLen ∧ (∀ j gj, gs[j]? = some gj → w.cell? ⟨g, j, none⟩ = some (slv gj)) ∧ SS w v rows := by
  obtain ⟨_, ⟨rfl, hz⟩ | ⟨g, cap, cur, rfl, h3, h4, h5, h6, h7, h8⟩⟩ := h
  · omega
  have hcell : ∀ j gj, gs[j]? = some gj → w.cell? ⟨g, j, none⟩ = some (slv gj) := fun j gj hj => by
    have hlt := (List.getElem?_eq_some_iff.1 hj).1
    have q : (gs.map slv)[j]? = some (slv gj) := by rw [List.getElem?_map, hj]; rfl
    rw [← h8, List.getElem?_take, if_pos (by omega), Array.getElem?_toList] at q
    rw [cell_blk h4]; exact q
  refine ⟨g, cap, rfl, h3, h5, h6, hcell, _, cap, by rw [hr], by omega, h6, fun _ => ⟨_, rfl, fun i ys hi => ?_⟩⟩
  have hlt := (List.getElem?_eq_some_iff.1 hi).1
  obtain ⟨gj, hg⟩ : ∃ gj, gs[i]? = some gj := ⟨_, List.getElem?_eq_getElem (by omega)⟩
  obtain ⟨hrw, hl⟩ := hrow i gj ys hg hi
  refine ⟨slv gj, by rw [add0]; exact hcell i gj hg, ?_⟩
  have := hrw.sl (by rw [hl]; simp [maxLen])
  rw [hl] at this
  exact this
/-- The cells of Blocks: numbers, and where their bytes lie. -/
def lcells (ps : List (Nat × Nat)) : List Value := ps.flatMap fun p => [.int .i64 (p.1 : Nat), slv p.2]
theorem lcells_snoc (ps : List (Nat × Nat)) (p : Nat × Nat) : lcells (ps ++ [p]) = lcells ps ++ [.int .i64 (p.1 : Nat), slv p.2] := by simp [lcells]
theorem lcells_get : ∀ (ps : List (Nat × Nat)) (i : Nat) (p : Nat × Nat), ps[i]? = some p → (lcells ps)[i * 2]? = some (.int .i64 (p.1 : Nat)) ∧ (lcells ps)[i * 2 + 1]? = some (slv p.2)
  | [], _, _, h => by cases h
  | q :: ps, 0, p, h => by
    simp at h; subst h; exact ⟨rfl, rfl⟩
  | q :: ps, i + 1, p, h => by
    have := lcells_get ps i p (by simpa using h)
    rw [show (i + 1) * 2 = i * 2 + 1 + 1 by omega]
    exact this
theorem lcells_bt {w : World} {base : Nat} {x : Value} {l : List (Nat × List Int)} {ps : List (Nat × Nat)} (h : w.ownsRow base 76 2 x l.length (lcells ps)) (hne : l ≠ []) (hps : ps.length = l.length) (hr : ∀ (j no : Nat) (ys : List Int), l[j]? = some (no, ys) → ys.length = 128 ∧ ∃ g, ps[j]? = some (no, g) ∧ RowE w g ys) : BT w x l := by
  have hpos := List.length_pos_iff.2 hne
  obtain ⟨_, ⟨rfl, h0⟩ | ⟨g, cap, cur, rfl, h3, h4, h5, h6, h7, h8⟩⟩ := h
  · omega
  refine ⟨_, cap, rfl, h5, h6, fun _ => ⟨g, 0, cur, (0, 0), rfl, h4, fun i no ys hi => ?_⟩⟩
  have hlt := (List.getElem?_eq_some_iff.1 hi).1
  obtain ⟨hl, g2, hp, hrow⟩ := hr i no ys hi
  obtain ⟨q1, q2⟩ := lcells_get _ _ _ hp
  rw [← h8, List.getElem?_take, if_pos (by omega), Array.getElem?_toList] at q1 q2
  exact ⟨by rw [Nat.zero_add]; exact q1, g2, 128, by rw [Nat.zero_add]; exact q2, Nat.le_refl _, by simp [maxLen], hrow.row, hl⟩
theorem slice_rows (w : World) (g m cap k : Nat) (hk : k < m) (hm : m ≤ cap) :
    (Instr.sliceAt 85 (.slice (some ⟨g, 0, none⟩) m cap) (some (.int .i64 (k : Nat))) none none).run Tryz.prog w = .ok (.slice (some ⟨g, k, none⟩) (m - k) (cap - k)) w := by
  rw [run_slice_lo 85 29 Tryz.underlying85 (by kernel_rfl : (sizeOf 29).run Tryz.prog w = .ok 1 w) _ _ _ _ (by omega) hm, if_neg (by omega), Nat.mul_one, add0]
theorem BT.kp0 {w w' : World} {v : Value} {l : List (Nat × List Int)} (h : BT w v l) (k : Kp (fun _ => False) w w') : BT w' v l := by
  obtain ⟨A, c, rfl, h1, h2, h3⟩ := h
  refine ⟨A, c, rfl, h1, h2, fun hn => ?_⟩
  obtain ⟨g, off, cs, fr, rfl, hb, h4⟩ := h3 hn
  refine ⟨g, off, cs, fr, rfl, k.blk hb (fun h => h), fun i no ys hi => ?_⟩
  obtain ⟨q1, gr, cu, q2, q3, q4, ⟨cs', rest, q5, q6⟩, q7⟩ := h4 i no ys hi
  exact ⟨q1, gr, cu, q2, q3, q4, ⟨cs', rest, k.blk q5 (fun h => h), q6⟩, q7⟩
theorem own_far {w w' : World} {F : Nat → Prop} {base e s n : Nat} {v : Value} {xs : List Value} (h : w.ownsRow base e s v n xs) (k : Kp F w w') (hf : ∀ b, base ≤ b → ¬ F b) : w'.ownsRow base e s v n xs := by
  obtain ⟨h1, h2 | ⟨g, cap, cur, h2, h3, h4, h5⟩⟩ := h
  · exact ⟨h1, .inl h2⟩
  · exact ⟨h1, .inr ⟨g, cap, cur, h2, h3, k.blk h4 (hf g h3), h5⟩⟩
theorem str_nums (xs : List Int) : str xs = strOfNums xs := ByteArray.ext (Array.ext' (by rw [str_list]; simp [strOfNums]))

theorem journal_group_real {w : World} {bj bd at_ most : Nat} {D : DSt} {F : Nat → Prop} (hj : JBlk w bj bd at_ most) (h : DRep w bd D F) (hd : D.dead = false) (hm : most ≤ 200) (hat : at_ + need most ≤ D.n)
    (l : List (Nat × List Int)) (hne : l ≠ []) (hll : l.length ≤ most) (hin : ∀ x ∈ l, x.1 < D.n ∧ x.1 < at_ ∧ x.2.length = 128) (hnd : (l.map (·.1)).Nodup)
    (hhead : D.row at_ = headRow (l.length : Nat) (bodyRows l)) (hbody : ∀ i r, (bodyRows l)[i]? = some r → D.row (at_ + 1 + i) = r) :
    Calls Tryz.prog 61 #[.pointer (some ⟨bj, 0, none⟩)] w fun e w' => ∃ v, e = .returned (.tuple #[v, .nilIface]) ∧ BT w' v l ∧ Kp (fun _ => False) w w' := by
  have c0 := cell_blk hj 0
  have c1 := cell_blk hj 1
  have c2 := cell_blk hj 2
  simp at c0 c1 c2
  have hn2 := h.few
  have hpos : 1 ≤ l.length := List.length_pos_iff.2 hne
  have hneed : ckN l.length + l.length + 1 ≤ need most := by unfold need ckN; omega
  have hlen : (D.row at_).length = 128 := by rw [hhead]; exact headRow_len _ _
  have hbyte : ∀ x ∈ D.row at_, 0 ≤ x ∧ x ≤ 255 := by rw [hhead]; exact byte_head _ _
  have hget : le 8 ((D.row at_).drop 8) = (l.length : Int) := by rw [hhead]; exact head_n (by omega) (by omega)
  have hmag : (D.row at_).take 8 = magicL := by rw [hhead]; exact head_magic _ _
  have hR := fun (i : Nat) (hi : i < D.n) (W : World) (hk : Kp (fun _ => False) w W) => disk_Read_ok (h.kp0 hk) (i : Nat) (by omega) (by omega) hd
  simp only [Int.toNat_natCast] at hR
  have HR := Lib.hid hR
  have Hb := Lib.hid hbody
  have Hhead := Lib.hid hhead
  have Hlen := Lib.hid hlen
  have Hbyte := Lib.hid hbyte
  have Hget := Lib.hid hget
  have Hmag := Lib.hid hmag
  have HG := Lib.hid (fun (W : World) (hk : Kp (fun _ => False) w W) (v : Value) (hv : BS W v l) => journal_good (hk.blk hj (fun h => h)) (h.kp0 hk) v l hv hin hnd (by omega))
  have Hin := Lib.hid hin
  have C0 := Lib.hid c0
  have C1 := Lib.hid c1
  have hatn : at_ < D.n := by omega
  clear hj h hd hR hbody hhead hlen hbyte hget hmag hin hnd
  go_enter Tryz.func61, Tryz.ntmps61
  go_wp2_with fail
  go_region_held3 (fun W => W.cell? ⟨bj, 0, none⟩ = some (.pointer (some ⟨bd, 0, none⟩)) ∧ W.cell? ⟨bj, 1, none⟩ = some (.int .i64 at_))
    (first | go_keep | exact ⟨hk1.cell (by assumption) (fun h => h), hk1.cell (by assumption) (fun h => h)⟩)
    (first | (go_at_call 16; refine (HR.out at_ hatn _ (Kp.refl _ _).drew).mono ?_; rintro e w1 ⟨rfl, hr1, hk1⟩))
  have hkw := (Kp.drew (Kp.refl _ _)).trans hk1 (Gr.refl _ _)
  have hsl : Sl w1 (.slice (some ⟨w.heap.size, 0, none⟩) 128 128) (D.row at_) := by
    have := hr1.sl (by rw [Hlen.out]; simp [maxLen])
    rw [Hlen.out] at this; exact this
  have hcv := conv_str (hsl.take (m := 8) (by rw [Hlen.out]; omega))
  rw [Hmag.out, show str magicL = ⟨#[99, 114, 101, 100, 101, 110, 122, 97]⟩ from by decide +kernel] at hcv
  have c2' := hkw.cell c2 (fun h => h)
  have Hkw := Lib.hid hkw
  have Hsl := Lib.hid hsl
  clear hsl hr1 hk1 hkw c0 c1 c2
  go_wp2_with fail
  refine (journal_get _ _ _ (Hsl.out.drop (m := 8) (by rw [Hlen.out]; omega) (by omega)) (by rw [List.length_drop, Hlen.out]; omega) (fun x hx => Hbyte.out x (List.mem_of_mem_drop hx))).mono ?_
  rintro e w2 ⟨rfl, rfl⟩
  rw [Hget.out]
  have d1 : decide ((l.length : Int) < 1) = false := decide_eq_false (by omega)
  have hwm : IntKind.u64.wrap (most : Int) = (most : Int) := IntWalk.u64_in _ (by omega)
  have d2 : decide ((most : Int) < (l.length : Int)) = false := decide_eq_false (by omega)
  have hwl : IntKind.i64.wrap (l.length : Int) = (l.length : Int) := IntWalk.i64_in _ (by omega)
  obtain ⟨m, hmq⟩ : ∃ m, m = ckN l.length + l.length := ⟨_, rfl⟩
  go_wp2_with (go_at_call 72; refine (journal_lists l.length (by omega)).mono ?_; rintro e w2 ⟨rfl, rfl⟩)
  rw [show ((ckN l.length : Nat) : Int) + (l.length : Int) = (m : Int) by omega]
  have hrl : (bodyRows l).length = m := by rw [bodyRows_len, hmq]
  have Hrl := Lib.hid hrl
  have Hmq := Lib.hid hmq
  have hrows : ∀ r ∈ bodyRows l, r.length = 128 := bodyRows_row (fun x hx => (Hin.out x hx).2.2)
  have Hrows := Lib.hid hrows
  obtain ⟨gB, hgB⟩ : ∃ gB, gB = w1.heap.size := ⟨_, rfl⟩
  have hckm : ckN l.length ≤ 13 := by unfold ckN; omega
  have hm201 : m ≤ 213 := by omega
  have hmn : at_ + 1 + m ≤ D.n := by omega
  clear hrl hmq hrows hcv d1 d2 hwm c2'
  go_wp2_with fail
  go_loopw [7, 56] (fun x y W => ∃ (k : Nat) (gs : List Nat), y = .int .i64 (k : Nat) ∧ k ≤ m ∧ gs.length = k ∧ W.ownsRow gB 29 1 x k (gs.map slv) ∧ (∀ (j gj : Nat) (r : List Int), gs[j]? = some gj → (bodyRows l)[j]? = some r → gB ≤ gj ∧ RowE W gj r) ∧ Kp (fun _ => False) w1 W) (fun _ y _ => m - (intOf y).toNat)
  case atStart => exact ⟨0, [], rfl, by omega, rfl, World.ownsRow_nil _ _ _ _, fun j gj r h => by simp at h, Kp.refl _ _⟩
  case round =>
    obtain ⟨k, gs, rfl, hk, hgl, hown, hgs, hkp⟩ := hrel
    have Hgl := Lib.hid hgl
    have Hown := Lib.hid hown
    have Hgs := Lib.hid hgs
    have Hkp := Lib.hid hkp
    have Hk0 := Lib.hid (Hkw.out.trans hkp (Gr.refl _ _))
    clear hgl hown hgs hkp
    by_cases hlt : k < m
    · have hz : (k : Int) < (m : Int) := by omega
      have hzd : decide (k < m) = true := decide_eq_true hlt
      have c0 := Hk0.out.cell C0.out (fun h => h)
      have c1 := Hk0.out.cell C1.out (fun h => h)
      have q1 : IntKind.i64.wrap ((at_ : Int) + 1) = (at_ : Int) + 1 := IntWalk.i64_in _ (by omega)
      have q2 : IntKind.i64.wrap ((at_ : Int) + 1 + (k : Int)) = ((at_ + 1 + k : Nat) : Int) := by rw [IntWalk.i64_in _ (by omega)]; omega
      go_wp2_with fail
      go_region_held3 (fun W => W.cell? ⟨bj, 0, none⟩ = some (.pointer (some ⟨bd, 0, none⟩)) ∧ W.cell? ⟨bj, 1, none⟩ = some (.int .i64 at_))
        (first | go_keep | exact ⟨hk'.cell C0.out (fun h => h), hk'.cell C1.out (fun h => h)⟩)
        (first | (go_at_call 16; refine (HR.out (at_ + 1 + k) (by omega) _ (Kp.drew Hk0.out)).mono ?_; rintro e w3 ⟨rfl, hr3, hk3⟩; have hk' : Kp (fun _ => False) w w3 := (Kp.drew Hk0.out).trans hk3 (Gr.refl _ _)))
      have Hr3 := Lib.hid hr3
      have Hk3 := Lib.hid ((Kp.drew (Kp.refl (fun _ => False) wr)).trans hk3 (Gr.refl _ _))
      have hws := Hkp.out.size
      obtain ⟨i0, hi0, hz0, hz1, hz2⟩ := info_parts Tryz.infoRow
      obtain ⟨gk, hgk⟩ : ∃ gk, gk = wr.heap.size := ⟨_, rfl⟩
      have hsn : wr.drew.heap.size = gk := by rw [hgk]; rfl
      clear hr3 hk3 hk' c0 c1 q1 q2
      go_wp2_with (at_builtin; refine wpList_append_lies _ rfl _ _ 85 rfl gB 29 i0 (.slice none 0 0) 1 24 Tryz.underlying85 hi0 hz0 hz1 hz2 rfl (by decide) _ _ _ rfl (own_far Hown.out (Hk3.out.alloc _) (fun _ _ h => h)) ⟨w3.heap.size, 0, none⟩ 1 1 [slv gk] rfl rfl (fun j u hj => by rw [add0, cell_blk (new_blk w3 _)]; simpa [slv, hgk] using hj) (by simp [slv, Value.oneCell']) (by omega) (by unfold maxLen; omega) (by omega) (by have := Hk3.out.size; simp; omega) _ rfl ?_; intro g4 cap4 w4 hown4 hgr4 hat4 hlt4; have Hown4 := Lib.hid hown4; have Hgr4 := Lib.hid hgr4; clear hown4 hgr4 hat4)
      go_roundw
      case rel =>
        have hk4 := grown_kp (F := fun b => u7.ownBlock = some b) Hgr4.out (fun r hr => .inl hr)
        refine ⟨k + 1, gs ++ [gk], by go_num, by omega, by simp [Hgl.out], by simpa using Hown4.out, fun j gj r hj hr => ?_, ((Hkp.out.trans Hk3.out (Gr.refl _ _)).alloc _).grown Hgr4.out (fun r hr => .inr (by have := (World.ownsRow.lt Hown.out r hr).1; omega))⟩
        by_cases hjk : j < k
        · rw [List.getElem?_append_left (by rw [Hgl.out]; exact hjk)] at hj
          obtain ⟨q1, q2⟩ := Hgs.out j gj r hj hr
          refine ⟨q1, ((q2.kp Hk3.out (fun h => h)).kp (F := fun _ => False) ((Kp.refl _ _).alloc _) (fun h => h)).kp hk4 (fun e => ?_)⟩
          obtain ⟨_, ⟨rfl, _⟩ | ⟨g, cap, cur, rfl, _, q3, _⟩⟩ := Hown.out
          · simp [Value.ownBlock] at e
          · simp [Value.ownBlock] at e
            subst e
            have := q2.symm.trans q3
            simp at this
        · rw [List.getElem?_append_right (by rw [Hgl.out]; omega), Hgl.out] at hj
          have hjm := (List.getElem?_eq_some_iff.1 hj).1
          simp at hjm
          obtain rfl : j = k := by omega
          simp at hj
          subst hj
          have hrow := Hb.out j r hr
          have q2 := Hr3.out
          rw [hrow, hsn] at q2
          refine ⟨by omega, ((q2.kp (F := fun _ => False) ((Kp.refl _ _).alloc _) (fun h => h))).kp hk4 (fun e => ?_)⟩
          have := (World.ownsRow.lt Hown.out _ e).2
          omega
      case measure => simp [intOf]; omega
    · have hz : ¬ (k : Int) < (m : Int) := by omega
      have hzd : decide (k < m) = false := decide_eq_false hlt
      have hkm : k = m := by omega
      subst hkm
      have hpm : 0 < k := by have := Hmq.out; omega
      obtain ⟨g7, cap7, rfl, hb7, hc7, hcm7, hcells, hss⟩ := own_rows Hown.out Hgl.out Hrl.out hpm (fun j gj r hj hr => ⟨(Hgs.out j gj r hj hr).2, Hrows.out r (List.mem_of_getElem? hr)⟩)
      have Hss := Lib.hid hss
      have Hcells := Lib.hid hcells
      unfold maxLen at hcm7
      obtain ⟨H, hH⟩ : ∃ H, H = headRow (l.length : Nat) (bodyRows l) := ⟨_, rfl⟩
      have HH := Lib.hid hH
      have hc1 : (convert 29 9 (.slice (some ⟨w.heap.size, 0, none⟩) 128 128)).run Tryz.prog wr = .ok (.string (strOfNums H)) wr := by
        have := conv_str (Hsl.out.kp Hkp.out (fun _ _ h => h))
        rw [Hhead.out, ← hH, str_nums] at this; exact this
      have Hc1 := Lib.hid hc1
      have hHl : H.length = 128 := by rw [hH]; exact headRow_len _ _
      have HHl := Lib.hid hHl
      have Hhd := Lib.hid (journal_head hss (l.length : Nat) (by omega) (by omega))
      rw [← hH] at Hhd
      clear hss hcells hH hc1 hHl
      go_wp2_with (first
        | (go_at_call 56; refine Hhd.out.mono ?_; rintro e w5 ⟨rfl, hr5, hk5⟩; have Hr5 := Lib.hid hr5; have Hk5 := Lib.hid hk5; clear hr5 hk5)
        | (go_at_call 73; refine (Tryz.bytes_Equal _ _ H H _ (by have := conv_str ((Hsl.out.kp Hkp.out (fun _ _ h => h)).kp Hk5.out (fun _ _ h => h)); rw [Hhead.out, ← HH.out, str_nums] at this; exact this) (by have h5 := Hr5.out.sl (by rw [HHl.out]; simp [maxLen]); rw [HHl.out] at h5; have := conv_str h5; rw [str_nums] at this; exact this)).mono ?_; rintro e w6 ⟨rfl, rfl⟩; rw [beq_self_eq_true])
        | (go_at_call 72; refine (journal_lists l.length (by omega)).mono ?_; rintro e w2 ⟨rfl, rfl⟩)
        | ((with_reducible refine at_slice rfl ?_); refine wpList_slice_run rfl _ _ _ _ _ rfl _ _ _ _ _ rfl rfl rfl rfl (slice_rows _ g7 k cap7 (ckN l.length) (by have := Hmq.out; omega) hc7) ?_))
      rw [show k - ckN l.length = l.length by have := Hmq.out; omega]
      obtain ⟨cap8, hcap8⟩ : ∃ cap8, cap7 - ckN l.length = cap8 := ⟨_, rfl⟩
      have Hk6 := Lib.hid (Hk0.out.trans Hk5.out (Gr.refl _ _))
      have HcellW := Lib.hid (show ∀ W, Kp (fun _ => False) w6 W → ∀ j gj, gs[j]? = some gj → W.cell? ⟨g7, j, none⟩ = some (slv gj) from fun W hW j gj h => hW.cell (Hk5.out.cell (Hcells.out j gj h) (fun h => h)) (fun h => h))
      have HgsW := Lib.hid (show ∀ W, Kp (fun _ => False) w6 W → ∀ (j gj : Nat) (r : List Int), gs[j]? = some gj → (bodyRows l)[j]? = some r → RowE W gj r from fun W hW j gj r h1 h2 => ((Hgs.out j gj r h1 h2).2.kp Hk5.out (fun h => h)).kp hW (fun h => h))
      obtain ⟨gL, hgL⟩ : ∃ gL, gL = w6.heap.size := ⟨_, rfl⟩
      have HgL := Lib.hid hgL
      rw [hcap8]
      clear Hgs Hcells Hown Hhd Hc1 HH HHl Hhead Hr5 hgL
      go_loopw [11, 95] (fun x y W => ∃ (i : Nat) (ps : List (Nat × Nat)), y = .int .i64 (i : Nat) ∧ i ≤ l.length ∧ ps.length = i ∧ W.ownsRow gL 76 2 x i (lcells ps) ∧ (∀ (j no : Nat) (ys : List Int), j < i → l[j]? = some (no, ys) → ∃ g, ps[j]? = some (no, g) ∧ RowE W g ys) ∧ Kp (fun _ => False) w6 W) (fun _ y _ => l.length - (intOf y).toNat)
      case atStart => exact ⟨0, [], rfl, by omega, rfl, World.ownsRow_nil _ _ _ _, fun j no ys h => by omega, Kp.refl _ _⟩
      case round =>
        obtain ⟨i, ps, rfl, hi, hpl, hown, hps, hkp⟩ := hrel
        have Hpl := Lib.hid hpl
        have Hown := Lib.hid hown
        have Hps := Lib.hid hps
        have Hkp := Lib.hid hkp
        clear hpl hown hps hkp
        by_cases hlt : i < l.length
        · have hz : (i : Int) < (l.length : Int) := by omega
          have hz0 : (0 : Int) ≤ (i : Int) := by omega
          have hzd : decide (i < l.length) = true := decide_eq_true hlt
          obtain ⟨⟨no, ys⟩, hx⟩ : ∃ x, l[i]? = some x := ⟨_, List.getElem?_eq_getElem hlt⟩
          have hmem := List.mem_of_getElem? hx
          have hno : no < D.n ∧ no < at_ ∧ ys.length = 128 := Hin.out _ hmem
          have hck : i / 16 < ckN l.length := by unfold ckN; omega
          have hb1 : (bodyRows l)[i / 16]? = some (numRow l (i / 16)) := by
            rw [bodyRows, List.getElem?_append_left (by simp; exact hck), List.getElem?_map, List.getElem?_range hck]; rfl
          have hb2 : (bodyRows l)[ckN l.length + i]? = some ys := by
            rw [bodyRows, List.getElem?_append_right (by simp)]; simp [hx]
          obtain ⟨gA, hgA⟩ : ∃ g, gs[i / 16]? = some g := ⟨_, List.getElem?_eq_getElem (by have := Hgl.out; have := Hmq.out; omega)⟩
          obtain ⟨gD, hgD⟩ : ∃ g, gs[ckN l.length + i]? = some g := ⟨_, List.getElem?_eq_getElem (by have := Hgl.out; have := Hmq.out; omega)⟩
          have cA := HcellW.out wr Hkp.out _ _ hgA
          have cD := HcellW.out wr Hkp.out _ _ hgD
          have rA := HgsW.out wr Hkp.out _ _ _ hgA hb1
          have rD := Lib.hid (HgsW.out wr Hkp.out _ _ _ hgD hb2)
          have hle := numRow_le (l := l) (k := i / 16) (i := i % 16) (by omega) (by rw [show i / 16 * 16 + i % 16 = i by omega]; exact hx) (by omega)
          have hsA : Sl wr (slv gA) (numRow l (i / 16)) := by
            have := rA.sl (by rw [numRow_len]; simp [maxLen])
            rw [numRow_len] at this; exact this
          have HsA := Lib.hid hsA
          have Hle := Lib.hid hle
          have Hx := Lib.hid hx
          have hq0 : (0 : Int) ≤ (i : Int) / 16 := by omega
          have hq1 : (i : Int) / 16 < (k : Int) := by have := Hmq.out; unfold ckN at hck; omega
          unfold slv at cA cD
          clear hx hb1 hb2 rA hle hsA hgA hgD hmem
          go_wp2_with fail
          have hsd := HsA.out.drop (m := 8 * (i % 16)) (by rw [numRow_len]; omega) (by omega)
          rw [show 128 - 8 * (i % 16) = 128 - i % 16 * 8 by omega] at hsd
          have hsd' : Sl wr (.slice (some ⟨gA, i % 16 * 8, none⟩) (128 - i % 16 * 8) (128 - i % 16 * 8)) ((numRow l (i / 16)).drop (8 * (i % 16))) := by
            have e : (⟨gA, 0, none⟩ : Addr).add (8 * (i % 16)) = ⟨gA, i % 16 * 8, none⟩ := by rw [add0, Nat.mul_comm]
            rw [← e]; exact hsd
          refine (journal_get _ _ _ hsd' (by rw [List.length_drop, numRow_len]; omega) (fun x hx => byte_nr _ _ x (List.mem_of_mem_drop hx))).mono ?_
          rintro e w7 ⟨rfl, rfl⟩
          rw [Hle.out]
          have hwn : IntKind.i64.wrap (no : Int) = (no : Int) := IntWalk.i64_in _ (by omega)
          obtain ⟨i0, hi0, hz0, hz1, hz2⟩ := info_parts Tryz.infoBlk
          have hsz8 := Hkp.out.size
          clear hsd hsd' cA cD
          go_wp2_with (at_builtin; refine wpList_append_lies _ rfl _ _ 74 rfl gL 76 i0 (.agg #[.int .i64 0, .slice none 0 0]) 2 32 Tryz.underlying74 hi0 hz0 hz1 hz2 rfl (by decide) _ _ _ rfl (Hown.out.alloc _) ⟨wr.heap.size, 0, none⟩ 1 1 [.int .i64 (no : Nat), slv gD] rfl rfl (fun j u hj => by rw [add0, cell_blk (new_blk wr _)]; simpa [slv] using hj) (by simp [slv, Value.oneCell']) (by omega) (by unfold maxLen; omega) (by omega) (le_alloc _ (by have := HgL.out; omega)) _ rfl ?_; intro g9 cap9 w9 hown9 hgr9 hat9 hlt9; have Hown9 := Lib.hid hown9; have Hgr9 := Lib.hid hgr9; clear hown9 hgr9 hat9)
          go_roundw
          case rel =>
            have hk9 := grown_kp (F := fun b => u11.ownBlock = some b) Hgr9.out (fun r hr => .inl hr)
            have hne : ∀ g ys, RowE wr g ys → ¬ u11.ownBlock = some g := fun g ys q2 e => by
              obtain ⟨_, ⟨rfl, _⟩ | ⟨g', cap, cur, rfl, _, q3, _⟩⟩ := Hown.out
              · simp [Value.ownBlock] at e
              · simp [Value.ownBlock] at e
                subst e
                have := q2.symm.trans q3
                simp at this
            have hrow : ∀ g ys, RowE wr g ys → RowE w9 g ys := fun g ys q => (q.kp (F := fun _ => False) ((Kp.refl _ _).alloc _) (fun h => h)).kp hk9 (hne g ys q)
            refine ⟨i + 1, ps ++ [(no, gD)], by go_num, by omega, by simp [Hpl.out], by rw [lcells_snoc]; exact Hown9.out, fun j no' ys' hj hx => ?_, (Hkp.out.alloc _).grown Hgr9.out (fun r hr => .inr (by have := (World.ownsRow.lt Hown.out r hr).1; have := HgL.out; omega))⟩
            by_cases hji : j < i
            · obtain ⟨g, q1, q2⟩ := Hps.out j no' ys' hji hx
              exact ⟨g, by rw [List.getElem?_append_left (by rw [Hpl.out]; exact hji)]; exact q1, hrow _ _ q2⟩
            · obtain rfl : j = i := by omega
              rw [Hx.out] at hx
              cases hx
              exact ⟨gD, by rw [List.getElem?_append_right (by rw [Hpl.out]; omega), Hpl.out]; simp, hrow _ _ rD.out⟩
          case measure => simp [intOf]; omega
        · have hz : ¬ (i : Int) < (l.length : Int) := by omega
          have hzd : decide (i < l.length) = false := decide_eq_false hlt
          obtain rfl : i = l.length := by omega
          have hbt := lcells_bt Hown.out hne Hpl.out (fun j no ys h => ⟨(Hin.out _ (List.mem_of_getElem? h)).2.2, Hps.out j no ys (List.getElem?_eq_some_iff.1 h).1 h⟩)
          have Hbt := Lib.hid hbt
          have HK := Lib.hid (Hk6.out.trans Hkp.out (Gr.refl _ _))
          clear hbt Hps
          go_wp2_with (go_at_call 53; refine (HG.out _ HK.out _ Hbt.out.bs).mono ?_; rintro e w8 ⟨rfl, hk8⟩; have Hk8 := Lib.hid hk8; clear hk8)
          go_ret2
          exact ⟨_, rfl, Hbt.out.kp0 Hk8.out, HK.out.trans Hk8.out (Gr.refl _ _)⟩
end Go.Proofs.YtmafihodbbagbaaGreatDoor
