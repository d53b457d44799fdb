/- Layer 5's own awake. -/
import Derived.Test.YtmafihodbbagbaaGreatDoorCR
import Derived.Test.YtmafihodbbagbaaGreatDoorLawIs
import Derived.Lib.SlBytesConst
import Derived.Deep.RegionHeldLaw
namespace Go.Proofs.YtmafihodbbagbaaGreatDoor
open Go.RowKit
set_option maxHeartbeats 2000000
set_option maxRecDepth 20000

/-- A literal's row, whatever of it is marked. -/
theorem sl_lit (w : World) (xs : List Int) (lo hi : Nat) (hx : xs.length ≤ maxLen) : Sl (w.alloc (.cells (bs xs).toArray 5 (lo, hi))) (.slice (some ⟨w.heap.size, 0, none⟩) xs.length xs.length) xs := by
  refine ⟨_, _, rfl, Nat.le_refl _, hx, fun _ => ⟨_, rfl, fun j u hj => ?_⟩⟩
  have e : (⟨w.heap.size, 0, none⟩ : Addr).add j = ⟨w.heap.size, j, none⟩ := by unfold Addr.add; split <;> simp_all
  rw [e, cell_blk (new_blk w _)]
  simpa using hj
theorem awake5_ok {w : World} (hg : Gl w) (he : Ge w) (hng : NG ≤ w.heap.size) :
    Calls Tryz.prog 6 #[] w fun e w' => e = .returned (.bool true) ∧ Kp (fun _ => False) w w' := by
  have HM := Lib.hid (made5_ok (w := w) hg hng 4 (by omega) (by omega))
  have Hg := Lib.hid hg
  have He := Lib.hid he
  clear hg hng he
  go_enter Tryz.func6, Tryz.ntmps6
  go_wp2_with fail
  refine HM.out.mono ?_
  rintro e w1 ⟨bd, bc, bj, bm, F, rfl, hr, hk1, hf⟩
  have HC := Lib.hid (show CR w bc bj bm bd (CSt.five 4) F w1 from ⟨hr, hk1, hf⟩)
  clear hr hk1 hf
  have hcv := Lib.run_convert_bytes_const (P := Tryz.prog) w1 29 5 #[.int .u8 120, .int .u8 121] 2 2 Tryz.underlying29 Tryz.underlying5
  simp only [List.size_toArray, List.length_cons, List.length_nil, Nat.reduceAdd] at hcv
  go_wp2_with fail
  clear hcv
  have HC1 := Lib.hid (HC.out.kp0 ((Kp.refl _ _).alloc (.cells #[.int .u8 120, .int .u8 121] 5 (2, 3))))
  refine (cache_Write_ok HC1.out.rep rfl 3 5 (by omega) (by decide) (by omega) _ [120, 121] (sl_lit w1 [120, 121] 2 3 (by simp [maxLen])) (by simp) (.inr (by decide))).mono ?_
  rintro e w2 ⟨rfl, F2, hr2, hk2, hg2⟩
  have HC2 := Lib.hid (HC1.out.step hr2 hk2 hg2)
  clear hr2 hk2 hg2 HC1 HC
  go_wp2_with fail
  refine (cache_Changed_ok HC2.out.rep).mono ?_
  rintro e w3 ⟨v3, rfl, hv3, hk3⟩
  have hchs : (CSt.wr (CSt.five 4) (3 : Int).toNat (5 : Int).toNat [120, 121]).chs = [3] := by
    show ([3] : List Nat).mergeSort _ = [3]
    simp
  rw [hchs] at hv3
  obtain ⟨A, rfl, _, hv3⟩ := hv3
  obtain ⟨g3, rfl, hg3, cs3, hb3, hc3⟩ := hv3 (by simp)
  have c3 := cell_blk hb3 0
  rw [hc3 0 3 rfl] at c3
  have HC3 := Lib.hid (HC2.out.kp0 hk3)
  have hF3 : ¬ F2 g3 := fun h => by have := HC2.out.fresh _ h; omega
  clear hb3 hc3 hg3 hk3 HC2
  have C3 := Lib.hid c3
  clear c3
  go_wp2_with fail
  refine (cache_Drop_ok HC3.out.rep).mono ?_
  rintro e w4 ⟨rfl, hr4, hk4⟩
  have C4 := Lib.hid (hk4.cell C3.out hF3)
  have HC4 := Lib.hid (HC3.out.step hr4 hk4 (Gr.refl _ _))
  clear hr4 hk4 HC3 C3
  go_wp2_with fail
  refine (cache_Read_ok HC4.out.rep rfl 3 (by omega) (by decide)).mono ?_
  rintro e w5 ⟨g, rfl, hrow, hk5, hg5⟩
  have Hrow5 := Lib.hid (show Row w5 g (zs 128) from hrow)
  have C5 := Lib.hid (hk5.cell C4.out (fun h => h))
  have HC5 := Lib.hid (HC4.out.kp0 hk5)
  clear hrow hk5 HC4 C4
  go_wp2_with fail
  refine (cache_New_nil 5 (by omega) (Hg.out.kp HC5.out.kp Hi.none)).mono ?_
  rintro e w6 ⟨v6, rfl, hv6, hk6⟩
  obtain ⟨t6, x6, rfl⟩ := hv6.iface
  have Hv6 := Lib.hid hv6
  have c6 := hk6.cell C5.out (fun h => h)
  have Hrow := Lib.hid (Hrow5.out.kp hk6 (fun h => h))
  have HC6 := Lib.hid (HC5.out.kp0 hk6)
  clear hv6 hk6 HC5 C5
  go_wp2_with fail
  have hc7 : ∀ W : World, Kp (fun _ => False) w6 W → (convert 29 9 (.slice (some ⟨g, 0, none⟩) 128 128)).run Tryz.prog W = .ok (.string (str (zs 128))) W := fun W hk => conv_str ((Hrow.out.kp hk (fun h => h)).sl 128 (by simp) (by simp [maxLen]))
  have hz7 : ∀ W : World, (convert 29 9 (.slice (some ⟨W.heap.size, 0, none⟩) 128 128)).run Tryz.prog (W.alloc (zrow 128)) = .ok (.string (str (zs 128))) (W.alloc (zrow 128)) := fun W => conv_str ((row_new W 128).sl 128 (by simp) (by simp [maxLen]))
  have hz8 : ∀ W : World, (convert 29 9 (.slice (some ⟨W.heap.size, 0, none⟩) 128 128)).run Tryz.prog (W.alloc (zrow 128)).drew = .ok (.string (str (zs 128))) (W.alloc (zrow 128)).drew := fun W => conv_str (((row_new W 128).kp (F := fun _ => False) ((Kp.refl _ _).drew) (fun h => h)).sl 128 (by simp) (by simp [maxLen]))
  have hm7 := make128
  generalize str (zs 128) = s0 at hc7 hz7 hz8
  have hk7 : Kp (fun _ => False) w6 w6 := Kp.refl _ _
  have hl7 : ∀ W : World, Kp (fun _ => False) w6 W → W.cell? ⟨g3, 0, none⟩ = some (.int .i64 3) := fun W hk => hk.cell c6 (fun h => h)
  go_region_held_law (fun W => Kp (fun _ => False) w6 W)
    (first | exact Kp.refl _ _ | assumption | exact Kp.drew (by assumption) | exact Kp.alloc (by assumption) _ | exact Kp.drew (Kp.alloc (by assumption) _) | exact Kp.trans (by assumption) (by assumption) (Gr.refl _ _))
    (first | (go_at_call 23; refine (law_Num (Hv6.out.kp (F := fun _ => False) (by assumption) (FCl.none _)) (He.out.kp (HC6.out.kp.trans (by assumption) (Gr.refl _ _)) Hi.none)).mono ?_; rintro e w8 ⟨rfl, hk8⟩))
  have hend := Lib.hid (HC6.out.kp.trans (show Kp (fun _ => False) w6 w8 by assumption) (Gr.refl _ _))
  go_wp2_with fail
  go_ret
  exact ⟨rfl, hend.out⟩
end Go.Proofs.YtmafihodbbagbaaGreatDoor
