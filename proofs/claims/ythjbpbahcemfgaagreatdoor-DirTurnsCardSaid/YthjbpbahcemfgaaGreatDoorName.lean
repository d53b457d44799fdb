/- Names and records: plain laws. -/
/- name.sign and name.Ok. -/
import Derived.Test.YthjbpbahcemfgaaGreatDoorText
import Derived.Test.YthjbpbahcemfgaaGreatDoorInoD
namespace Go.Proofs.YthjbpbahcemfgaaGreatDoor
open Go.RowKit
set_option maxHeartbeats 1000000
set_option maxRecDepth 20000

/-- Whether a byte may stand in a name. -/
def signB (c : Int) : Bool := (decide (65 ≤ c) && decide (c ≤ 90)) || (decide (97 ≤ c) && decide (c ≤ 122)) || (decide (48 ≤ c) && decide (c ≤ 57)) || c == 46 || c == 43 || c == 45 || c == 95 || c == 126
/-- A name. -/
structure NmOk (s : List Int) : Prop where
  lo : 1 ≤ s.length
  hi : s.length ≤ 27
  d1 : s ≠ [46]
  d2 : s ≠ [46, 46]
  sg : ∀ c ∈ s, signB c = true
theorem signB_byt {c : Int} (h : signB c = true) : 0 ≤ c ∧ c ≤ 255 := by
  unfold signB at h
  simp only [Bool.or_eq_true, Bool.and_eq_true, decide_eq_true_eq, beq_iff_eq] at h
  omega
theorem NmOk.byt {s : List Int} (h : NmOk s) : Byt s := fun c hc => signB_byt (h.sg c hc)
/-- A record. -/
structure Rc where
  s : List Int
  id : Nat
structure RcOk (x : Rc) : Prop where
  nm : NmOk x.s
  lo : 1 ≤ x.id
  hi : x.id ≤ 200
def recRow (x : Rc) : List Int := ((x.s.length : Int) :: x.s) ++ zs (27 - x.s.length) ++ [0, 0, 0, (x.id : Int)]
theorem recRow_len {x : Rc} (h : x.s.length ≤ 27) : (recRow x).length = 32 := by
  unfold recRow
  simp only [List.length_append, List.length_cons, List.length_nil, zs_length]
  omega
theorem recRow_byt {x : Rc} (h : RcOk x) : Byt (recRow x) := by
  intro c hc
  have h1 := h.nm.hi
  have h2 := h.hi
  unfold recRow at hc
  simp only [List.mem_append, List.mem_cons, List.not_mem_nil, or_false] at hc
  rcases hc with ((rfl | hc) | hc) | hc | hc | hc | hc
  · omega
  · exact h.nm.byt c hc
  · exact zs_byt _ c hc
  all_goals omega
end Go.Proofs.YthjbpbahcemfgaaGreatDoor
namespace Go.Proofs.YthjbpbahcemfgaaGreatDoor
open Go.RowKit
set_option maxHeartbeats 2000000
set_option maxRecDepth 20000

theorem idx_five (c : Nat) (h : c ≤ 255) : (decide (0 ≤ Lib.indexByte [46, 43, 45, 95, 126] (Nat.toUInt8 c)) : Bool) = (((c : Int) == 46) || ((c : Int) == 43) || ((c : Int) == 45) || ((c : Int) == 95) || ((c : Int) == 126)) := by
  have : ∀ k : Fin 256, (decide (0 ≤ Lib.indexByte [46, 43, 45, 95, 126] (Nat.toUInt8 k.1)) : Bool) = (((k.1 : Int) == 46) || ((k.1 : Int) == 43) || ((k.1 : Int) == 45) || ((k.1 : Int) == 95) || ((k.1 : Int) == 126)) := by decide +kernel
  exact this ⟨c, by omega⟩
theorem name_sign {w : World} (c : Int) (h0 : 0 ≤ c) (h1 : c ≤ 255) :
    Calls Tryz.prog 111 #[.int .u8 c] w fun e w' => e = .returned (.bool (signB c)) ∧ w' = w := by
  by_cases hA : 65 ≤ c ∧ c ≤ 90
  · obtain ⟨a1, a2⟩ := hA
    have hs : signB c = true := by unfold signB; simp [a1, a2]
    rw [hs]
    go_enter Tryz.func111, Tryz.ntmps111
    go_wp2_with fail
    go_ret
    exact ⟨rfl, rfl⟩
  by_cases hB : 97 ≤ c ∧ c ≤ 122
  · obtain ⟨b1, b2⟩ := hB
    have hs : signB c = true := by unfold signB; simp [b1, b2]
    rw [hs]
    have a1 : 65 ≤ c := by omega
    have a2 : ¬ c ≤ 90 := by omega
    clear hA
    go_enter Tryz.func111, Tryz.ntmps111
    go_wp2_with fail
    go_ret
    exact ⟨rfl, rfl⟩
  by_cases hD : 48 ≤ c ∧ c ≤ 57
  · obtain ⟨b1, b2⟩ := hD
    have hs : signB c = true := by unfold signB; simp [b1, b2]
    rw [hs]
    have a1 : ¬ 65 ≤ c := by omega
    have a3 : ¬ 97 ≤ c := by omega
    clear hA hB
    go_enter Tryz.func111, Tryz.ntmps111
    go_wp2_with fail
    go_ret
    exact ⟨rfl, rfl⟩
  · have hI := Tryz.strings_IndexByte ({ data := #[46, 43, 45, 95, 126] } : ByteArray) c w
    obtain ⟨n, rfl⟩ := Int.eq_ofNat_of_zero_le h0
    have hs : signB n = (decide (0 ≤ Lib.indexByte [46, 43, 45, 95, 126] (Nat.toUInt8 n)) : Bool) := by
      rw [idx_five n (by omega)]
      unfold signB
      have e1 : (decide ((65 : Int) ≤ n) && decide ((n : Int) ≤ 90)) = false := by simp; omega
      have e2 : (decide ((97 : Int) ≤ n) && decide ((n : Int) ≤ 122)) = false := by simp; omega
      have e3 : (decide ((48 : Int) ≤ n) && decide ((n : Int) ≤ 57)) = false := by simp; omega
      rw [e1, e2, e3]; simp
    rw [hs]
    have hI' : Calls Tryz.prog 141 #[.string ({ data := #[46, 43, 45, 95, 126] } : ByteArray), .int .u8 (n : Int)] w fun e w' => e = .returned (.int .i64 (Lib.indexByte [46, 43, 45, 95, 126] (Nat.toUInt8 n))) ∧ w' = w := hI
    have HI := Lib.hid hI'
    generalize Lib.indexByte [46, 43, 45, 95, 126] (Nat.toUInt8 n) = r at *
    clear hI hI' hs
    by_cases a1 : (65 : Int) ≤ n <;> by_cases a2 : (n : Int) ≤ 90 <;> by_cases a3 : (97 : Int) ≤ n <;> by_cases a4 : (n : Int) ≤ 122 <;> by_cases a5 : (48 : Int) ≤ n <;> by_cases a6 : (n : Int) ≤ 57 <;> first
      | (exfalso; omega)
      | (clear hA hB hD
         go_enter Tryz.func111, Tryz.ntmps111
         go_wp2_with fail
         refine HI.out.mono ?_
         rintro e w' ⟨rfl, rfl⟩
         go_wp2_with fail
         go_ret
         exact ⟨rfl, rfl⟩)
theorem str_get {s : List Int} (hb : Byt s) {k : Nat} {c : Int} (hk : s[k]? = some c) (w : World) : (Instr.index 9 (.string (str s)) (.int .i64 (k : Int))).run Tryz.prog w = .ok (.int .u8 c) w := by
  obtain ⟨hlt, hc⟩ := List.getElem?_eq_some_iff.1 hk
  have hsz : (str s).size = s.length := str_size s
  have hcb := hb c (hc ▸ List.getElem_mem hlt)
  rw [run_index_string w 9 (str s) .i64 _ Tryz.underlying9, dif_pos ⟨by omega, by rw [hsz]; omega⟩]
  have h1 : (str s).data.toList[k]? = some (UInt8.ofNat c.toNat) := by rw [str_list, List.getElem?_map, hk]; rfl
  have h2 : ∀ hk', (str s)[((k : Int)).toNat]'hk' = UInt8.ofNat c.toNat := by
    simp only [Int.toNat_natCast]
    generalize str s = S at *
    obtain ⟨d⟩ := S
    intro hk'
    show d[k] = _
    rw [Array.getElem?_toList] at h1
    exact (Array.getElem?_eq_some_iff.1 h1).2
  rw [h2]
  congr 2
  simp
  omega
/-- Texts as bytes are unlike where the bytes are. -/
theorem str_inj {a b : List Int} (ha : Byt a) (hb : Byt b) (h : str a = str b) : a = b := by
  have h1 : (str a).data.toList = (str b).data.toList := by rw [h]
  rw [str_list, str_list] at h1
  have key : ∀ {a b : List Int}, Byt a → Byt b → a.map (fun n => UInt8.ofNat n.toNat) = b.map (fun n => UInt8.ofNat n.toNat) → a = b := by
    intro a
    induction a with
    | nil => intro b _ _ h; cases b with
      | nil => rfl
      | cons y b => simp at h
    | cons x a ih =>
      intro b ha hb h
      cases b with
      | nil => simp at h
      | cons y b =>
        simp only [List.map_cons, List.cons.injEq] at h
        have hx := ha x List.mem_cons_self
        have hy := hb y List.mem_cons_self
        have h2 : x = y := by
          have := congrArg UInt8.toNat h.1
          simp at this
          omega
        rw [h2, ih (fun c hc => ha c (List.mem_cons_of_mem _ hc)) (fun c hc => hb c (List.mem_cons_of_mem _ hc)) h.2]
  exact key ha hb h1
theorem ba_beq (a b : ByteArray) : (a.toList == b.toList) = decide (a = b) := by
  by_cases h : a = b
  · subst h; simp
  · rw [decide_eq_false h]
    refine beq_eq_false_iff_ne.2 fun e => h (ba_ext ?_)
    rwa [ByteArray.toList_eq, ByteArray.toList_eq] at e
theorem name_Ok {w : World} (s : List Int) (h : NmOk s) :
    Calls Tryz.prog 68 #[.string (str s)] w fun e w' => e = .returned (.bool true) ∧ w' = w := by
  have hsz : (str s).size = s.length := str_size s
  have hb := h.byt
  have h1 := h.lo
  have h2 := h.hi
  have H := Lib.hid h
  have l1 : ¬ (s.length : Int) < 1 := by omega
  have l2 : ¬ (27 : Int) < (s.length : Int) := by omega
  have d1 : ((str s).toList == [46]) = false := beq_eq_false_iff_ne.2 fun e => h.d1 (str_inj hb (b := [46]) (fun c hc => by simp at hc; omega) (ba_ext (by rw [← ByteArray.toList_eq, e]; decide +kernel)))
  have d2 : ((str s).toList == [46, 46]) = false := beq_eq_false_iff_ne.2 fun e => h.d2 (str_inj hb (b := [46, 46]) (fun c hc => by simp at hc; omega) (ba_ext (by rw [← ByteArray.toList_eq, e]; decide +kernel)))
  have Hb := Lib.hid hb
  clear h hb
  go_enter Tryz.func68, Tryz.ntmps68
  go_wp2_with fail
  go_loopw [22] (fun i wr => ∃ k : Nat, i = .int .i64 k ∧ k ≤ s.length ∧ wr = w) (fun i _ => s.length - (intOf i).toNat)
  case atStart => exact ⟨0, rfl, Nat.zero_le _, rfl⟩
  case round =>
    obtain ⟨k, rfl, hk, rfl⟩ := hrel
    by_cases hlt : k < s.length
    · have hltz : (k : Int) < (s.length : Int) := by omega
      obtain ⟨c, hc⟩ : ∃ c, s[k]? = some c := ⟨_, List.getElem?_eq_getElem hlt⟩
      have hg := str_get Hb.out hc wr
      have hcs := H.out.sg c (List.mem_of_getElem? hc)
      have hcb := signB_byt hcs
      have HS := Lib.hid (name_sign (w := wr) c hcb.1 hcb.2)
      rw [hcs] at HS
      clear hc hcs
      go_wp2_with fail
      refine HS.out.mono ?_
      rintro e w' ⟨rfl, rfl⟩
      go_wp2_with fail
      go_roundw
      case rel => exact ⟨k + 1, by go_num, by omega, trivial⟩
      case measure => simp [intOf]; omega
    · have hltz : ¬ (k : Int) < (s.length : Int) := by omega
      go_wp2_with fail
      go_ret
      exact ⟨rfl, rfl⟩
end Go.Proofs.YthjbpbahcemfgaaGreatDoor
