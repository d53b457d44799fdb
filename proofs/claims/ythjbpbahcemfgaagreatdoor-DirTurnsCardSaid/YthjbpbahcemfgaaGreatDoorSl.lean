/- Errors: what fault.New, fault.Wrap and the packages' own makers of errors answer; strconv.Itoa. -/
/- slices.Clone and slices.Clip of bytes; bytes appended to a slice of the call's own. -/
import Derived.Test.YthjbpbahcemfgaaGreatDoorBase
import Derived.Test.YthjbpbahcemfgaaGreatDoorShelf
namespace Go.Proofs.YthjbpbahcemfgaaGreatDoor
open Go.RowKit
set_option maxHeartbeats 1000000
set_option maxRecDepth 20000

/-- The package-level variables that are read lie below this block. -/
def NG : Nat := 2 + 1
/-- The table that strconv reads is as the program's text lays it. -/
def Gl (w : World) : Prop := Lib.TabIs Tryz.prog w "internal/strconv.uint64pow10" .u64 Lib.pow10Tab
/-- F has none of the package-level variables. -/
def Hi (F : Nat → Prop) : Prop := ∀ k, F k → NG ≤ k
theorem Hi.none : Hi (fun _ => False) := fun _ h => h.elim
theorem gl_at : Tryz.prog.globalNamed "internal/strconv.uint64pow10" = some 2 := by kernel_rfl
theorem gl_lt : 2 < NG := Nat.lt_succ_self _
theorem Gl.kp {F : Nat → Prop} {w w' : World} (h : Gl w) (k : Kp F w w') (hf : Hi F) : Gl w' := by
  unfold Gl Lib.TabIs World.var? at h ⊢
  simp only [gl_at, Option.bind_some] at h ⊢
  cases hw : w.heap[2]? with
  | none => rw [hw] at h; cases h
  | some o => rw [k.blk hw (fun hF => by have := hf _ hF; have := gl_lt; omega)]; rw [hw] at h; exact h

def tx (l : List UInt8) : ByteArray := ⟨l.toArray⟩
/-- strconv.Itoa. -/
theorem itoa_any (n : Int) (h0 : -9223372036854775808 ≤ n) (h1 : n ≤ 9223372036854775807) (w : World) (hg : Gl w) :
    Calls Tryz.prog 67 #[.int .i64 n] w fun e w' => e = .returned (.string (tx (Lib.itoa n))) ∧ Kp (fun _ => False) w w' := by
  refine (Tryz.strconv_Itoa n h0 h1 w hg).mono ?_
  rintro e w' ⟨rfl, k, os, rfl⟩
  refine ⟨rfl, rfl, rfl, rfl, ?_, fun i hi _ => ?_⟩
  · simp [Sort.grow, World.drewN]
  · simp only [Sort.grow, World.drewN]
    rw [Array.getElem?_append_left hi]

/-- v is an error: Faults of these Ops and Names, the outmost first, around this number. -/
def IsErr (w : World) : Value → List (ByteArray × ByteArray) → Int → Prop
  | v, [], n => v = .iface 81 (.int .i64 n)
  | v, (o, m) :: l, n => ∃ b x, v = .iface 106 (.pointer (some ⟨b, 0, none⟩)) ∧ w.heap[b]? = some (.cells #[.string o, .string m, x] 110 (0, 0)) ∧ IsErr w x l n
/-- No block of F is a Fault. -/
def FCl (w : World) (F : Nat → Prop) : Prop := ∀ k, F k → ∀ cs fr, w.heap[k]? ≠ some (.cells cs 110 fr)
theorem FCl.none (w : World) : FCl w (fun _ => False) := fun _ h => h.elim
theorem IsErr.kp {F : Nat → Prop} {w w' : World} (k : Kp F w w') (hc : FCl w F) {n : Int} : ∀ {l : List (ByteArray × ByteArray)} {v : Value}, IsErr w v l n → IsErr w' v l n
  | [], _, h => h
  | _ :: _, _, ⟨b, x, h1, h2, h3⟩ => ⟨b, x, h1, k.blk h2 (fun hF => hc b hF _ _ h2), IsErr.kp k hc h3⟩
theorem IsErr.iface {w : World} {n : Int} {l : List (ByteArray × ByteArray)} {v : Value} (h : IsErr w v l n) : ∃ t x, v = .iface t x := by
  cases l with
  | nil => exact ⟨_, _, h⟩
  | cons p l => obtain ⟨b, x, h, _⟩ := h; exact ⟨_, _, h⟩
/-- An error, or none. -/
abbrev EV := Option (List (ByteArray × ByteArray) × Int)
def ErrV (w : World) (v : Value) : EV → Prop
  | none => v = .nilIface
  | some (l, n) => IsErr w v l n
theorem ErrV.kp {F : Nat → Prop} {w w' : World} {v : Value} {E : EV} (h : ErrV w v E) (k : Kp F w w') (hc : FCl w F) : ErrV w' v E := by
  cases E with
  | none => exact h
  | some p => exact IsErr.kp k hc h
def wrapE (op nm : ByteArray) (E : EV) : EV := E.map fun p => ((op, nm) :: p.1, p.2)

theorem fault_New (op nm : ByteArray) (n : Int) (w : World) (h : n ≠ 0) :
    Calls Tryz.prog 48 #[.string op, .string nm, .int .i64 n] w fun e w' => ∃ v, e = .returned v ∧ IsErr w' v [(op, nm)] n ∧ Kp (fun _ => False) w w' := by
  have h' : (n == 0) = false := by simpa using h
  go_enter Tryz.func48, Tryz.ntmps48
  go_wp2
  go_ret
  exact ⟨_, rfl, ⟨w.heap.size, _, rfl, new_blk w _, rfl⟩, (Kp.refl _ w).alloc _⟩

theorem fault_Wrap_some (op nm : ByteArray) (v : Value) (l : List (ByteArray × ByteArray)) (n : Int) (w : World) (hv : IsErr w v l n) :
    Calls Tryz.prog 66 #[.string op, .string nm, v] w fun e w' => ∃ v', e = .returned v' ∧ IsErr w' v' ((op, nm) :: l) n ∧ Kp (fun _ => False) w w' := by
  obtain ⟨t, x, rfl⟩ := hv.iface
  have H := Lib.hid hv
  clear hv
  go_enter Tryz.func66, Tryz.ntmps66
  go_wp2
  go_ret
  exact ⟨_, rfl, ⟨w.heap.size, _, rfl, new_blk w _, H.out.kp ((Kp.refl (fun _ => False) w).alloc _) (FCl.none w)⟩, (Kp.refl _ w).alloc _⟩
theorem fault_Wrap_nil (op nm : ByteArray) (w : World) :
    Calls Tryz.prog 66 #[.string op, .string nm, .nilIface] w fun e w' => e = .returned .nilIface ∧ w = w' := by
  go_enter Tryz.func66, Tryz.ntmps66
  go_wp2
  go_ret
  exact ⟨rfl, rfl⟩
/-- fault.Wrap of an error or none. -/
theorem fault_Wrap (op nm : ByteArray) (v : Value) (E : EV) (w : World) (hv : ErrV w v E) :
    Calls Tryz.prog 66 #[.string op, .string nm, v] w fun e w' => ∃ v', e = .returned v' ∧ ErrV w' v' (wrapE op nm E) ∧ Kp (fun _ => False) w w' := by
  cases E with
  | none =>
    obtain rfl : v = .nilIface := hv
    refine (fault_Wrap_nil op nm w).mono ?_
    rintro e w' ⟨rfl, rfl⟩
    exact ⟨_, rfl, rfl, Kp.refl _ _⟩
  | some p => exact fault_Wrap_some op nm v p.1 p.2 w hv

theorem disk_wrong (i n : Int) (w : World) (hg : Gl w) (h0 : -9223372036854775808 ≤ i) (h1 : i ≤ 9223372036854775807) (h : n ≠ 0) :
    Calls Tryz.prog 114 #[.int .i64 i, .int .i64 n] w fun e w' => ∃ v, e = .returned v ∧ IsErr w' v [(tx [100, 105, 115, 107], tx (Lib.itoa i))] n ∧ Kp (fun _ => False) w w' := by
  have Hg := Lib.hid hg
  clear hg
  go_enter Tryz.func114, Tryz.ntmps114
  go_wp2_with fail
  refine (itoa_any i h0 h1 _ Hg.out).mono ?_
  rintro e w1 ⟨rfl, hk⟩
  go_wp2_with fail
  refine (fault_New _ _ _ _ h).mono ?_
  rintro e w2 ⟨v, rfl, hv, hk2⟩
  go_wp2_with fail
  go_ret
  exact ⟨v, rfl, hv, hk.trans hk2 (Gr.refl _ _)⟩
end Go.Proofs.YthjbpbahcemfgaaGreatDoor
namespace Go.Proofs.YthjbpbahcemfgaaGreatDoor
open Go.RowKit
set_option maxHeartbeats 1000000
set_option maxRecDepth 20000

theorem grown_kp {F : Nat → Prop} {w w' : World} {row : Option Nat} (h : w.grownBy w' row) (hr : ∀ k, row = some k → F k ∨ w.heap.size ≤ k) : Kp F w w' :=
  ⟨h.os, h.tape, h.output, h.size, fun k hk hf => h.block k hk (fun e => by rcases hr k e.symm with h1 | h1; exact hf h1; omega)⟩

theorem Kp.grown {F : Nat → Prop} {w w1 w2 : World} {row : Option Nat} (h : Kp F w w1) (hg : w1.grownBy w2 row) (hr : ∀ k, row = some k → F k ∨ w.heap.size ≤ k) : Kp F w w2 :=
  ⟨hg.os.trans h.os, hg.tape.trans h.tape, hg.output.trans h.output, Nat.le_trans h.size hg.size, fun k hk hf => (hg.block k (Nat.lt_of_lt_of_le hk h.size) (fun e => by rcases hr k e.symm with h1 | h1; exact hf h1; omega)).trans (h.block k hk hf)⟩
theorem bs_app (xs ys : List Int) : bs (xs ++ ys) = bs xs ++ bs ys := by simp [bs]
theorem own_row {w : World} {base n : Nat} {v : Value} {xs : List Int} (h : w.ownsRow base 5 1 v n (bs xs)) (hn : 0 < n) : ∃ g c, v = .slice (some ⟨g, 0, none⟩) n c ∧ base ≤ g ∧ n ≤ c ∧ c ≤ maxLen ∧ Row w g xs ∧ n = xs.length := by
  obtain ⟨h1, ⟨_, h2⟩ | ⟨g, cap, cur, h2, h3, h4, h5, h6, h7, h8⟩⟩ := h
  · omega
  · refine ⟨g, cap, h2, h3, h5, h6, ⟨cur, cur.toList.drop (n * 1), h4, ?_⟩, by simpa using h1.symm⟩
    rw [← h8, List.take_append_drop]

/-- slices.Clone of bytes. -/
theorem clone_any (v : Value) (ys : List Int) (w : World) (hs : Sl w v ys) (hn : ys ≠ []) (hb : ys.length ≤ 140737488355328) :
    Calls Tryz.prog 59 #[v] w fun e w' => ∃ g c, e = .returned (.slice (some ⟨g, 0, none⟩) ys.length c) ∧ ys.length ≤ c ∧ c ≤ maxLen ∧ Row w' g ys ∧ w.heap.size ≤ g ∧ Kp (fun _ => False) w w' := by
  obtain ⟨A, c, rfl, h1, h2, h3⟩ := hs
  obtain ⟨ad, rfl, h4⟩ := h3 hn
  obtain ⟨i, hi, hz, hsz, hby⟩ := info_parts Tryz.infoU8
  have hpos : 0 < ys.length := List.length_pos_iff.2 hn
  have Hn := Lib.hid hn
  clear hn
  have H4 := Lib.hid h4
  clear h4 h3
  have hq := Lib.run_eql_slice_nil (P := Tryz.prog) w 52 5 (some ad) ys.length c 0 0 Tryz.underlying52
  go_enter Tryz.func59, Tryz.ntmps59
  go_wp2_with (at_builtin; refine wpList_append_grows _ rfl _ _ 52 rfl 5 i (.int .u8 0) 1 1 Tryz.underlying52 hi hz hsz hby rfl (by decide) (some ⟨w.heap.size, 0, none⟩) 0 0 [] rfl (by simp) rfl (by simp) ad ys.length c (bs ys) rfl (by simp) (fun j u hj => ((Kp.refl (fun _ => False) w).alloc _).cell (H4.out j u hj) (fun h => h)) (bs_one ys) (by omega) (by omega) (by omega) ?_; intro v' w1 hown hgr)
  go_ret
  obtain ⟨g, c', hv, hg, hc1, hc2, hrow, hlen⟩ := own_row hown (by omega)
  have hk : Kp (fun _ => False) w w1 := ((Kp.refl (fun _ => False) w).alloc _).trans (grown_kp hgr (fun k hk => by cases hk)) (Gr.refl _ _)
  rw [Nat.zero_add] at hv hc1
  exact ⟨g, c', by rw [hv]; rfl, hc1, hc2, hrow, by have := size_alloc w (.cells #[] 5); omega, hk⟩

theorem clone_n (v : Value) (n : Nat) (ys : List Int) (w : World) (hs : Sl w v ys) (hlen : ys.length = n) (hn : 0 < n) (hb : n ≤ 140737488355328) :
    Calls Tryz.prog 59 #[v] w fun e w' => ∃ g c, e = .returned (.slice (some ⟨g, 0, none⟩) n c) ∧ n ≤ c ∧ c ≤ maxLen ∧ Row w' g ys ∧ w.heap.size ≤ g ∧ Kp (fun _ => False) w w' := by
  subst hlen
  exact clone_any v ys w hs (List.length_pos_iff.1 hn) hb

/-- slices.Clip. -/
theorem clip_any (A : Option Addr) (n c : Nat) (w : World) (h : n ≤ c) (_hc : c ≤ maxLen) :
    Calls Tryz.prog 58 #[.slice A n c] w fun e w' => e = .returned (.slice A n n) ∧ w = w' := by
  unfold maxLen at _hc
  go_enter Tryz.func58, Tryz.ntmps58
  go_wp2
  all_goals (go_ret; exact ⟨by simp, rfl⟩)
end Go.Proofs.YthjbpbahcemfgaaGreatDoor
