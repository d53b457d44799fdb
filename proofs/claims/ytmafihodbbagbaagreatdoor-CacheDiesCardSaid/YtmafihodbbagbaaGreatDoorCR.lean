/- One cache, seen from the world ahead of all. -/
import Derived.Test.YtmafihodbbagbaaGreatDoorMade5
import Derived.Test.YtmafihodbbagbaaGreatDoorChg
import Derived.Test.YtmafihodbbagbaaGreatDoorFill
namespace Go.Proofs.YtmafihodbbagbaaGreatDoor
open Go.RowKit
set_option maxHeartbeats 1000000
set_option maxRecDepth 20000

/-- A cache that was made behind w. -/
structure CR (w : World) (bc bj bm bd : Nat) (C : CSt) (F : Nat → Prop) (wr : World) : Prop where
  rep : CRep wr bc bj bm bd C F
  kp : Kp (fun _ => False) w wr
  hi : ∀ k, F k → w.heap.size ≤ k
theorem CR.kp0 {w wr w' : World} {bc bj bm bd : Nat} {C : CSt} {F : Nat → Prop} (h : CR w bc bj bm bd C F wr) (k : Kp (fun _ => False) wr w') : CR w bc bj bm bd C F w' :=
  ⟨h.rep.kp0 k, h.kp.trans k (Gr.refl _ _), h.hi⟩
theorem CR.step {w wr w' : World} {bc bj bm bd : Nat} {C C' : CSt} {F F' : Nat → Prop} (h : CR w bc bj bm bd C F wr) (hr : CRep w' bc bj bm bd C' F') (hk : Kp F wr w') (hg : Gr F F' wr.heap.size) : CR w bc bj bm bd C' F' w' :=
  ⟨hr, h.kp.over hk h.hi, hg.over h.hi h.kp.size⟩
theorem CR.fresh {w wr : World} {bc bj bm bd : Nat} {C : CSt} {F : Nat → Prop} (h : CR w bc bj bm bd C F wr) : ∀ k, F k → k < wr.heap.size := h.rep.disk.lt
/-- A slice in a block of its own behind a step of the cache. -/
theorem and_nat (z : Int) (m : Nat) (hm : m < 9223372036854775808) : ∃ q : Nat, bits .and .i64 z m = (q : Int) ∧ q ≤ m := by
  have h : (BitVec.ofInt 64 z &&& BitVec.ofInt 64 (m : Int)).toNat ≤ m := by
    rw [BitVec.toNat_and]
    refine Nat.le_trans Nat.and_le_right ?_
    rw [BitVec.toNat_ofInt]; omega
  have e : bits .and .i64 z m = IntKind.i64.wrap ((BitVec.ofInt 64 z &&& BitVec.ofInt 64 (m : Int)).toNat : Int) := rfl
  rw [e, IntWalk.i64_in _ (by omega)]
  exact ⟨_, rfl, h⟩
theorem fill_sl {w : World} {g n : Nat} (h : RowE w g (fillRow n)) : Sl w (.slice (some ⟨g, 0, none⟩) 128 128) (fillRow n) := by
  have h1 : (fillRow n).length = 128 := part_len _ _
  have := h.sl (by rw [h1]; simp [maxLen])
  rw [h1] at this; exact this
end Go.Proofs.YtmafihodbbagbaaGreatDoor
