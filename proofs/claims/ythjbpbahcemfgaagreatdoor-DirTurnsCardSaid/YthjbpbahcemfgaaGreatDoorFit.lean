/- Inodes: an inode gets just as many blocks as it needs (fit). -/
import Derived.Test.YthjbpbahcemfgaaGreatDoorFitL
namespace Go.Proofs.YthjbpbahcemfgaaGreatDoor
open Go.RowKit
set_option maxHeartbeats 4000000
set_option maxRecDepth 20000
variable {w : World} {bt bx bc bj bm bd at_ n mat lo nbl : Nat} {C Cc Cd : CSt} {F Fc Fd : Nat → Prop}

/-- In the midst of fit, the memory: the box of the inode, the place of the result. -/
structure FW (w : World) (bx bc bj bm bd mat lo nbl : Nat) (F : Nat → Prop) (own0 : Option Nat) (base : Nat) (Cc : CSt) (Fc : Nat → Prop) (xc : Nd) (A : Option Addr) (c : Nat) (wr : World) : Prop where
  map : MapOn wr bx bc bj bm bd mat lo nbl Cc Fc
  gr : Gr F Fc w.heap.size
  kp : Kp (fun k => F k ∨ own0 = some k) w wr
  box : wr.heap[w.heap.size]? = some (.cells #[.int .i64 xc.kind, .int .i64 xc.size, .slice A xc.l.length c, .int .i64 xc.more] 94 (0, 0))
  own : wr.ownsRow base 3 1 (.slice A xc.l.length c) xc.l.length (ints (natI xc.l))
  ob : ∀ g, (Value.slice A xc.l.length c).ownBlock = some g → ¬ Fc g ∧ (own0 = some g ∨ w.heap.size + 2 ≤ g)
  res : wr.heap[w.heap.size + 1]? = some nz
  n0 : ¬ Fc w.heap.size
  n1 : ¬ Fc (w.heap.size + 1)
variable {own0 : Option Nat} {base : Nat} {xc : Nd} {A : Option Addr} {c : Nat} {wr : World}
theorem FW.cache {w5 : World} (h : FW w bx bc bj bm bd mat lo nbl F own0 base Cc Fc xc A c wr) (hm : MapOn w5 bx bc bj bm bd mat lo nbl Cd Fd) (hk : Kp Fc wr w5) (hg : Gr Fc Fd wr.heap.size) : FW w bx bc bj bm bd mat lo nbl F own0 base Cd Fd xc A c w5 := by
  have hb := lt_blk h.box
  have hr := lt_blk h.res
  refine ⟨hm, h.gr.trans hg h.kp.size, ?_, hk.blk h.box h.n0, own_kp h.own hk (fun g hg' => (h.ob g hg').1), fun g hg' => ⟨hg.not (h.ob g hg').1 (h.own.lt g hg').2, (h.ob g hg').2⟩, hk.blk h.res h.n1, hg.not h.n0 hb, hg.not h.n1 hr⟩
  exact h.kp.trans hk (fun k hk' => by
    rcases h.gr k hk' with h1 | h1
    · exact .inl (.inl h1)
    · exact .inr h1)
theorem FW.setC {w5 : World} (h : FW w bx bc bj bm bd mat lo nbl F own0 base Cc Fc xc A c wr) (hN : NG ≤ w.heap.size) (hbx : bx < w.heap.size) (k : Kp (fun i => i = w.heap.size) wr w5) (xd : Nd) (A' : Option Addr) (c' : Nat)
    (hb : w5.heap[w.heap.size]? = some (.cells #[.int .i64 xd.kind, .int .i64 xd.size, .slice A' xd.l.length c', .int .i64 xd.more] 94 (0, 0)))
    (ho : wr.ownsRow base 3 1 (.slice A' xd.l.length c') xd.l.length (ints (natI xd.l))) (hob : ∀ g, (Value.slice A' xd.l.length c').ownBlock = some g → ¬ Fc g ∧ (own0 = some g ∨ w.heap.size + 2 ≤ g)) :
    FW w bx bc bj bm bd mat lo nbl F own0 base Cc Fc xd A' c' w5 := by
  refine ⟨?_, h.gr, ?_, hb, own_kp ho k (own_ne ho h.box (by decide)), hob, k.blk h.res (by omega), h.n0, h.n1⟩
  · refine ⟨k.blk h.map.blk (by omega), h.map.out, h.map.rep.kp k (fun i hi e => h.n0 (by have : i = w.heap.size := e; exact this ▸ hi)) (fun i e => by have : i = w.heap.size := e; omega), h.map.live, h.map.vb, h.map.n1, h.map.n2, h.map.inb, h.map.far⟩
  · exact h.kp.trans k (fun i e => .inr (by have : i = w.heap.size := e; omega))
/-- The inode's own slice is grown, then stored. -/
theorem FW.app {w8 : World} (h : FW w bx bc bj bm bd mat lo nbl F own0 base Cc Fc xc A c wr) (hN : NG ≤ w.heap.size) (hNb : NG ≤ base) (hbx : bx < w.heap.size) (hk : Kp (fun r => (Value.slice A xc.l.length c).ownBlock = some r) wr w8) (xd : Nd) (A' : Option Addr) (c' : Nat)
    (hxd : xd.kind = xc.kind ∧ xd.size = xc.size ∧ xd.more = xc.more) (ho : w8.ownsRow base 3 1 (.slice A' xd.l.length c') xd.l.length (ints (natI xd.l))) (hob : ∀ g, (Value.slice A' xd.l.length c').ownBlock = some g → ¬ Fc g ∧ (own0 = some g ∨ w.heap.size + 2 ≤ g)) :
    FW w bx bc bj bm bd mat lo nbl F own0 base Cc Fc xd A' c' (w8.setCell ⟨w.heap.size, 2, none⟩ (.slice A' xd.l.length c')) := by
  have hk2 := (Kp.setCell (F := fun i => i = w.heap.size) (p := ⟨w.heap.size, 2, none⟩) (Kp.refl _ w8) (.inl rfl) (.slice A' xd.l.length c'))
  have b8 := hk.blk h.box (fun e => own_ne h.own h.box (by decide) _ e rfl)
  refine ⟨?_, h.gr, ?_, ?_, own_kp ho hk2 (own_ne ho b8 (by decide)), hob, ?_, h.n0, h.n1⟩
  · have m1 := hk.blk h.map.blk (fun e => own_ne h.own h.map.blk (by decide) _ e rfl)
    have r1 := h.map.rep.kp hk (fun i hi e => (h.ob i e).1 hi) (fun i e => by have := (h.own.lt i e).1; omega)
    exact ⟨hk2.blk m1 (by omega), h.map.out, r1.kp hk2 (fun i hi e => h.n0 (by have : i = w.heap.size := e; exact this ▸ hi)) (fun i e => by have : i = w.heap.size := e; omega), h.map.live, h.map.vb, h.map.n1, h.map.n2, h.map.inb, h.map.far⟩
  · refine Kp.trans (h.kp.trans hk (fun r e => ?_)) hk2 (fun i e => .inr (by have : i = w.heap.size := e; omega))
    rcases (h.ob r e).2 with h1 | h1
    · exact .inl (.inr h1)
    · exact .inr (by omega)
  · rw [set_blk b8 2, hxd.1, hxd.2.1, hxd.2.2]; rfl
  · exact hk2.blk (hk.blk h.res (fun e => own_ne h.own h.res (by decide) _ e rfl)) (by omega)
theorem sl_z (W : World) : Sl (W.alloc (zrow 128)) (.slice (some ⟨W.heap.size, 0, none⟩) 128 128) (zs 128) := (rowE_new W 128).sl128 (by simp)
theorem sl_zD (W : World) : Sl (W.alloc (zrow 128)).drew (.slice (some ⟨W.heap.size, 0, none⟩) 128 128) (zs 128) := (sl_z W).kp (Kp.refl (fun _ => False) _).drew (fun _ _ h => h)
/-- In the midst of fit, the cache and the map. -/
structure FP (C Cc : CSt) (mat lo nbl : Nat) (x xc : Nd) (P : Nat → Prop) : Prop where
  fit : Fit C Cc mat lo nbl x xc
  cs : CS P C Cc
  fr : xc.blks.length + frees (bitC Cc mat) nbl = x.blks.length + frees (bitC C mat) nbl
  kd : xc.kind = x.kind
variable {x : Nd} {P : Nat → Prop}
theorem FP.room {W : List Nat} {no : Nat} (h : FP C Cc mat lo nbl x xc P) (hr : Rm C.ch W C.most lo (lo + nbl)) (h32 : xc.blks.length ≤ 33) (hP : ∀ b, P b → b ∈ W ∨ b ∈ xc.blks) (hn : Cc.ch.Nodup) (hno : no ∈ W ∨ no ∈ xc.blks) : no ∈ Cc.ch ∨ Cc.ch.length < Cc.most := by
  rw [h.cs.mo]
  exact hr.room h32 (fun b hb => h.fit.rng b hb) hn (fun a ha => (h.cs.ch a ha).imp id (hP a)) hno
/-- A length out of a cell. -/
def slLen : Option Value → Nat
  | some (.slice _ n _) => n
  | _ => 0
theorem run_hi_i {W : World} {A : Option Addr} {m c k : Nat} (hk : k ≤ c) : (Instr.sliceAt 92 (.slice A m c) none (some (.int .i64 (k : Int))) none).run Tryz.prog W = .ok (.slice A k c) W := by
  have hkc : (k : Int) ≤ (c : Int) := by omega
  have hk0 : (0 : Int) ≤ (k : Int) := by omega
  have hb : ∀ cd, (Instr.sliceBound (.int .i64 (k : Int)) c cd).run Tryz.prog W = .ok k W := fun cd => by
    simp [Instr.sliceBound, asIntOf, hk0, hkc]
  have hE : (sizeOf 3).run Tryz.prog W = .ok 1 W := by kernel_rfl
  have hb0 : ∀ cd, (Instr.sliceBound (.int .i64 0) k cd).run Tryz.prog W = .ok 0 W := fun cd => by simp [Instr.sliceBound, asIntOf]
  cases A <;> simp [Instr.sliceAt, Instr.slice, Instr.sliceBounds, run_underlying Tryz.underlying92, hE, hb, Result.andThen, Addr.add]
theorem own_take {w : World} {base : Nat} {A : Option Addr} {c k : Nat} {l : List Nat} (h : w.ownsRow base 3 1 (.slice A l.length c) l.length (ints (natI l))) (hk : k ≤ l.length) : w.ownsRow base 3 1 (.slice A k c) k (ints (natI (l.take k))) := by
  obtain ⟨h1, ⟨h2, h3⟩ | ⟨g, cap, cur, h2, h3, h4, h5, h6, h7, h8⟩⟩ := h
  · simp only [Value.slice.injEq] at h2
    have hk0 : k = 0 := by omega
    obtain ⟨rfl, _, rfl⟩ := h2
    subst hk0
    exact World.ownsRow_nil _ _ _ _
  · simp only [Value.slice.injEq] at h2
    obtain ⟨rfl, _, rfl⟩ := h2
    refine ⟨?_, .inr ⟨g, c, cur, rfl, h3, h4, by omega, h6, h7, ?_⟩⟩
    · simp [List.length_take]; omega
    · rw [Nat.mul_one] at h8 ⊢
      have : cur.toList.take k = (cur.toList.take l.length).take k := by rw [List.take_take, Nat.min_eq_left hk]
      rw [this, h8]
      simp [ints, natI, List.map_take]
theorem pop_pop (x : Nd) (k : Nat) : (x.pop (k + 1)).pop k = x.pop k := by unfold Nd.pop; simp [List.take_take]
theorem pop_len {x : Nd} {k : Nat} (h : k ≤ x.l.length) : (x.pop k).l.length = k := by simp [Nd.pop]; omega
theorem pop_all {x : Nd} : x.pop x.l.length = x := by unfold Nd.pop; rw [List.take_length]
theorem flip_cs {C : CSt} {mat nbl i : Nat} (hi : i < nbl) : CS (fun no => IsM mat nbl no) C (C.flip mat i) := CS.wr (by unfold IsM nb; omega)
/-- A block is given back. -/
theorem FP.give {xd : Nd} {b : Nat} (h : FP C Cc mat lo nbl x xc P) (hP : ∀ no, IsM mat nbl no → P no) (hp : (∀ a, a ∈ xc.blks ↔ a ∈ xd.blks ∨ a = b) ∧ b ∉ xd.blks ∧ xd.blks.Nodup ∧ xc.blks.length = xd.blks.length + 1) (hbx : b ∈ x.blks) (hkd : xd.kind = xc.kind)
    (hbit : ∀ j, j < nbl → bitC (Cc.flip mat (b - lo)) mat j = if lo + j = b then false else bitC Cc mat j) : FP C (Cc.flip mat (b - lo)) mat lo nbl x xd P := by
  have hbc := (hp.1 b).2 (.inr rfl)
  have hr := h.fit.rng b hbc
  have hb := h.fit.mem hbc
  refine ⟨h.fit.rem hp.1 hp.2.1 hp.2.2.1 hbit hbx, h.cs.trans ((flip_cs (by omega)).mono hP), ?_, hkd.trans h.kd⟩
  have h1 := frees_give (S := bitC Cc mat) (S' := bitC (Cc.flip mat (b - lo)) mat) (n := nbl) (i := b - lo) (by omega) hb (by rw [hbit _ (by omega), if_pos (by omega)]) (fun j hj hne => by rw [hbit j hj, if_neg (by omega)])
  have := h.fr
  have := hp.2.2.2
  omega
/-- A block is taken. -/
theorem FP.take {xd : Nd} {i : Nat} {Q : Nat → Prop} (h : FP C Cc mat lo nbl x xc P) (hPQ : ∀ no, P no → Q no) (hQ : ∀ no, IsM mat nbl no → Q no) (hi : i < nbl) (hfree : bitC Cc mat i = false) (hp : (∀ a, a ∈ xd.blks ↔ a ∈ xc.blks ∨ a = lo + i) ∧ xd.blks.Nodup ∧ xd.blks.length = xc.blks.length + 1) (hkd : xd.kind = xc.kind)
    (hbit : ∀ j, j < nbl → bitC (Cc.flip mat i) mat j = if lo + j = lo + i then true else bitC Cc mat j) (hcs : CS Q (Cc.flip mat i) Cd) (hv : ∀ j, j < nbl → bitC Cd mat j = bitC (Cc.flip mat i) mat j) : FP C Cd mat lo nbl x xd Q := by
  have hb2 : ∀ j, j < nbl → bitC Cd mat j = if lo + j = lo + i then true else bitC Cc mat j := fun j hj => (hv j hj).trans (hbit j hj)
  refine ⟨h.fit.add hp.1 hp.2.1 (by omega) (by rw [show lo + i - lo = i by omega]; exact hfree) hb2, ((h.cs.mono hPQ).trans ((flip_cs hi).mono hQ)).trans hcs, ?_, hkd.trans h.kd⟩
  have h1 := frees_upd (S := bitC Cc mat) (n := nbl) (i := i) hi hfree (bitC Cd mat) (by rw [hb2 _ hi, if_pos rfl]) (fun j hj hne => by rw [hb2 j hj, if_neg (by omega)])
  have := h.fr
  have := hp.2.2
  omega

theorem give_bit (hm : MapOn wr bx bc bj bm bd mat lo nbl Cc Fc) {b : Nat} (hr : lo ≤ b ∧ b < lo + nbl) (hb : bitC Cc mat (b - lo) = true) : ∀ j, j < nbl → bitC (Cc.flip mat (b - lo)) mat j = if lo + j = b then false else bitC Cc mat j := fun j hj => by
  rw [hm.bit (by omega)]
  by_cases e : lo + j = b
  · rw [if_pos (by omega), if_pos e, hb]; rfl
  · rw [if_neg (by omega), if_neg e]
theorem take_bit (hm : MapOn wr bx bc bj bm bd mat lo nbl Cc Fc) {i : Nat} (hi : i < nbl) (hb : bitC Cc mat i = false) : ∀ j, j < nbl → bitC (Cc.flip mat i) mat j = if lo + j = lo + i then true else bitC Cc mat j := fun j hj => by
  rw [hm.bit hi]
  by_cases e : j = i
  · rw [if_pos e, if_pos (by omega), hb]; rfl
  · rw [if_neg e, if_neg (by omega)]
theorem alloc_Give_b (hm : MapOn wr bx bc bj bm bd mat lo nbl Cc Fc) {b : Nat} (hr : lo ≤ b ∧ b < lo + nbl) (hb : bitC Cc mat (b - lo) = true) (hroom : mat + (b - lo) / 1024 ∈ Cc.ch ∨ Cc.ch.length < Cc.most) :
    Calls Tryz.prog 92 #[.pointer (some ⟨bx, 0, none⟩), .int .i64 (b : Int)] wr fun e w' => e = .returned .nilIface ∧ ∃ F', MapOn w' bx bc bj bm bd mat lo nbl (Cc.flip mat (b - lo)) F' ∧ Kp Fc wr w' ∧ Gr Fc F' wr.heap.size := by
  have h := alloc_Give_ok hm (b - lo) (by omega) hb hroom
  rw [show lo + (b - lo) = b by omega] at h
  refine h.mono ?_
  rintro e w' ⟨rfl, F', hr', hk, hg⟩
  exact ⟨rfl, F', hm.flip (by omega) hr' hk hg, hk, hg⟩

/-- What fit leaves. -/
structure FitR (w : World) (bx bc bj bm bd mat lo nbl : Nat) (C : CSt) (F : Nat → Prop) (own0 : Option Nat) (base : Nat) (x : Nd) (sz : Nat) (x' : Nd) (A' : Option Addr) (c' : Nat) (C1 : CSt) (F' : Nat → Prop) (w' : World) : Prop where
  ok : NdOk lo nbl x'
  kd : x'.kind = x.kind
  sz : x'.size = sz
  pre : ∀ i, i < x.l.length → i < x'.l.length → x'.l[i]? = x.l[i]?
  map : MapOn w' bx bc bj bm bd mat lo nbl C1 F'
  fit : Fit C C1 mat lo nbl x x'
  cs : CS (fun no => IsM mat nbl no ∨ (no ∈ x'.blks ∧ no ∉ x.l.take x'.l.length)) C C1
  own : w'.ownsRow base 3 1 (.slice A' x'.l.length c') x'.l.length (ints (natI x'.l))
  kp : Kp (fun k => F k ∨ own0 = some k) w w'
  gr : Gr F F' w.heap.size
  ob : ∀ g, (Value.slice A' x'.l.length c').ownBlock = some g → ¬ F' g
  mr : x'.more = 0 ∨ x.more = 0 ∨ x'.more = x.more
def FitPost (w : World) (bx bc bj bm bd mat lo nbl : Nat) (C : CSt) (F : Nat → Prop) (own0 : Option Nat) (base : Nat) (x : Nd) (sz : Nat) (e : Ending) (w' : World) : Prop :=
  ∃ x' A' c' C1 F', e = .returned (.tuple #[.agg #[.int .i64 x'.kind, .int .i64 x'.size, .slice A' x'.l.length c', .int .i64 x'.more], .nilIface]) ∧ FitR w bx bc bj bm bd mat lo nbl C F own0 base x sz x' A' c' C1 F' w'
theorem inode_fit (hb : TBlk w bt bc bx at_ n) (hbt : ¬ F bt) (hm : MapOn w bx bc bj bm bd mat lo nbl C F) (hN : NG ≤ w.heap.size) (hNb : NG ≤ base) (hbs : base ≤ w.heap.size) (g : Geo at_ n mat lo nbl C.blocks) (hown : w.ownsRow base 3 1 (.slice A x.l.length c) x.l.length (ints (natI x.l)))
    (hob : ∀ g, (Value.slice A x.l.length c).ownBlock = some g → ¬ F g) (hx : NdOk lo nbl x) (hbit : ∀ b ∈ x.blks, bitC C mat (b - lo) = true) (sz : Nat) (hsz : sz ≤ 4000) (hz0 : x.kind = 0 → sz = 0) (hfree : bks sz ≤ x.blks.length + frees (bitC C mat) nbl)
    {W : List Nat} (hr : Rm C.ch W C.most lo (lo + nbl)) (hW : ∀ b, IsM mat nbl b → b ∈ W) :
    Calls Tryz.prog 51 #[.pointer (some ⟨bt, 0, none⟩), .agg #[.int .i64 x.kind, .int .i64 x.size, .slice A x.l.length c, .int .i64 x.more], .int .i64 sz] w (FitPost w bx bc bj bm bd mat lo nbl C F (Value.slice A x.l.length c).ownBlock base x sz) := by
  have t0 := cell_blk hb 0
  have t1 := cell_blk hb 1
  simp at t0 t1
  have hbtl := lt_blk hb
  have hbxl := lt_blk hm.blk
  have g1 := g.g1
  have g2 := g.g2
  have g3 := g.g3
  have g4 := g.g4
  have g5 := g.g5.1
  have hnb : ∀ i, i < nbl → mat + i / 1024 ∈ W := fun i hi => hW _ (by unfold IsM nb; omega)
  obtain ⟨i0, hiI, hz, hszI, hby⟩ := info_parts Tryz.infoInt
  have h32 := hx.len32
  have T0 := Lib.hid t0
  have T1 := Lib.hid t1
  have HM := Lib.hid hm
  have HX := Lib.hid hx
  have HR := Lib.hid hr
  have HW := Lib.hid hW
  have Hnb := Lib.hid hnb
  have Hown := Lib.hid hown
  have Hob := Lib.hid hob
  have Hfree := Lib.hid hfree
  have HD := Lib.hid (fun W : World => inode_data (w := W) sz (by omega))
  have Hst := Lib.hid (show FP C C mat lo nbl x x (fun no => IsM mat nbl no) from ⟨fit_start hx.rng hbit hx.nd, CS.refl _ _, rfl, rfl⟩)
  have hN32 : dat sz ≤ 32 := by unfold dat; omega
  have Hdat := Lib.hid (show 1024 < sz ↔ 8 < dat sz by unfold dat; omega)
  have Hbks := Lib.hid (show bks sz = dat sz + if 8 < dat sz then 1 else 0 by unfold bks; simp only [Hdat.out])
  have Hbn := Lib.hid (show ¬ (F bt ∨ (Value.slice A x.l.length c).ownBlock = some bt) from fun h => by rcases h with h | h; exact hbt h; exact own_ne hown hb (by decide) bt h rfl)
  have Hz0 := Lib.hid hz0
  clear hb hm hx hr hW hnb hown hob hfree t0 t1 hbit g hz0
  generalize hNn : dat sz = N at *
  have HN := Lib.hid hNn
  clear hNn
  go_enter Tryz.func51, Tryz.ntmps51
  go_upto_region 1 with fail
  have hka : Kp (fun _ => False) w ((w.alloc (.cells #[.int .i64 x.kind, .int .i64 x.size, .slice A x.l.length c, .int .i64 x.more] 94)).alloc nz) := ((Kp.refl _ w).alloc _).alloc _
  have Hfw := Lib.hid (show FW w bx bc bj bm bd mat lo nbl F (Value.slice A x.l.length c).ownBlock base C F x A c ((w.alloc (.cells #[.int .i64 x.kind, .int .i64 x.size, .slice A x.l.length c, .int .i64 x.more] 94)).alloc nz) from by
    have hF : ∀ k, F k → k < w.heap.size := HM.out.rep.disk.lt
    have e1 := size_alloc w (.cells #[.int .i64 x.kind, .int .i64 x.size, .slice A x.l.length c, .int .i64 x.more] 94)
    refine ⟨HM.out.step (HM.out.rep.kp0 hka) (hka.mono (fun _ h => h.elim)) (Gr.refl _ _) rfl HM.out.live HM.out.vb, Gr.refl _ _, hka.mono (fun _ h => h.elim), ?_, own_kp0 Hown.out hka, fun g hg => ⟨Hob.out g hg, .inl hg⟩, ?_, fun h => by have := hF _ h; omega, fun h => by have := hF _ h; omega⟩
    · exact ((Kp.refl (fun _ => False) _).alloc nz).blk (new_blk w _) (fun h => h)
    · rw [← e1]; exact new_blk _ nz)
  clear hka HM Hown Hob
  unfold nz at Hfw
  generalize ((w.alloc (.cells #[.int .i64 x.kind, .int .i64 x.size, .slice A x.l.length c, .int .i64 x.more] 94)).alloc (.cells #[.int .i64 0, .int .i64 0, .slice none 0 0, .int .i64 0] 94)) = w0 at *
  go_wp2_with fail
  refine (HD.out _).mono ?_
  rintro e w1 ⟨rfl, rfl⟩
  go_wp2_with fail
  go_loopw [] (fun wr => ∃ (k : Nat) (Cc : CSt) (Fc : Nat → Prop), k ≤ x.l.length ∧ (N ≤ k ∨ k = x.l.length) ∧ FW w bx bc bj bm bd mat lo nbl F (Value.slice A x.l.length c).ownBlock base Cc Fc (x.pop k) A c wr ∧ FP C Cc mat lo nbl x (x.pop k) (fun no => IsM mat nbl no)) (fun wr => slLen (wr.cell? ⟨w.heap.size, 2, none⟩))
  case atStart => exact ⟨x.l.length, C, F, Nat.le_refl _, .inr rfl, by rw [pop_all]; exact Hfw.out, by rw [pop_all]; exact Hst.out⟩
  case round =>
    obtain ⟨k, Cc, Fc, hk, hkN, hfw, hfp⟩ := hrel
    have Hfw1 := Lib.hid hfw
    have Hfp1 := Lib.hid hfp
    have hlk := pop_len hk
    have b2 : wr.cell? ⟨w.heap.size, 2, none⟩ = some (.slice A k c) := by rw [cell_blk hfw.box]; simp [hlk]
    have hkc : k ≤ c := by
      obtain ⟨A', c', e, q1, _⟩ := (own_slI hfw.own).1
      simp only [Value.slice.injEq] at e
      obtain ⟨_, _, rfl⟩ := e
      rw [natI_length, hlk] at q1
      exact q1
    clear hfw hfp hlk Hfw Hst
    by_cases hlt : N < k
    · obtain ⟨k', rfl⟩ : ∃ k', k = k' + 1 := ⟨k - 1, by omega⟩
      have hlt' : (N : Int) < ((k' : Int) + 1) := by omega
      go_upto_region 4 with fail
      obtain ⟨b, hb⟩ : ∃ b, x.l[k']? = some b := ⟨x.l[k']'(by omega), List.getElem?_eq_getElem _⟩
      have hbx := Nd.mem_l (List.mem_of_getElem? hb)
      have hpm := pop_mem (x := x.pop (k' + 1)) (k := k') (b := b) (by rw [pop_len hk]) (by show (x.l.take (k' + 1))[k']? = some b; rw [List.getElem?_take, if_pos (by omega)]; exact hb) Hfp1.out.fit.nd
      rw [pop_pop] at hpm
      have hbc := (hpm.1 b).2 (.inr rfl)
      have hrb := Hfp1.out.fit.rng b hbc
      have hbt1 := Hfp1.out.fit.mem hbc
      have hx33 : (x.pop (k' + 1)).blks.length ≤ 33 := by rw [Nd.blks_len, pop_len hk]; split <;> omega
      have HG := Lib.hid (fun (W : World) (hk : Kp (fun _ => False) wr W) => alloc_Give_b (Hfw1.out.map.step (Hfw1.out.map.rep.kp0 hk) (hk.mono (fun _ h => h.elim)) (Gr.refl _ _) rfl Hfw1.out.map.live Hfw1.out.map.vb) hrb hbt1 (Hfp1.out.room HR.out hx33 (fun b hb => .inl (HW.out b hb)) Hfw1.out.map.rep.nd (.inl (Hnb.out _ (by omega)))))
      have Hbit := Lib.hid (give_bit Hfw1.out.map hrb hbt1)
      have Hfp2 := Lib.hid (Hfp1.out.give (fun _ h => h) hpm hbx rfl Hbit.out)
      obtain ⟨ad, rfl, h4⟩ : ∃ ad, A = some ad ∧ wr.cell? (ad.add k') = some (.int .i64 (b : Int)) := by
        obtain ⟨A', c', e, _, _, h3⟩ := (own_slI Hfw1.out.own).1
        obtain ⟨ad, e2, h4⟩ := h3 (by intro h0; have h0 := congrArg List.length h0; rw [natI_length, pop_len hk] at h0; simp only [List.length_nil] at h0; omega)
        simp only [Value.slice.injEq] at e
        obtain ⟨rfl, _, _⟩ := e
        exact ⟨ad, e2, h4 k' _ (by rw [ints_natI]; show ((x.l.take (k' + 1))[k']?).map _ = _; rw [List.getElem?_take, if_pos (by omega), hb]; rfl)⟩
      have hadF : ¬ Fc ad.block := (Hfw1.out.ob ad.block rfl).1
      have hbtF : ¬ Fc bt := Hfw1.out.gr.not hbt hbtl
      have hl1 : ∀ W : World, Kp Fc wr W → W.cell? ⟨bt, 1, none⟩ = some (.pointer (some ⟨bx, 0, none⟩)) := fun W hk => hk.cell (Hfw1.out.kp.cell T1.out Hbn.out) hbtF
      have hl2 : ∀ W : World, Kp Fc wr W → W.cell? ⟨w.heap.size, 2, none⟩ = some (.slice (some ad) (k' + 1) c) := fun W hk => hk.cell b2 Hfw1.out.n0
      have hl3 : ∀ W : World, Kp Fc wr W → W.cell? (ad.add k') = some (.int .i64 (b : Int)) := fun W hk => hk.cell h4 (by rw [add_block]; exact hadF)
      have hs1 : Kp Fc wr wr := Kp.refl _ _
      have Hb2 := Lib.hid b2
      clear hb hbx hpm hbc hbt1 h4 b2
      have hkk : (k' : Int) < (k' : Int) + 1 := by omega
      go_region_held_law (fun W => Kp Fc wr W)
        (first | exact Kp.refl _ _ | assumption | exact Kp.drew (by assumption))
        (first | (go_at_call 92; refine (HG.out _ (by first | exact Kp.refl _ _ | exact (Kp.refl _ _).drew)).mono ?_; rintro e w5 ⟨rfl, F5, hm5, hk5, hg5⟩; have hk5' : Kp Fc wr w5 := Kp.trans (F1 := Fc) (by first | exact Kp.refl _ _ | exact (Kp.refl _ _).drew) hk5 (Gr.refl _ _)))
      have Hfw5 := Lib.hid (Hfw1.out.cache hm5 (show Kp Fc wr w5 from hk5') hg5)
      clear hm5 hk5 hk5' hg5 hl1 hl2 hl3 hs1 hkk HG Hfw1 Hfp1
      have b2 : w5.cell? ⟨w.heap.size, 2, none⟩ = some (.slice (some ad) (k' + 1) c) := by rw [cell_blk Hfw5.out.box]; simp [pop_len hk]
      have f2 := frozen_blk Hfw5.out.box 2
      have hkc' : k' ≤ c := by omega
      go_wp2_with (first | ((with_reducible refine at_slice rfl ?_); refine wpList_slice_run rfl _ _ _ _ _ rfl _ _ _ _ _ rfl rfl rfl rfl (run_hi_i hkc') ?_))
      have hset := (Kp.setCell (F := fun i => i = w.heap.size) (p := ⟨w.heap.size, 2, none⟩) (Kp.refl _ w5) (.inl rfl) (.slice (some ad) k' c))
      have hown5 : w5.ownsRow base 3 1 (.slice (some ad) (x.pop k').l.length c) (x.pop k').l.length (ints (natI (x.pop k').l)) := by
        have h1 := own_take Hfw5.out.own (k := k') (by rw [pop_len hk]; omega)
        rw [pop_len (show k' ≤ x.l.length by omega)]
        rw [show ((x.pop (k' + 1)).l.take k') = (x.pop k').l from by show (x.l.take (k' + 1)).take k' = x.l.take k'; rw [List.take_take]; congr 1; omega] at h1
        exact h1
      have Hfw6 := Lib.hid (Hfw5.out.setC hN hbxl hset (x.pop k') (some ad) c (by rw [set_blk Hfw5.out.box 2]; rw [pop_len (show k' ≤ x.l.length by omega)]; rfl) hown5 (fun g hg => Hfw5.out.ob g hg))
      have hms : (w5.setCell ⟨w.heap.size, 2, none⟩ (.slice (some ad) k' c)).cell? ⟨w.heap.size, 2, none⟩ = some (.slice (some ad) k' c) := by rw [cell_blk Hfw6.out.box]; simp [pop_len (show k' ≤ x.l.length by omega)]
      have Hms := Lib.hid hms
      clear hset hown5 b2 f2 hms Hfw5
      generalize w5.setCell ⟨w.heap.size, 2, none⟩ (.slice (some ad) k' c) = w6 at *
      go_roundw
      case rel => exact ⟨k', _, F5, by omega, .inl (by omega), Hfw6.out, Hfp2.out⟩
      case measure => first | (simp only [Hms.out, Hb2.out, slLen]; omega) | (rw [Hms.out, Hb2.out]; simp [slLen])
    · have hge : ¬ (N : Int) < (k : Int) := by omega
      have hkm : k = min x.l.length N := by omega
      have hmf : ∀ i, i < k → (x.pop k).l[i]? = x.l[i]? := fun i hi => by show (x.l.take k)[i]? = _; rw [List.getElem?_take, if_pos hi]
      have Hmf := Lib.hid hmf
      have Hkm := Lib.hid hkm
      clear hkm hmf hkN
      have b3 : wr.cell? ⟨w.heap.size, 3, none⟩ = some (.int .i64 x.more) := by rw [cell_blk Hfw1.out.box]; rfl
      rcases (show (N ≤ 8 ∧ x.more ≠ 0) ∨ (N ≤ 8 ∧ x.more = 0) ∨ ¬ N ≤ 8 by omega) with hmg | hmg | hmg
      case' inl =>
        have hN8 : (N : Int) ≤ 8 := by omega
        have hm0 : (0 : Int) < (x.more : Int) := by omega
        go_upto_region 9 with fail
        have hmx : (x.pop k).more ≠ 0 := hmg.2
        have hpm := noMore_mem hmx Hfp1.out.fit.nd
        have hbc := Nd.mem_more hmx
        have hrb := Hfp1.out.fit.rng _ hbc
        have hbt1 := Hfp1.out.fit.mem hbc
        have hx33 : (x.pop k).blks.length ≤ 33 := by rw [Nd.blks_len, pop_len hk]; split <;> omega
        have HG := Lib.hid (fun (W : World) (hk : Kp (fun _ => False) wr W) => alloc_Give_b (Hfw1.out.map.step (Hfw1.out.map.rep.kp0 hk) (hk.mono (fun _ h => h.elim)) (Gr.refl _ _) rfl Hfw1.out.map.live Hfw1.out.map.vb) hrb hbt1 (Hfp1.out.room HR.out hx33 (fun b hb => .inl (HW.out b hb)) Hfw1.out.map.rep.nd (.inl (Hnb.out _ (by omega)))))
        have Hbit := Lib.hid (give_bit Hfw1.out.map hrb hbt1)
        have Hfp2 := Lib.hid (Hfp1.out.give (fun _ h => h) hpm (Nd.mem_more (x := x) hmg.2) rfl Hbit.out)
        have hbtF : ¬ Fc bt := Hfw1.out.gr.not hbt hbtl
        have hl1 : ∀ W : World, Kp Fc wr W → W.cell? ⟨bt, 1, none⟩ = some (.pointer (some ⟨bx, 0, none⟩)) := fun W hk => hk.cell (Hfw1.out.kp.cell T1.out Hbn.out) hbtF
        have hl2 : ∀ W : World, Kp Fc wr W → W.cell? ⟨w.heap.size, 3, none⟩ = some (.int .i64 x.more) := fun W hk => hk.cell b3 Hfw1.out.n0
        have hs1 : Kp Fc wr wr := Kp.refl _ _
        clear hpm hbc hbt1 b2 b3
        have HG : Hid (∀ (W : World), Kp (fun _ => False) wr W → Calls Tryz.prog 92 #[.pointer (some ⟨bx, 0, none⟩), .int .i64 (x.more : Int)] W fun e w' => e = .returned .nilIface ∧ ∃ F', MapOn w' bx bc bj bm bd mat lo nbl (Cc.flip mat (x.more - lo)) F' ∧ Kp Fc W w' ∧ Gr Fc F' W.heap.size) := HG
        go_region_held_law (fun W => Kp Fc wr W)
          (first | exact Kp.refl _ _ | assumption | exact Kp.drew (by assumption))
          (first | (go_at_call 92; refine (HG.out _ (by first | exact Kp.refl _ _ | exact (Kp.refl _ _).drew)).mono ?_; rintro e w5 ⟨rfl, F5, hm5, hk5, hg5⟩; have hk5' : Kp Fc wr w5 := Kp.trans (F1 := Fc) (by first | exact Kp.refl _ _ | exact (Kp.refl _ _).drew) hk5 (Gr.refl _ _)))
        have Hfw5 := Lib.hid (Hfw1.out.cache hm5 (show Kp Fc wr w5 from hk5') hg5)
        clear hm5 hk5 hk5' hg5 hl1 hl2 hs1 HG Hfw1 Hfp1
        have b3 : w5.cell? ⟨w.heap.size, 3, none⟩ = some (.int .i64 x.more) := by rw [cell_blk Hfw5.out.box]; rfl
        have f3 := frozen_blk Hfw5.out.box 3
        go_upto_region 13 with fail
        have hset := (Kp.setCell (F := fun i => i = w.heap.size) (p := ⟨w.heap.size, 3, none⟩) (Kp.refl _ w5) (.inl rfl) (.int .i64 0))
        have HFW := Lib.hid (Hfw5.out.setC hN hbxl hset ((x.pop k).noMore) A c (by rw [set_blk Hfw5.out.box 3]; rfl) Hfw5.out.own (fun g hg => Hfw5.out.ob g hg))
        have HFP := Lib.hid (show FP C (Cc.flip mat (x.more - lo)) mat lo nbl x ((x.pop k).noMore) (fun no => IsM mat nbl no) from Hfp2.out)
        have Hml := Lib.hid (show (((x.pop k).noMore).more ≠ 0 → 8 < N) ∧ (8 < N → ((x.pop k).noMore).more = x.more) from ⟨fun h => absurd rfl h, fun h => absurd hmg.1 (Nat.not_le.2 h)⟩)
        have Hxl := Lib.hid (show ((x.pop k).noMore).l = (x.pop k).l from rfl)
        clear hset b3 f3 Hfw5 Hfp2 hm0 hN8 hmx
        generalize hxd : (x.pop k).noMore = xd at HFW HFP Hml Hxl
        clear hxd
        generalize w5.setCell ⟨w.heap.size, 3, none⟩ (.int .i64 0) = wd at *
        generalize Cc.flip mat (x.more - lo) = Ce at *
        clear Hbit hbtF hrb hx33
      case' inr.inl =>
        have hN8 : (N : Int) ≤ 8 := by omega
        have hm0 : ¬ (0 : Int) < (x.more : Int) := by omega
        go_upto_region 13 with fail
        have HFW := Hfw1
        have HFP := Hfp1
        have Hml := Lib.hid (show ((x.pop k).more ≠ 0 → 8 < N) ∧ (8 < N → (x.pop k).more = x.more) from ⟨fun h => absurd hmg.2 h, fun _ => rfl⟩)
        obtain ⟨xd, hxd⟩ : ∃ xd, xd = x.pop k := ⟨_, rfl⟩
        have Hxl := Lib.hid (show xd.l = (x.pop k).l by rw [hxd])
        rw [← hxd] at HFW HFP Hml
        clear b2 b3 hm0 hN8 Hfw1 Hfp1 hxd
        generalize wr = wd at *
        generalize Cc = Ce at *
        generalize Fc = F5 at *
      case' inr.inr =>
        have hN8 : ¬ (N : Int) ≤ 8 := by omega
        go_upto_region 13 with fail
        have HFW := Hfw1
        have HFP := Hfp1
        have Hml := Lib.hid (show ((x.pop k).more ≠ 0 → 8 < N) ∧ (8 < N → (x.pop k).more = x.more) from ⟨fun h => by omega, fun _ => rfl⟩)
        obtain ⟨xd, hxd⟩ : ∃ xd, xd = x.pop k := ⟨_, rfl⟩
        have Hxl := Lib.hid (show xd.l = (x.pop k).l by rw [hxd])
        rw [← hxd] at HFW HFP Hml
        clear b2 b3 hN8 Hfw1 Hfp1 hxd
        generalize wr = wd at *
        generalize Cc = Ce at *
        generalize Fc = F5 at *
      all_goals
        clear hmg
        have hkN : k ≤ N := by omega
        go_loopw [] (fun wr => ∃ (xc : Nd) (Cc : CSt) (Fc : Nat → Prop) (A' : Option Addr) (c' : Nat), FW w bx bc bj bm bd mat lo nbl F (Value.slice A x.l.length c).ownBlock base Cc Fc xc A' c' wr ∧ FP C Cc mat lo nbl x xc (fun no => IsM mat nbl no ∨ (no ∈ xc.blks ∧ no ∉ x.l.take k)) ∧ k ≤ xc.l.length ∧ xc.l.length ≤ N ∧ (∀ i, i < k → xc.l[i]? = x.l[i]?) ∧ ((xc.more ≠ 0 → 8 < N) ∧ (8 < N → xc.more = x.more))) (fun wr => N - slLen (wr.cell? ⟨w.heap.size, 2, none⟩))
        case atStart => exact ⟨xd, Ce, F5, A, c, HFW.out, ⟨HFP.out.fit, HFP.out.cs.mono (fun _ h => .inl h), HFP.out.fr, HFP.out.kd⟩, by rw [Hxl.out, pop_len hk]; exact Nat.le_refl _, by rw [Hxl.out, pop_len hk]; exact hkN, by rw [Hxl.out]; exact Hmf.out, Hml.out⟩
        case round =>
          clear HFW HFP Hml Hxl
          obtain ⟨xc, Cd, Fd, A1, c1, hfw, hfp, hkl, hlN, hpre, hml⟩ := hrel
          have Hfw1 := Lib.hid hfw
          have Hfp1 := Lib.hid hfp
          have Hpre := Lib.hid hpre
          have Hml := Lib.hid hml
          have t1 := hfw.kp.cell T1.out Hbn.out
          have t0 := Lib.hid (hfw.kp.cell T0.out Hbn.out)
          have b2 : wr.cell? ⟨w.heap.size, 2, none⟩ = some (.slice A1 xc.l.length c1) := by rw [cell_blk hfw.box]; rfl
          have Hb2 := Lib.hid b2
          clear hfw hfp hpre hml
          by_cases hlt2 : xc.l.length < N
          · have hlt2' : (xc.l.length : Int) < (N : Int) := by omega
            have hx33 : xc.blks.length + 1 ≤ 33 := by rw [Nd.blks_len]; split <;> omega
            obtain ⟨i, hi, hi0, hil⟩ := frees_pos (S := bitC Cd mat) (n := nbl) (by
              have h1 := Hfp1.out.fr
              have h2 := Hfree.out
              have h3 := Hbks.out
              have h4 := Hml.out.1
              rw [Nd.blks_len] at h1
              by_cases hm : xc.more = 0
              · rw [if_pos hm] at h1; omega
              · rw [if_neg hm] at h1
                rw [if_pos (h4 hm)] at h3
                omega)
            obtain ⟨b, hb⟩ : ∃ b, b = lo + i := ⟨_, rfl⟩
            have HT := Lib.hid (show Calls Tryz.prog 93 #[.pointer (some ⟨bx, 0, none⟩)] wr fun e w' => e = .returned (.tuple #[.int .i64 (b : Int), .nilIface]) ∧ ∃ F', MapOn w' bx bc bj bm bd mat lo nbl (Cd.flip mat i) F' ∧ Kp Fd wr w' ∧ Gr Fd F' wr.heap.size from by
              rw [hb]
              refine (alloc_Take_ok Hfw1.out.map i hi hi0 hil (Hfp1.out.room HR.out (by omega) (fun b hb => hb.imp (HW.out b) (fun h => h.1)) Hfw1.out.map.rep.nd (.inl (Hnb.out _ hi)))).mono ?_
              rintro e w' ⟨rfl, F', hr', hk, hg⟩
              exact ⟨rfl, F', Hfw1.out.map.flip hi hr' hk hg, hk, hg⟩)
            have hfresh := Hfp1.out.fit.fresh hi hi0
            rw [← hb] at hfresh
            have Hnew := Lib.hid (show b ∉ x.l.take k from fun hm => hfresh (by
              obtain ⟨j, hj⟩ := List.mem_iff_getElem?.1 hm
              rw [List.getElem?_take] at hj
              split at hj
              · rename_i hjk
                exact Nd.mem_l (List.mem_of_getElem? ((Hpre.out j hjk).trans hj))
              · cases hj))
            have Hpm := Lib.hid (push_mem hfresh Hfp1.out.fit.nd)
            have Hbit := Lib.hid (take_bit Hfw1.out.map hi hi0)
            have hbr : lo ≤ b ∧ b < lo + nbl := by omega
            have Hb := Lib.hid hb
            have Hi0 := Lib.hid hi0
            have hbtF : ¬ Fd bt := Hfw1.out.gr.not hbt hbtl
            clear hb hi0 hil hfresh
            go_wp2_with fail
            refine HT.out.mono ?_
            rintro e w5 ⟨rfl, F6, hm5, hk5, hg5⟩
            have Hfw5 := Lib.hid (Hfw1.out.cache hm5 hk5 hg5)
            have hbtF6 : ¬ F6 bt := hg5.not hbtF (Nat.lt_of_lt_of_le hbtl Hfw1.out.kp.size)
            have T05 := Lib.hid (hk5.cell t0.out hbtF)
            clear hm5 hk5 hg5 t1 t0 HT b2
            go_upto_region 16 with fail
            have hbC : b < C.blocks := by omega
            have hCb : (Cd.flip mat i).blocks = C.blocks := Hfp1.out.cs.bl
            have HWr := Lib.hid (fun (W : World) (hk : Kp (fun _ => False) w5 W) (v : Value) (hv : Sl W v (zs 128)) => cache_Write_ok (Hfw5.out.map.rep.kp0 hk) Hfw5.out.map.live (b : Int) 0 (by omega) (by rw [hCb]; omega) (by omega) v (zs 128) hv (by simp) (by
              rw [Int.toNat_natCast]
              have hcs : CS (fun no => IsM mat nbl no ∨ no ∈ (xc.push b).blks) C (Cd.flip mat i) := (Hfp1.out.cs.mono (fun no h => h.imp id (fun h => (Hpm.out.1 no).2 (.inl h.1)))).trans ((flip_cs hi).mono (fun _ h => .inl h))
              have hmo : (Cd.flip mat i).most = C.most := hcs.mo
              rw [hmo]
              exact HR.out.room (X := (xc.push b).blks) (by rw [Hpm.out.2.2]; exact hx33) (fun a ha => by rcases (Hpm.out.1 a).1 ha with h | rfl; exact Hfp1.out.fit.rng a h; exact hbr) Hfw5.out.map.rep.nd (fun a ha => (hcs.ch a ha).imp id (fun h => h.imp (HW.out a) id)) (.inr ((Hpm.out.1 b).2 (.inr rfl)))))
            have hl0 : ∀ W : World, Kp F6 w5 W → W.cell? ⟨bt, 0, none⟩ = some (.pointer (some ⟨bc, 0, none⟩)) := fun W hk => hk.cell T05.out hbtF6
            have hm7 := make128
            have hs5 : Kp F6 w5 w5 := Kp.refl _ _
            clear hCb
            go_region_held_law (fun W => Kp F6 w5 W)
              (first | exact Kp.refl _ _ | assumption | exact Kp.drew (by assumption) | exact Kp.alloc (by assumption) _ | exact Kp.drew (Kp.alloc (by assumption) _))
              (first | (go_at_call 94; refine (HWr.out _ (by repeat (first | exact Kp.refl _ _ | refine Kp.drew ?_ | refine Kp.alloc ?_ _)) _ (by first | exact sl_z _ | exact sl_zD _)).mono ?_; rintro e w7 ⟨rfl, F7, hr7, hk7, hg7⟩; have hk7' : Kp F6 w5 w7 := Kp.trans (F1 := F6) (by repeat (first | exact Kp.refl _ _ | refine Kp.drew ?_ | refine Kp.alloc ?_ _)) hk7 (Gr.refl _ _); have hg7' : Gr F6 F7 w5.heap.size := hg7.mono (Kp.size (F := F6) (by repeat (first | exact Kp.refl _ _ | refine Kp.drew ?_ | refine Kp.alloc ?_ _)))))
            rw [Int.toNat_natCast] at hr7
            have hkw : Kp F6 w5 w7 := hk7'
            have Hfw7 := Lib.hid (Hfw5.out.cache (Hfw5.out.map.step hr7 hkw hg7' rfl Hfw5.out.map.live (wr_vb Hfw5.out.map.vb (zs_byt _) (by have e : (Cd.flip mat i).blocks = C.blocks := Hfp1.out.cs.bl; omega))) hkw hg7')
            have hQ : ∀ no, IsM mat nbl no → no ≠ b := fun no h => by unfold IsM at h; omega
            have Hfp7 := Lib.hid (Hfp1.out.take (xd := xc.push b) (Q := fun no => IsM mat nbl no ∨ (no ∈ (xc.push b).blks ∧ no ∉ x.l.take k)) (Cd := (Cd.flip mat i).wr b (Int.toNat 0) (zs 128)) (fun no h => h.imp id (fun h => ⟨(Hpm.out.1 no).2 (.inl h.1), h.2⟩)) (fun _ h => .inl h) hi Hi0.out (by rw [← Hb.out]; exact Hpm.out) rfl Hbit.out (CS.wr (.inr ⟨(Hpm.out.1 b).2 (.inr rfl), Hnew.out⟩)) (fun j hj => bitC_congr (fun no hno => by rw [view_wr, if_neg (hQ no hno)]) j hj))
            clear hr7 hk7 hg7 hk7' hg7' hl0 hm7 hs5 HWr hkw Hfw5 Hfp1 Hbit Hi0
            generalize (Cd.flip mat i).wr b (Int.toNat 0) (zs 128) = C7 at *
            have b2 : w7.cell? ⟨w.heap.size, 2, none⟩ = some (.slice A1 xc.l.length c1) := by rw [cell_blk Hfw7.out.box]; rfl
            have Hlen : Hid ((xc.push b).l.length = xc.l.length + 1) := (show (xc.l ++ [b]).length = xc.l.length + 1 by simp)
            have Hl7 := Lib.hid (show natI (xc.push b).l = natI xc.l ++ [(b : Int)] from by show natI (xc.l ++ [b]) = _; unfold natI; simp)
            obtain ⟨H7, hH7⟩ : ∃ H7, H7 = w7.heap.size := ⟨_, rfl⟩
            have hH7w : w.heap.size + 2 ≤ H7 := by rw [hH7]; exact lt_blk Hfw7.out.res
            have HH7 := Lib.hid hH7
            have HF7 := Lib.hid (fun i (h : F7 i) => Hfw7.out.map.rep.disk.lt i h)
            clear hH7
            go_wp2_with (first | (at_builtin; refine wpList_append_lies _ rfl _ _ 92 rfl base 3 i0 (.int .i64 0) 1 8 Tryz.underlying92 hiI hz hszI hby rfl (by decide) _ _ _ rfl (Hfw7.out.own.alloc _) ⟨w7.heap.size, 0, none⟩ 1 1 [.int .i64 (b : Int)] rfl rfl (slI_new w7 _) (by simp [Value.oneCell']) (by omega) (by unfold maxLen; omega) (by omega) (by have := size_alloc w7 (.cells #[.int .i64 (b : Int)] 3); have := HH7.out; omega) _ rfl ?_; intro g2 cap2 w8 hown8 hgr8 hat8 hlt8; have hk8 : Kp (fun r => (Value.slice A1 xc.l.length c1).ownBlock = some r) w7 w8 := Kp.trans (F1 := fun r => (Value.slice A1 xc.l.length c1).ownBlock = some r) ((Kp.refl _ w7).alloc _) (grown_kp hgr8 (fun k e => .inl e)) (Gr.refl _ _); have Hk8 := Lib.hid hk8; have Hown8 := Lib.hid hown8; have Hat8 := Lib.hid (show (Value.slice A1 xc.l.length c1).ownBlock = some g2 ∨ g2 = w7.heap.size + 1 from hat8.imp id (fun h => by rw [h, size_alloc])); have c8 := hk8.cell b2 (fun e => own_ne Hfw7.out.own Hfw7.out.box (by decide) _ e rfl); have f8 := hk8.frz (frozen_blk Hfw7.out.box 2) (lt_blk Hfw7.out.box) (fun e => own_ne Hfw7.out.own Hfw7.out.box (by decide) _ e rfl); clear hk8 hown8 hgr8 hat8 b2))
            have Hown9 : Hid (w8.ownsRow base 3 1 (.slice (some ⟨g2, 0, none⟩) (xc.push b).l.length cap2) (xc.push b).l.length (ints (natI (xc.push b).l))) := (show w8.ownsRow base 3 1 (.slice (some ⟨g2, 0, none⟩) (xc.push b).l.length cap2) (xc.push b).l.length (ints (natI (xc.push b).l)) by rw [Hlen.out, Hl7.out, ints_app]; exact Hown8.out)
            have hfw9 := Hfw7.out.app hN hNb hbxl Hk8.out (xc.push b) (some ⟨g2, 0, none⟩) cap2 ⟨rfl, rfl, rfl⟩ Hown9.out (fun g hg => by
              simp only [Value.ownBlock, Option.some.injEq] at hg
              subst hg
              rcases Hat8.out with h | h
              · exact Hfw7.out.ob _ h
              · exact ⟨fun hf => by have := HF7.out _ hf; omega, .inr (by have := HH7.out; omega)⟩)
            rw [Hlen.out] at hfw9
            have hcell := cell_blk hfw9.box 2
            constructor
            · refine ⟨xc.push b, C7, F7, some ⟨g2, 0, none⟩, cap2, hfw9, Hfp7.out, by rw [Hlen.out]; omega, by rw [Hlen.out]; omega, fun i hi => ?_, Hml.out⟩
              show (xc.l ++ [b])[i]? = _
              rw [List.getElem?_append_left (by omega)]
              exact Hpre.out i hi
            · rw [hcell, Hb2.out]
              show N - slLen (some (.slice (some ⟨g2, 0, none⟩) (xc.push b).l.length cap2)) < N - slLen (some (.slice A1 xc.l.length c1))
              rw [Hlen.out]
              simp only [slLen]
              omega
          · have hge2 : ¬ (xc.l.length : Int) < (N : Int) := by omega
            have b3 : wr.cell? ⟨w.heap.size, 3, none⟩ = some (.int .i64 xc.more) := by rw [cell_blk Hfw1.out.box]; rfl
            have hg2x := g2
            rcases (show (8 < N ∧ xc.more = 0) ∨ N ≤ 8 ∨ (8 < N ∧ xc.more ≠ 0) by omega) with hma | hma | hma
            case' inl =>
              have hfr0 : 0 < frees (bitC Cd mat) nbl := by
                have h1 := Hfp1.out.fr
                have h2 := Hfree.out
                have h3 := Hbks.out
                rw [Nd.blks_len, if_pos hma.2] at h1
                rw [if_pos hma.1] at h3
                omega
              have hx33 : xc.blks.length + 1 ≤ 33 := by rw [Nd.blks_len]; split <;> omega
              obtain ⟨i, hi, hi0, hil⟩ := frees_pos hfr0
              obtain ⟨b, hb⟩ : ∃ b, b = lo + i := ⟨_, rfl⟩
              have HT := Lib.hid (show Calls Tryz.prog 93 #[.pointer (some ⟨bx, 0, none⟩)] wr fun e w' => e = .returned (.tuple #[.int .i64 (b : Int), .nilIface]) ∧ ∃ F', MapOn w' bx bc bj bm bd mat lo nbl (Cd.flip mat i) F' ∧ Kp Fd wr w' ∧ Gr Fd F' wr.heap.size from by
                rw [hb]
                refine (alloc_Take_ok Hfw1.out.map i hi hi0 hil (Hfp1.out.room HR.out (by omega) (fun b hb => hb.imp (HW.out b) (fun h => h.1)) Hfw1.out.map.rep.nd (.inl (Hnb.out _ hi)))).mono ?_
                rintro e w' ⟨rfl, F', hr', hk, hg⟩
                exact ⟨rfl, F', Hfw1.out.map.flip hi hr' hk hg, hk, hg⟩)
              have hfresh := Hfp1.out.fit.fresh hi hi0
              rw [← hb] at hfresh
              have Hpm := Lib.hid (withMore_mem hfresh (by omega) hma.2 Hfp1.out.fit.nd)
              have Hbit := Lib.hid (take_bit Hfw1.out.map hi hi0)
              have hbr : lo ≤ b ∧ b < lo + nbl := by omega
              have Hfp7 := Lib.hid (Hfp1.out.take (xd := xc.withMore b) (Q := fun no => IsM mat nbl no ∨ (no ∈ (xc.withMore b).blks ∧ no ∉ x.l.take k)) (Cd := Cd.flip mat i) (fun no h => h.imp id (fun h => ⟨(Hpm.out.1 no).2 (.inl h.1), h.2⟩)) (fun _ h => .inl h) hi hi0 (by rw [← hb]; exact Hpm.out) rfl Hbit.out (CS.refl _ _) (fun _ _ => rfl))
              have hN8 : (8 : Int) < (N : Int) := by omega
              have hm0 : (xc.more : Int) = 0 := by omega
              rw [hm0] at b3
              clear hb hi0 hil hfresh hm0
              go_wp2_with fail
              refine HT.out.mono ?_
              rintro e w5 ⟨rfl, F6, hm5, hk5, hg5⟩
              have Hfw5 := Lib.hid (Hfw1.out.cache hm5 hk5 hg5)
              clear hm5 hk5 hg5 t1 t0 HT b2 b3
              have f3 := frozen_blk Hfw5.out.box 3
              have b3 : w5.cell? ⟨w.heap.size, 3, none⟩ = some (.int .i64 xc.more) := by rw [cell_blk Hfw5.out.box]; rfl
              go_upto_region 25 with fail
              have hset := (Kp.setCell (F := fun i => i = w.heap.size) (p := ⟨w.heap.size, 3, none⟩) (Kp.refl _ w5) (.inl rfl) (.int .i64 (b : Int)))
              have HFE := Lib.hid (Hfw5.out.setC hN hbxl hset (xc.withMore b) A1 c1 (by rw [set_blk Hfw5.out.box 3]; rfl) Hfw5.out.own (fun g hg => Hfw5.out.ob g hg))
              have HPE := Hfp7
              have Hlen := Lib.hid (show (xc.withMore b).l.length = N ∧ ((xc.withMore b).more = 0 ↔ N ≤ 8) from ⟨show xc.l.length = N by omega, show b = 0 ↔ N ≤ 8 by omega⟩)
              have HpreE := Lib.hid (show ∀ i, i < k → (xc.withMore b).l[i]? = x.l[i]? from Hpre.out)
              have Hmr := Lib.hid (show (xc.withMore b).more = 0 ∨ x.more = 0 ∨ (xc.withMore b).more = x.more from .inr (.inl ((Hml.out.2 hma.1).symm.trans hma.2)))
              clear hset b3 f3 Hfw5 Hfp7 Hfw1 Hfp1 Hpm Hbit Hml hma hN8 hfr0
              generalize w5.setCell ⟨w.heap.size, 3, none⟩ (.int .i64 (b : Int)) = we at *
              generalize Cd.flip mat i = Ce' at *
              generalize xc.withMore b = xe at *
            case' inr.inl =>
              have hm0 : xc.more = 0 := Classical.byContradiction fun h => by have := Hml.out.1 h; omega
              have hN8 : ¬ (8 : Int) < (N : Int) := by omega
              go_upto_region 25 with fail
              have HFE := Hfw1
              have HPE := Hfp1
              have Hlen := Lib.hid (show xc.l.length = N ∧ (xc.more = 0 ↔ N ≤ 8) from ⟨by omega, ⟨fun _ => hma, fun _ => hm0⟩⟩)
              have HpreE := Hpre
              have Hmr := Lib.hid (show xc.more = 0 ∨ x.more = 0 ∨ xc.more = x.more from .inl hm0)
              clear t1 t0 b2 b3 Hfw1 Hfp1 Hml hN8 hm0 hma
              generalize wr = we at *
              generalize Cd = Ce' at *
              generalize Fd = F6 at *
              generalize xc = xe at *
            case' inr.inr =>
              have hN8 : (8 : Int) < (N : Int) := by omega
              have hm0 : ¬ (xc.more : Int) = 0 := by omega
              have hmb : ((xc.more : Int) == 0) = false := by simpa using hm0
              go_upto_region 25 with fail
              have HFE := Hfw1
              have HPE := Hfp1
              have Hlen := Lib.hid (show xc.l.length = N ∧ (xc.more = 0 ↔ N ≤ 8) from ⟨by omega, ⟨fun h => absurd h hma.2, fun h => by omega⟩⟩)
              have HpreE := Hpre
              have Hmr := Lib.hid (show xc.more = 0 ∨ x.more = 0 ∨ xc.more = x.more from .inr (.inr (Hml.out.2 hma.1)))
              clear t1 t0 b2 b3 Hfw1 Hfp1 Hml hN8 hm0 hma hmb
              generalize wr = we at *
              generalize Cd = Ce' at *
              generalize Fd = F6 at *
              generalize xc = xe at *
            all_goals
              have b1 : we.cell? ⟨w.heap.size, 1, none⟩ = some (.int .i64 xe.size) := by rw [cell_blk HFE.out.box]; rfl
              have f1 := frozen_blk HFE.out.box 1
              go_upto_region 26 with fail
              have hset := (Kp.setCell (F := fun i => i = w.heap.size) (p := ⟨w.heap.size, 1, none⟩) (Kp.refl _ we) (.inl rfl) (.int .i64 (sz : Int)))
              have HFZ := Lib.hid (HFE.out.setC hN hbxl hset ({ xe with size := sz } : Nd) A1 c1 (by rw [set_blk HFE.out.box 1]; rfl) HFE.out.own (fun g hg => HFE.out.ob g hg))
              clear hset b1 f1 HFE
              generalize we.setCell ⟨w.heap.size, 1, none⟩ (.int .i64 (sz : Int)) = wz at *
              have HB := Lib.hid HFZ.out.res
              have Hp : Hid (wz.heap[w.heap.size]? = some (.cells #[.int .i64 xe.kind, .int .i64 sz, .slice A1 xe.l.length c1, .int .i64 xe.more] 94 (0, 0))) := HFZ.out.box
              have HownZ : Hid (wz.ownsRow base 3 1 (.slice A1 xe.l.length c1) xe.l.length (ints (natI xe.l))) := HFZ.out.own
              have HK := Lib.hid HFZ.out.kp
              unfold nz at HB
              have d0 := cell_blk HB.out 0
              have d1 := cell_blk HB.out 1
              have d2 := cell_blk HB.out 2
              have d3 := cell_blk HB.out 3
              have e0 := frozen_blk HB.out 0
              have e1 := frozen_blk HB.out 1
              have e2 := frozen_blk HB.out 2
              have e3 := frozen_blk HB.out 3
              simp at d0 d1 d2 d3
              have c0 := cell_blk Hp.out 0
              have c1' := cell_blk Hp.out 1
              have c2 := cell_blk Hp.out 2
              have c3 := cell_blk Hp.out 3
              simp at c0 c1' c2 c3
              go_wp2_with fail
              clear c0 c1' c2 c3
              have HS := set4 (a' := .int .i64 xe.kind) (b' := .int .i64 sz) (c' := .slice A1 xe.l.length c1) (d' := .int .i64 xe.more) HB.out
              have hfin := set4_kp (a' := .int .i64 xe.kind) (b' := .int .i64 sz) (c' := .slice A1 xe.l.length c1) (d' := .int .i64 xe.more) (Kp.refl (fun k => k = w.heap.size + 1) wz) (.inl rfl)
              have Hfin := Lib.hid hfin
              have Hend := Lib.hid (HK.out.trans hfin (fun i e => .inr (by have : i = w.heap.size + 1 := e; omega)))
              have Hown9 := Lib.hid (own_kp HownZ.out hfin (own_ne HownZ.out HB.out (by decide)))
              clear hfin d0 d1 d2 d3 e0 e1 e2 e3
              generalize ((((wz.setCell ⟨w.heap.size + 1, 0, none⟩ (.int .i64 xe.kind)).setCell ⟨w.heap.size + 1, 1, none⟩ (.int .i64 sz)).setCell ⟨w.heap.size + 1, 2, none⟩ (.slice A1 xe.l.length c1)).setCell ⟨w.heap.size + 1, 3, none⟩ (.int .i64 xe.more)) = wf at *
              have d0 := cell_blk HS 0
              have d1 := cell_blk HS 1
              have d2 := cell_blk HS 2
              have d3 := cell_blk HS 3
              simp at d0 d1 d2 d3
              refine bodyPost_ret (v := .tuple #[.agg #[.int .i64 xe.kind, .int .i64 sz, .slice A1 xe.l.length c1, .int .i64 xe.more], .nilIface]) (by simp [results, Tryz.results51, go_sem, d0, d1, d2, d3]) rfl ⟨({ xe with size := sz } : Nd), A1, c1, Ce', F6, rfl, ⟨?_, HPE.out.kd, rfl, ?_, ?_, ⟨HPE.out.fit.bit, HPE.out.fit.rng, HPE.out.fit.nd, HPE.out.fit.new⟩, HPE.out.cs.mono (fun no h => h.imp id (fun h => ⟨h.1, fun hm => h.2 (by have e := Hkm.out; have e2 : xe.l.length = N := Hlen.out.1; have hm' : no ∈ x.l.take xe.l.length := hm; rw [e2] at hm'; rw [e, Nat.min_comm, ← List.take_take, List.take_of_length_le (Nat.le_refl x.l.length)]; exact hm')⟩)), Hown9.out, Hend.out, HFZ.out.gr, fun g hg => (HFZ.out.ob g hg).1, Hmr.out⟩⟩
              · have hx := HX.out
                exact ⟨by show xe.kind ≤ 2; rw [HPE.out.kd]; exact hx.kind, hsz, by show xe.l.length = dat sz; rw [Hlen.out.1, HN.out], HPE.out.fit.rng, by show xe.more = 0 ↔ xe.l.length ≤ 8; rw [Hlen.out.1]; exact Hlen.out.2, HPE.out.fit.nd, fun h => Hz0.out (HPE.out.kd ▸ h)⟩
              · intro i h1 h2
                have h2' : i < xe.l.length := h2
                have := Hlen.out.1
                exact HpreE.out i (by rw [Hkm.out]; omega)
              · have hm := HFZ.out.map
                exact ⟨Hfin.out.blk hm.blk (by omega), hm.out, hm.rep.kp Hfin.out (fun i hi e => HFZ.out.n1 (by have : i = w.heap.size + 1 := e; exact this ▸ hi)) (fun i e => by have : i = w.heap.size + 1 := e; omega), hm.live, hm.vb, hm.n1, hm.n2, hm.inb, hm.far⟩
end Go.Proofs.YthjbpbahcemfgaaGreatDoor
