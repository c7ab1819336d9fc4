/- Texts of mine, one behind the other: PqE, PqF, PqG, PqH, PqI. -/
import Derived.Test.YtjfepmohoijalaaGreatMgQa
import Derived.Test.YtjfepmohoijalaaGreatMgK
import Derived.Test.YtjfepmohoijalaaGreatPlJ
import Derived.Test.YtjfepmohoijalaaGreatMgN
section
/- munimentlaw8.play: what lies there; Unpin, Write. -/
set_option maxRecDepth 100000
set_option linter.unusedVariables false
set_option linter.unusedSimpArgs false
namespace Mun
open Go Go.RowKit
open Go.Proofs

/-- what play leaves -/
def PlayQ (w0 w : World) (D L Pb n i : Nat) (s : PX) (x : PZ) (e : Ending) (w' : World) : Prop :=
  ∃ (p' : RP) (xr' : RPV) (fine : Bool) (s' : PX) (x' : PZ), e = .returned (.tuple #[.agg (rpcells p' xr'), .bool fine]) ∧ PM0 w0 w' D L Pb s' x' p' xr' ∧ (Chg (x.tf Pb L) (x'.tf Pb L) w w' ∧ ∀ k, x.Z k → x'.Z k) ∧
    ((fine = true ∧ (s.dm.fuse = -1 → s'.dm.fuse = -1) ∧ ∃ last', PI n i s' last' p') ∨ (s.dm.fuse ≠ -1 ∧ Hurt s s'))
/-- the call's own boxes -/
structure PBx (w : World) (D L Pb : Nat) (cm dv : Array Value) (W : World) : Prop where
  b : W.heap[w.heap.size]? = some (.cells (bcells D L Pb) 28 (0, 0))
  m : PBox W (w.heap.size + 1) cm
  d : W.heap[w.heap.size + 2]? = some (.cells dv 43 (0, 0))
  r : PBox W (w.heap.size + 3) Z6
def OwZ (w : World) (x : PZ) : PZ := { x with Z := fun k => x.Z k ∨ (w.heap.size ≤ k ∧ k < w.heap.size + 4) }
/-- where the program stands within a call of play -/
structure PW (w0 w W : World) (D L Pb : Nat) (s : PX) (x0 x : PZ) (q : RP) (xq : RPV) (cm dv : Array Value) : Prop where
  pm : PM0 w0 W D L Pb s x q xq
  bx : PBx w D L Pb cm dv W
  z : x.Z = (OwZ w x0).Z
  cg : Chg (x0.tf Pb L) (x.tf Pb L) w W
  own : ∀ k, w.heap.size ≤ k → k < w.heap.size + 4 → ¬ x.tf Pb L k
  sz : w.heap.size + 4 ≤ W.heap.size
  w0l : w0.heap.size ≤ w.heap.size
section
variable {w0 w w' : World} {D L Pb n i : Nat} {s s' : PX} {x x' : PZ} {last : List Bytes} {p p' q : RP} {xr xr' : RPV} {v' : PLV}

theorem PBx.keep {cm dv : Array Value} {W W' : World} (h : PBx w D L Pb cm dv W) (hk : ∀ k, w.heap.size ≤ k → k < w.heap.size + 4 → W'.heap[k]? = W.heap[k]?) : PBx w D L Pb cm dv W' :=
  ⟨(hk _ (by omega) (by omega)).trans h.b, (hk _ (by omega) (by omega)).trans h.m, (hk _ (by omega) (by omega)).trans h.d, (hk _ (by omega) (by omega)).trans h.r⟩
theorem PBx.bc {cm dv : Array Value} {W : World} (h : PBx w D L Pb cm dv W) : W.cell? ⟨w.heap.size, 0, none⟩ = some (.pointer (some ⟨D, 0, none⟩)) ∧ W.cell? ⟨w.heap.size, 1, none⟩ = some (.pointer (some ⟨L, 0, none⟩)) ∧ W.cell? ⟨w.heap.size, 2, none⟩ = some (.pointer (some ⟨Pb, 0, none⟩)) :=
  ⟨cell_of_row _ _ 0 _ _ _ h.b, cell_of_row _ _ 1 _ _ _ h.b, cell_of_row _ _ 2 _ _ _ h.b⟩
theorem PBx.dc {cm : Array Value} {a b c : Value} {W : World} (h : PBx w D L Pb cm #[a, b, c] W) : W.cell? ⟨w.heap.size + 2, 0, none⟩ = some a ∧ W.cell? ⟨w.heap.size + 2, 1, none⟩ = some b ∧ W.cell? ⟨w.heap.size + 2, 2, none⟩ = some c :=
  ⟨cell_of_row _ _ 0 _ _ _ h.d, cell_of_row _ _ 1 _ _ _ h.d, cell_of_row _ _ 2 _ _ _ h.d⟩

/-- it begins -/
theorem PW.start (h : PM0 w0 w D L Pb s x p xr) (dv : Array Value) {w1 : World} (hw1 : (((w.alloc (.cells (bcells D L Pb) 28)).alloc (.cells (rpcells p xr) 36)).alloc (.cells dv 43)).alloc (.cells Z6 36) = w1) :
    PW w0 w w1 D L Pb s x (OwZ w x) p xr (rpcells p xr) dv := by
  have hs1 : w1.heap.size = w.heap.size + 4 := by rw [← hw1]; simp only [World.size_alloc]
  have hb1 : Below w.heap.size w w1 := by rw [← hw1]; exact below_more (below_more (below_more (below_more (Below.refl _ _) _) _) _) _
  have hal : ∀ (W : World) (o : Obj) (k : Nat), k < W.heap.size → (W.alloc o).heap[k]? = W.heap[k]? := fun W o k hk => ((Below.refl W.heap.size W).alloc (Nat.le_refl _) o).block k hk
  have z1 : (w.alloc (.cells (bcells D L Pb) 28)).heap.size = w.heap.size + 1 := World.size_alloc _ _
  have z2 : ((w.alloc (.cells (bcells D L Pb) 28)).alloc (.cells (rpcells p xr) 36)).heap.size = w.heap.size + 2 := by rw [World.size_alloc, z1]
  have z3 : (((w.alloc (.cells (bcells D L Pb) 28)).alloc (.cells (rpcells p xr) 36)).alloc (.cells dv 43)).heap.size = w.heap.size + 3 := by rw [World.size_alloc, z2]
  refine ⟨h.addZ hb1 _ (fun k hk => ⟨hk.1, by omega⟩), ⟨?_, ?_, ?_, ?_⟩, rfl, Chg.of_below hb1 _, fun k hk _ e => by have := h.tlt k e; omega, by omega, h.below.size⟩
  · rw [← hw1, hal _ _ _ (by omega), hal _ _ _ (by omega), hal _ _ _ (by omega)]
    exact heap_alloc_new w _
  · unfold PBox
    rw [← hw1, hal _ _ _ (by omega), hal _ _ _ (by omega), ← z1]
    exact heap_alloc_new _ _
  · rw [← hw1, hal _ _ _ (by omega), ← z2]
    exact heap_alloc_new _ _
  · unfold PBox
    rw [← hw1, ← z3]
    exact heap_alloc_new _ _
/-- the pool, the log or the device has turned -/
theorem PW.prog {W W' : World} {cm dv : Array Value} {x0 : PZ} {xq : RPV} (h : PW w0 w W D L Pb s x0 x q xq cm dv) (hm : PM0 w0 W' D L Pb s' x' q xq) (hc : Cg Pb L x x' W W') : PW w0 w W' D L Pb s' x0 x' q xq cm dv :=
  have hsz := h.sz
  ⟨hm, h.bx.keep (fun k h1 h2 => hc.1.block k (by omega) (h.own k h1 h2)), hc.2.trans h.z, h.cg.trans hc.1, fun k h1 h2 => (keepD (by omega) (h.own k h1 h2) hc.1).2, Nat.le_trans h.sz hc.1.size, h.w0l⟩
/-- the reference has told another pool -/
theorem PW.ref {W W' : World} {cm dv : Array Value} {x0 : PZ} {xq : RPV} (h : PW w0 w W D L Pb s x0 x q xq cm dv) (hb : Below W.heap.size W W') (ha : RAt (x.af Pb L) W' p' xr') : PW w0 w W' D L Pb s x0 x p' xr' cm dv :=
  have hsz := h.sz
  ⟨h.pm.ref hb ha, h.bx.keep (fun k h1 h2 => hb.block k (by omega)), h.z, h.cg.trans (Chg.of_below hb _), h.own, Nat.le_trans h.sz hb.size, h.w0l⟩
theorem PW.more {W W' : World} {cm dv : Array Value} {x0 : PZ} {xq : RPV} (h : PW w0 w W D L Pb s x0 x q xq cm dv) (hb : Below W.heap.size W W') : PW w0 w W' D L Pb s x0 x q xq cm dv := h.ref hb (h.pm.ra.below hb)
/-- the result is laid -/
theorem PW.fin {W : World} {cm dv : Array Value} {x0 : PZ} {xq : RPV} (h : PW w0 w W D L Pb s' x0 x' q xq cm dv) (cs : Array Value) : PM0 w0 (W.setRow (w.heap.size + 3) cs) D L Pb s' x' q xq ∧ (Chg (x0.tf Pb L) (x'.tf Pb L) w (W.setRow (w.heap.size + 3) cs) ∧ ∀ k, x0.Z k → x'.Z k) ∧ PBox (W.setRow (w.heap.size + 3) cs) (w.heap.size + 3) cs := by
  have hb : Below w0.heap.size w0 (W.setRow (w.heap.size + 3) cs) := below_setRow h.pm.below (by have := h.w0l; omega) _
  refine ⟨h.pm.store (b := w.heap.size + 3) (by rw [h.z]; exact .inr ⟨by omega, by omega⟩) (h.own _ (by omega) (by omega)) (fun j hj => setRow_ne _ _ _ _ hj) (setRow_sz _ _ _) hb, ⟨?_, fun k hk => by rw [h.z]; exact .inl hk⟩, h.bx.r.row _⟩
  exact ⟨h.cg.os, h.cg.tape, h.cg.output, by rw [setRow_sz]; exact h.cg.size, fun k hk hn => (setRow_ne _ _ _ _ (by omega)).trans (h.cg.block k hk hn), by rw [setRow_sz]; exact h.cg.foot⟩
/-- a box for the new pool -/
theorem PW.nbox {W : World} {cm dv : Array Value} {x0 : PZ} {xq : RPV} (h : PW w0 w W D L Pb s x0 x q xq cm dv) (cs : Array Value) : ∃ W4 W5, W.alloc (.cells Z6 36) = W4 ∧ PBox W4 W.heap.size Z6 ∧ W4.setRow W.heap.size cs = W5 ∧ PBox W5 W.heap.size cs ∧ PW w0 w W5 D L Pb s x0 x q xq cm dv ∧ Below W.heap.size W W5 := by
  have k4 := PBox.new W Z6
  have hb4 : Below W.heap.size W (W.alloc (.cells Z6 36)) := (Below.refl _ _).alloc (Nat.le_refl _) _
  have hb5 : Below W.heap.size W ((W.alloc (.cells Z6 36)).setRow W.heap.size cs) := below_setRow hb4 (Nat.le_refl _) _
  exact ⟨_, _, rfl, k4, rfl, k4.row _, h.more hb5, hb5⟩
end
section
variable {w0 w w' : World} {D L Pb n i : Nat} {s s' : PX} {x x' : PZ} {last : List Bytes} {p p' q : RP} {xr xr' : RPV} {v' : PLV}

set_option maxHeartbeats 4000000 in
theorem pq_play1 (h : PM0 w0 w D L Pb s x p xr) (hi : PI n i s last p) (hs : i + 1 ≤ 3518437208882) (dn : Int) (bv : Value) (b : Bytes) (hb : RdB (x.tf Pb L) w bv b) :
    Calls Tryz.prog 11 #[.agg (bcells D L Pb), .agg (rpcells p xr), .agg #[.int .i64 1, .int .i64 dn, bv]] w (PlayQ w0 w D L Pb n (i + 1) s x) := by
  obtain ⟨ba, bn, bc, rfl, -⟩ := hb.formN
  obtain ⟨w1, hw1⟩ : ∃ w1, (((w.alloc (.cells (bcells D L Pb) 28)).alloc (.cells (rpcells p xr) 36)).alloc (.cells #[.int .i64 1, .int .i64 dn, .slice ba bn bc] 43)).alloc (.cells Z6 36) = w1 := ⟨_, rfl⟩
  have hp1 := PW.start h #[.int .i64 1, .int .i64 dn, .slice ba bn bc] hw1
  have hok := hi.ok h
  have hpins := hi.pinsR
  obtain ⟨post, hpost⟩ : ∃ post : Ending → World → Prop, post = PlayQ w0 w D L Pb n (i + 1) s x := ⟨_, rfl⟩
  rw [← hpost]
  have hsz := rp_size p xr
  obtain ⟨b10, b11, b12⟩ := hp1.bx.bc
  obtain ⟨d10, d11, d12⟩ := hp1.bx.dc
  obtain ⟨csm, hcsm⟩ : ∃ csm, rpcells p xr = csm := ⟨_, rfl⟩
  rw [hcsm] at hw1 hsz hp1 ⊢
  have HSZ := Lib.hid hsz
  have hc := pq_unpin hp1.pm hi hs dn
  have HC := Lib.hid hc
  have HX := Lib.hid (And.intro hp1 (And.intro hok (And.intro hpins (And.intro hcsm hpost))))
  clear h hi hb hp1 hok hpins hpost hsz hcsm hc hs b10 b11 d12
  unfold bcells Z6 at hw1
  unfold bcells
  go_enter Tryz.func11, Tryz.ntmps11
  go_wp2_with (first | rw [hw1])
  refine HC.out.mono ?_
  rintro e w2 ⟨code, s2, x2, rfl, hm2, hc2, hf2⟩
  obtain ⟨hp1, hok, hpins, hcsm, hpost⟩ := HX.out
  have hpw2 := hp1.prog hm2 hc2
  have hr := rp_unpin hm2.ra hok hm2.hF hpins dn
  rw [hcsm] at hr
  have km2 := hpw2.bx.m
  obtain ⟨b20, b21, b22⟩ := hpw2.bx.bc
  obtain ⟨d20, d21, d22⟩ := hpw2.bx.dc
  have HR := Lib.hid hr
  have HKM := Lib.hid km2
  have H2 := Lib.hid (And.intro hpw2 (And.intro hf2 hpost))
  clear hp1 hok hpins hcsm hpost hm2 hc2 hf2 hpw2 hr km2 HC HX b20 b21 b22 d20 d22 b12 d10 d11 hw1
  go_wp2_with (first | (refine wpList_load_row rfl _ _ rfl (w.heap.size + 1) rfl _ _ (0, 0) _ HKM.out Tryz.underlying36 rfl HSZ.out ?_))
  refine HR.out.mono ?_
  rintro e w3 ⟨x3, rfl, ha3, hb3⟩
  obtain ⟨hpw2, hf2, hpost⟩ := H2.out
  have hpw3 := hpw2.ref hb3 ha3
  obtain ⟨w4, w5, hw4, k4, hw5, k5, hpw5, -⟩ := hpw3.nbox (rpcells (p.unpin dn).1 x3)
  have hsn := rp_size (p.unpin dn).1 x3
  have hon := hpw3.pm.ra.one
  obtain ⟨w6, hw6⟩ : ∃ w6, w5.setRow (w.heap.size + 3) (rpcells (p.unpin dn).1 x3) = w6 := ⟨_, rfl⟩
  have hfin : PBox w6 (w.heap.size + 3) (rpcells (p.unpin dn).1 x3) ∧ post (.returned (.tuple #[.agg (rpcells (p.unpin dn).1 x3), .bool (code == (p.unpin dn).2)])) w6 := by
    obtain ⟨f1, f2, f3⟩ := hpw5.fin (rpcells (p.unpin dn).1 x3)
    rw [hw6] at f1 f2 f3
    refine ⟨f3, ?_⟩
    rw [hpost]
    refine ⟨_, x3, _, s2, x2, rfl, f1, f2, ?_⟩
    rcases hf2 with ⟨a1, a2, a3⟩ | ⟨a1, a2, -⟩
    · exact .inl ⟨by rw [a1]; simp, a2, a3⟩
    · exact .inr ⟨a1, a2⟩
  have kr5 := hpw5.bx.r
  obtain ⟨cp, hcp⟩ : ∃ cp, (p.unpin dn).2 = cp := ⟨_, rfl⟩
  obtain ⟨csn, hcsn⟩ : ∃ csn, rpcells (p.unpin dn).1 x3 = csn := ⟨_, rfl⟩
  rw [hcsn] at hw5 k5 hsn hon hw6 hfin ⊢
  rw [hcp] at hfin ⊢
  have HSN := Lib.hid hsn
  have HON := Lib.hid hon
  have HK4 := Lib.hid k4
  have HK5 := Lib.hid k5
  have HR5 := Lib.hid kr5
  clear hpw2 hf2 hpost ha3 hb3 hpw3 k4 k5 hpw5 hsn hon kr5 hcp hcsn HR H2 HKM d21
  unfold Z6 at hw4
  by_cases hcd : code = cp
  · subst hcd
    have HFIN : Hid (PBox w6 (w.heap.size + 3) csn ∧ post (.returned (.tuple #[.agg csn, .bool true])) w6) := Lib.hid (by simpa using hfin)
    clear hfin
    go_wp2_with (first | rw [hw4] | (refine wpList_store_row rfl _ _ _ rfl w3.heap.size _ rfl rfl _ _ HK4.out HSN.out (by have := HSN.out; rw [info6] at this; injection this) HON.out ?_; rw [hw5]) | (refine wpList_load_row rfl _ _ rfl w3.heap.size rfl _ _ (0, 0) _ HK5.out Tryz.underlying36 rfl HSN.out ?_) | (refine wpList_store_row rfl _ _ _ rfl (w.heap.size + 3) _ rfl rfl _ _ HR5.out HSN.out (by have := HSN.out; rw [info6] at this; injection this) HON.out ?_; rw [hw6]))
    exact bodyPost_ret (v := .tuple #[.agg csn, .bool true]) (by simp [results, Tryz.results11, asAddr, Act.put, run_loadVar_row w6 (w.heap.size + 3) 36 36 _ (0, 0) _ HFIN.out.1 Tryz.underlying36 rfl HSN.out]) rfl HFIN.out.2
  · have hz : (code == cp) = false := by simpa using hcd
    rw [hz] at hfin
    have HFIN := Lib.hid hfin
    clear hfin
    go_wp2_with (first | rw [hw4] | (refine wpList_store_row rfl _ _ _ rfl w3.heap.size _ rfl rfl _ _ HK4.out HSN.out (by have := HSN.out; rw [info6] at this; injection this) HON.out ?_; rw [hw5]) | (refine wpList_load_row rfl _ _ rfl w3.heap.size rfl _ _ (0, 0) _ HK5.out Tryz.underlying36 rfl HSN.out ?_) | (refine wpList_store_row rfl _ _ _ rfl (w.heap.size + 3) _ rfl rfl _ _ HR5.out HSN.out (by have := HSN.out; rw [info6] at this; injection this) HON.out ?_; rw [hw6]))
    exact bodyPost_ret (v := .tuple #[.agg csn, .bool false]) (by simp [results, Tryz.results11, asAddr, Act.put, run_loadVar_row w6 (w.heap.size + 3) 36 36 _ (0, 0) _ HFIN.out.1 Tryz.underlying36 rfl HSN.out]) rfl HFIN.out.2

set_option maxHeartbeats 4000000 in
theorem pq_play3 (h : PM0 w0 w D L Pb s x p xr) (hi : PI n i s last p) (hs : i + 1 ≤ 3518437208882) (dn : Int) (bv : Value) (b : Bytes) (hb : RdB (x.tf Pb L) w bv b) :
    Calls Tryz.prog 11 #[.agg (bcells D L Pb), .agg (rpcells p xr), .agg #[.int .i64 3, .int .i64 dn, bv]] w (PlayQ w0 w D L Pb n (i + 1) s x) := by
  obtain ⟨ba, bn, bc, rfl, -⟩ := hb.formN
  obtain ⟨w1, hw1⟩ : ∃ w1, (((w.alloc (.cells (bcells D L Pb) 28)).alloc (.cells (rpcells p xr) 36)).alloc (.cells #[.int .i64 3, .int .i64 dn, .slice ba bn bc] 43)).alloc (.cells Z6 36) = w1 := ⟨_, rfl⟩
  have hp1 := PW.start h #[.int .i64 3, .int .i64 dn, .slice ba bn bc] hw1
  have hok := hi.ok h
  have hpins := hi.pinsR
  obtain ⟨post, hpost⟩ : ∃ post : Ending → World → Prop, post = PlayQ w0 w D L Pb n (i + 1) s x := ⟨_, rfl⟩
  rw [← hpost]
  have hsz := rp_size p xr
  obtain ⟨b10, b11, b12⟩ := hp1.bx.bc
  obtain ⟨d10, d11, d12⟩ := hp1.bx.dc
  obtain ⟨csm, hcsm⟩ : ∃ csm, rpcells p xr = csm := ⟨_, rfl⟩
  rw [hcsm] at hw1 hsz hp1 ⊢
  have HSZ := Lib.hid hsz
  have hc := pq_write hp1.pm hi hs dn
  have HC := Lib.hid hc
  have HX := Lib.hid (And.intro hp1 (And.intro hok (And.intro hpins (And.intro hcsm hpost))))
  clear h hi hb hp1 hok hpins hpost hsz hcsm hc hs b10 b11 d12
  unfold bcells Z6 at hw1
  unfold bcells
  go_enter Tryz.func11, Tryz.ntmps11
  go_wp2_with (first | rw [hw1])
  refine HC.out.mono ?_
  rintro e w2 ⟨code, s2, x2, rfl, hm2, hc2, hf2⟩
  obtain ⟨hp1, hok, hpins, hcsm, hpost⟩ := HX.out
  have hpw2 := hp1.prog hm2 hc2
  have hr := rp_write hm2.ra hok hm2.hF dn
  rw [hcsm] at hr
  have km2 := hpw2.bx.m
  obtain ⟨b20, b21, b22⟩ := hpw2.bx.bc
  obtain ⟨d20, d21, d22⟩ := hpw2.bx.dc
  have HR := Lib.hid hr
  have HKM := Lib.hid km2
  have H2 := Lib.hid (And.intro hpw2 (And.intro hf2 hpost))
  clear hp1 hok hpins hcsm hpost hm2 hc2 hf2 hpw2 hr km2 HC HX b20 b21 b22 d20 d22 b12 d10 d11 hw1
  go_wp2_with (first | (refine wpList_load_row rfl _ _ rfl (w.heap.size + 1) rfl _ _ (0, 0) _ HKM.out Tryz.underlying36 rfl HSZ.out ?_))
  refine HR.out.mono ?_
  rintro e w3 ⟨x3, rfl, ha3, hb3⟩
  obtain ⟨hpw2, hf2, hpost⟩ := H2.out
  have hpw3 := hpw2.ref hb3 ha3
  obtain ⟨w4, w5, hw4, k4, hw5, k5, hpw5, -⟩ := hpw3.nbox (rpcells (p.write dn).1 x3)
  have hsn := rp_size (p.write dn).1 x3
  have hon := hpw3.pm.ra.one
  obtain ⟨w6, hw6⟩ : ∃ w6, w5.setRow (w.heap.size + 3) (rpcells (p.write dn).1 x3) = w6 := ⟨_, rfl⟩
  have hfin : PBox w6 (w.heap.size + 3) (rpcells (p.write dn).1 x3) ∧ post (.returned (.tuple #[.agg (rpcells (p.write dn).1 x3), .bool (code == (p.write dn).2)])) w6 := by
    obtain ⟨f1, f2, f3⟩ := hpw5.fin (rpcells (p.write dn).1 x3)
    rw [hw6] at f1 f2 f3
    refine ⟨f3, ?_⟩
    rw [hpost]
    refine ⟨_, x3, _, s2, x2, rfl, f1, f2, ?_⟩
    rcases hf2 with ⟨a1, a2, a3⟩ | ⟨a1, a2, -⟩
    · exact .inl ⟨by rw [a1]; simp, a2, a3⟩
    · exact .inr ⟨a1, a2⟩
  have kr5 := hpw5.bx.r
  obtain ⟨cp, hcp⟩ : ∃ cp, (p.write dn).2 = cp := ⟨_, rfl⟩
  obtain ⟨csn, hcsn⟩ : ∃ csn, rpcells (p.write dn).1 x3 = csn := ⟨_, rfl⟩
  rw [hcsn] at hw5 k5 hsn hon hw6 hfin ⊢
  rw [hcp] at hfin ⊢
  have HSN := Lib.hid hsn
  have HON := Lib.hid hon
  have HK4 := Lib.hid k4
  have HK5 := Lib.hid k5
  have HR5 := Lib.hid kr5
  clear hpw2 hf2 hpost ha3 hb3 hpw3 k4 k5 hpw5 hsn hon kr5 hcp hcsn HR H2 HKM d21
  unfold Z6 at hw4
  by_cases hcd : code = cp
  · subst hcd
    have HFIN : Hid (PBox w6 (w.heap.size + 3) csn ∧ post (.returned (.tuple #[.agg csn, .bool true])) w6) := Lib.hid (by simpa using hfin)
    clear hfin
    go_wp2_with (first | rw [hw4] | (refine wpList_store_row rfl _ _ _ rfl w3.heap.size _ rfl rfl _ _ HK4.out HSN.out (by have := HSN.out; rw [info6] at this; injection this) HON.out ?_; rw [hw5]) | (refine wpList_load_row rfl _ _ rfl w3.heap.size rfl _ _ (0, 0) _ HK5.out Tryz.underlying36 rfl HSN.out ?_) | (refine wpList_store_row rfl _ _ _ rfl (w.heap.size + 3) _ rfl rfl _ _ HR5.out HSN.out (by have := HSN.out; rw [info6] at this; injection this) HON.out ?_; rw [hw6]))
    exact bodyPost_ret (v := .tuple #[.agg csn, .bool true]) (by simp [results, Tryz.results11, asAddr, Act.put, run_loadVar_row w6 (w.heap.size + 3) 36 36 _ (0, 0) _ HFIN.out.1 Tryz.underlying36 rfl HSN.out]) rfl HFIN.out.2
  · have hz : (code == cp) = false := by simpa using hcd
    rw [hz] at hfin
    have HFIN := Lib.hid hfin
    clear hfin
    go_wp2_with (first | rw [hw4] | (refine wpList_store_row rfl _ _ _ rfl w3.heap.size _ rfl rfl _ _ HK4.out HSN.out (by have := HSN.out; rw [info6] at this; injection this) HON.out ?_; rw [hw5]) | (refine wpList_load_row rfl _ _ rfl w3.heap.size rfl _ _ (0, 0) _ HK5.out Tryz.underlying36 rfl HSN.out ?_) | (refine wpList_store_row rfl _ _ _ rfl (w.heap.size + 3) _ rfl rfl _ _ HR5.out HSN.out (by have := HSN.out; rw [info6] at this; injection this) HON.out ?_; rw [hw6]))
    exact bodyPost_ret (v := .tuple #[.agg csn, .bool false]) (by simp [results, Tryz.results11, asAddr, Act.put, run_loadVar_row w6 (w.heap.size + 3) 36 36 _ (0, 0) _ HFIN.out.1 Tryz.underlying36 rfl HSN.out]) rfl HFIN.out.2
end
end Mun
end

section
/- munimentlaw8.play: Pin. -/
set_option maxRecDepth 100000
set_option linter.unusedVariables false
set_option linter.unusedSimpArgs false
namespace Mun
open Go Go.RowKit
open Go.Proofs

section
variable {w0 w w' : World} {D L Pb n i : Nat} {s s' : PX} {x x' : PZ} {last : List Bytes} {p p' q : RP} {xr xr' : RPV} {v' : PLV}

set_option maxHeartbeats 4000000 in
theorem pq_play0 (h : PM0 w0 w D L Pb s x p xr) (hi : PI n i s last p) (hs : i + 1 ≤ 3518437208882) (dn : Int) (bv : Value) (b : Bytes) (hb : RdB (x.tf Pb L) w bv b) :
    Calls Tryz.prog 11 #[.agg (bcells D L Pb), .agg (rpcells p xr), .agg #[.int .i64 0, .int .i64 dn, bv]] w (PlayQ w0 w D L Pb n (i + 1) s x) := by
  obtain ⟨ba, bn, bc, rfl, -⟩ := hb.formN
  obtain ⟨w1, hw1⟩ : ∃ w1, (((w.alloc (.cells (bcells D L Pb) 28)).alloc (.cells (rpcells p xr) 36)).alloc (.cells #[.int .i64 0, .int .i64 dn, .slice ba bn bc] 43)).alloc (.cells Z6 36) = w1 := ⟨_, rfl⟩
  have hp1 := PW.start h #[.int .i64 0, .int .i64 dn, .slice ba bn bc] hw1
  have hok := hi.ok h
  have hpins := hi.pinsR
  obtain ⟨post, hpost⟩ : ∃ post : Ending → World → Prop, post = PlayQ w0 w D L Pb n (i + 1) s x := ⟨_, rfl⟩
  rw [← hpost]
  have hsz := rp_size p xr
  obtain ⟨b10, b11, b12⟩ := hp1.bx.bc
  obtain ⟨d10, d11, d12⟩ := hp1.bx.dc
  obtain ⟨csm, hcsm⟩ : ∃ csm, rpcells p xr = csm := ⟨_, rfl⟩
  rw [hcsm] at hw1 hsz hp1 ⊢
  have HSZ := Lib.hid hsz
  have hc := pq_pin hp1.pm hi hs dn
  have HC := Lib.hid hc
  have HX := Lib.hid (And.intro hp1 (And.intro hok (And.intro hpins (And.intro hcsm hpost))))
  clear h hi hb hp1 hok hpins hpost hsz hcsm hc hs b10 b11 d12
  unfold bcells Z6 at hw1
  unfold bcells
  go_enter Tryz.func11, Tryz.ntmps11
  go_wp2_with (first | rw [hw1])
  refine HC.out.mono ?_
  rintro e w2 ⟨code, bx, bb, s2, x2, p2, b2, c2, rfl, hm2, hc2, hrb, hpin, hf2, hbe⟩
  obtain ⟨hp1, hok, hpins, hcsm, hpost⟩ := HX.out
  have hpw2 := hp1.prog hm2 hc2
  have hr := rp_pin_all hm2.ra hok hm2.hF hpins hpin
  rw [hcsm] at hr
  have km2 := hpw2.bx.m
  obtain ⟨d20, d21, d22⟩ := hpw2.bx.dc
  have hsz1 := hp1.sz
  have HR := Lib.hid hr
  have HKM := Lib.hid km2
  have H2 := Lib.hid (And.intro hpw2 (And.intro hf2 (And.intro hpost (And.intro hrb (And.intro hbe hsz1)))))
  clear hp1 hok hpins hcsm hpost hm2 hc2 hf2 hpw2 hr km2 HC HX d20 d22 b12 d10 d11 hw1 hrb hpin hbe hsz1
  go_wp2_with (first | (refine wpList_load_row rfl _ _ rfl (w.heap.size + 1) rfl _ _ (0, 0) _ HKM.out Tryz.underlying36 rfl HSZ.out ?_))
  refine HR.out.mono ?_
  rintro e w3 ⟨x3, sv, rfl, ha3, hb3, hsv⟩
  obtain ⟨hpw2, hf2, hpost, hrb, hbe, hsz1⟩ := H2.out
  have hpw3 := hpw2.ref hb3 ha3
  obtain ⟨w4, w5, hw4, k4, hw5, k5, hpw5, hb5⟩ := hpw3.nbox (rpcells p2 x3)
  have hsn := rp_size p2 x3
  have hon := hpw3.pm.ra.one
  have hpw5d := hpw5.more (below_drewN (Below.refl _ _) 1)
  obtain ⟨w6, hw6⟩ : ∃ w6, w5.drew.setRow (w.heap.size + 3) (rpcells p2 x3) = w6 := ⟨_, rfl⟩
  have hfin : PBox w6 (w.heap.size + 3) (rpcells p2 x3) ∧ post (.returned (.tuple #[.agg (rpcells p2 x3), .bool (code == c2)])) w6 := by
    obtain ⟨f1, f2, f3⟩ := hpw5d.fin (rpcells p2 x3)
    rw [show w5.drewN 1 = w5.drew from rfl, hw6] at f1 f2 f3
    refine ⟨f3, ?_⟩
    rw [hpost]
    refine ⟨_, x3, _, s2, x2, rfl, f1, f2, ?_⟩
    rcases hf2 with ⟨a1, a2, a3⟩ | ⟨a1, a2, -⟩
    · exact .inl ⟨by rw [a1]; simp, a2, a3⟩
    · exact .inr ⟨a1, a2⟩
  have kr5 := hpw5d.bx.r
  -- the bytes of both, as strings
  have hbd : Below w3.heap.size w3 w5.drew := hb5.trans (below_drewN (Below.refl _ _) 1 |>.mono hb5.size)
  have hrb5 : RdB (OldF w1.heap.size) w5.drew bx bb := (hrb.below hb3).below hbd
  have hsv5 : RdB (x2.af Pb L) w5.drew sv b2 := hsv.below hbd
  have hnb : w3.heap.size ≠ w.heap.size + 3 := by have := hpw3.sz; omega
  have hrb6 : RdB (OldF w1.heap.size) w6 bx bb := RdV.keep hrb5 (fun k hk hn => by rw [← hw6]; exact setRow_ne _ _ _ _ (fun e => hn (by show k < w1.heap.size; omega))) (fun _ _ h => h)
  have hsv6 : RdB (x2.af Pb L) w6 sv b2 := RdV.keep hsv5 (fun k hk hn => by rw [← hw6]; exact setRow_ne _ _ _ _ (fun e => hn (by rw [e]; exact .inl (.inr (.inr (by rw [hpw5.z]; exact .inr ⟨by omega, by omega⟩)))))) (fun _ _ h => h)
  obtain ⟨xa, xn, xc, rfl, -, -, -⟩ := hrb.formN
  obtain ⟨ya, yn, yc, rfl, -, -, -⟩ := hsv.formN
  obtain ⟨sx, hsx⟩ : ∃ sx, strOf bb = sx := ⟨_, rfl⟩
  obtain ⟨sy, hsy⟩ : ∃ sy, strOf b2 = sy := ⟨_, rfl⟩
  have t5 := str_bytes hrb5
  have u5 := str_bytes hsv5
  have t6 := str_bytes hrb6
  have u6 := str_bytes hsv6
  rw [hsx] at t5 t6
  rw [hsy] at u5 u6
  have hxy : code = c2 → sx = sy := fun e => by rw [← hsx, ← hsy, hbe e]
  have k5d : PBox w5.drew w3.heap.size (rpcells p2 x3) := k5
  have k6 : PBox w6 w3.heap.size (rpcells p2 x3) := by rw [← hw6]; exact k5d.rowNe _ hnb
  obtain ⟨csn, hcsn⟩ : ∃ csn, rpcells p2 x3 = csn := ⟨_, rfl⟩
  rw [hcsn] at hw5 k5d k6 hsn hon hw6 hfin ⊢
  have hS0 : w5.drew.heap[w3.heap.size]? = some (.cells csn 36 (0, 0)) ∧ (convert 41 9 (.slice xa xn xc)).run Tryz.prog w5.drew = .ok (.string sx) w5.drew ∧ (convert 41 9 (.slice ya yn yc)).run Tryz.prog w5.drew = .ok (.string sy) w5.drew := ⟨k5d, t5, u5⟩
  have hS6 : w6.heap[w3.heap.size]? = some (.cells csn 36 (0, 0)) ∧ (convert 41 9 (.slice xa xn xc)).run Tryz.prog w6 = .ok (.string sx) w6 ∧ (convert 41 9 (.slice ya yn yc)).run Tryz.prog w6 = .ok (.string sy) w6 := ⟨k6, t6, u6⟩
  have HSN := Lib.hid hsn
  have HON := Lib.hid hon
  have HK4 := Lib.hid k4
  have HR5 := Lib.hid kr5
  clear hpw2 hf2 hpost hrb hbe hsz1 hpw3 k4 k5 hpw5 hb5 hsn hon hpw5d kr5 hbd hrb5 hsv5 hnb hrb6 hsv6 hsx hsy t5 u5 t6 u6 k5d k6 hcsn ha3 hb3 hsv HR H2 HKM d21
  unfold Z6 at hw4
  by_cases hcd : code = c2
  · obtain rfl := hxy hcd
    subst hcd
    have HFIN : Hid (PBox w6 (w.heap.size + 3) csn ∧ post (.returned (.tuple #[.agg csn, .bool true])) w6) := Lib.hid (by simpa using hfin)
    clear hfin hxy
    go_upto_region 5 with (first | rw [hw4] | (refine wpList_store_row rfl _ _ _ rfl w3.heap.size _ rfl rfl _ _ HK4.out HSN.out (by have := HSN.out; rw [info6] at this; injection this) HON.out ?_; rw [hw5]))
    refine wp_region_U (fun V => V.heap[w3.heap.size]? = some (.cells csn 36 (0, 0)) ∧ (convert 41 9 (.slice xa xn xc)).run Tryz.prog V = .ok (.string sx) V ∧ (convert 41 9 (.slice ya yn yc)).run Tryz.prog V = .ok (.string sx) V) [] (by kernel_rfl) ?_
    refine wpAnyU_take (i := 0) [11, 12] rfl (by as_aux_lemma => kernel_rfl) (by as_aux_lemma => kernel_rfl) (by as_aux_lemma => kernel_rfl) (by as_aux_lemma => kernel_rfl) (by as_aux_lemma => kernel_rfl) (by as_aux_lemma => kernel_rfl) (fun _ _ _ h => h) (yields_load_row (by rfl) _ _ rfl w3.heap.size rfl _ _ (0, 0) _ (fun W hS => hS.1) Tryz.underlying36 rfl HSN.out) hS0 ?_
    try simp only [Act.put, List.getElem_toArray, List.getElem_cons_succ, List.getElem_cons_zero, List.setIfInBounds_toArray, List.set_cons_zero, List.set_cons_succ]
    refine wpAnyU_take (i := 1) [3, 4, 5, 6, 7, 8, 9, 10, 11, 12] rfl (by as_aux_lemma => kernel_rfl) (by as_aux_lemma => kernel_rfl) (by as_aux_lemma => kernel_rfl) (by as_aux_lemma => kernel_rfl) (by as_aux_lemma => kernel_rfl) (by as_aux_lemma => kernel_rfl) (fun _ _ _ h => h) (Or.inl ⟨by rfl, (by intro W hSW; (try dsimp only at hSW); (try go_split_ands); go_simp <;> with_reducible rfl)⟩) hS0 ?_
    try simp only [Act.put, List.getElem_toArray, List.getElem_cons_succ, List.getElem_cons_zero, List.setIfInBounds_toArray, List.set_cons_zero, List.set_cons_succ]
    refine wpAnyU_take (i := 2) [3, 4, 5, 6, 7, 8, 9, 10, 11, 12] rfl (by as_aux_lemma => kernel_rfl) (by as_aux_lemma => kernel_rfl) (by as_aux_lemma => kernel_rfl) (by as_aux_lemma => kernel_rfl) (by as_aux_lemma => kernel_rfl) (by as_aux_lemma => kernel_rfl) (fun _ _ _ h => h) (Or.inl ⟨by rfl, (by intro W hSW; (try dsimp only at hSW); (try go_split_ands); go_simp <;> with_reducible rfl)⟩) hS0 ?_
    try simp only [Act.put, List.getElem_toArray, List.getElem_cons_succ, List.getElem_cons_zero, List.setIfInBounds_toArray, List.set_cons_zero, List.set_cons_succ]
    refine wpAnyU_take (i := 3) [4, 5, 6, 7, 8, 9, 10, 11, 12] rfl (by as_aux_lemma => kernel_rfl) (by as_aux_lemma => kernel_rfl) (by as_aux_lemma => kernel_rfl) (by as_aux_lemma => kernel_rfl) (by as_aux_lemma => kernel_rfl) (by as_aux_lemma => kernel_rfl) (fun _ _ _ h => h) (Or.inl ⟨by rfl, (by intro W hSW; (try dsimp only at hSW); (try go_split_ands); go_simp <;> with_reducible rfl)⟩) hS0 ?_
    try simp only [Act.put, List.getElem_toArray, List.getElem_cons_succ, List.getElem_cons_zero, List.setIfInBounds_toArray, List.set_cons_zero, List.set_cons_succ]
    refine wpAnyU_take (i := 4) [5, 6, 7, 8, 9, 10, 11, 12] rfl (by as_aux_lemma => kernel_rfl) (by as_aux_lemma => kernel_rfl) (by as_aux_lemma => kernel_rfl) (by as_aux_lemma => kernel_rfl) (by as_aux_lemma => kernel_rfl) (by as_aux_lemma => kernel_rfl) (fun _ _ _ h => h) (Or.inl ⟨by rfl, (by intro W hSW; (try dsimp only at hSW); (try go_split_ands); go_simp <;> with_reducible rfl)⟩) hS0 ?_
    try simp only [Act.put, List.getElem_toArray, List.getElem_cons_succ, List.getElem_cons_zero, List.setIfInBounds_toArray, List.set_cons_zero, List.set_cons_succ]
    refine wpAnyU_take (i := 5) [6, 9, 10, 12] rfl (by as_aux_lemma => kernel_rfl) (by as_aux_lemma => kernel_rfl) (by as_aux_lemma => kernel_rfl) (by as_aux_lemma => kernel_rfl) (by as_aux_lemma => kernel_rfl) (by as_aux_lemma => kernel_rfl) (fun _ _ _ h => h) (by first | exact Or.inl ⟨by rfl, (by intro W hSW; (try dsimp only at hSW); (try go_split_ands); go_simp <;> with_reducible rfl)⟩ | exact Or.inr ⟨by rfl, rfl⟩) hS0 ?_
    try simp only [Act.put, List.getElem_toArray, List.getElem_cons_succ, List.getElem_cons_zero, List.setIfInBounds_toArray, List.set_cons_zero, List.set_cons_succ]
    refine wpAnyU_take (i := 6) [9, 10, 12] rfl (by as_aux_lemma => kernel_rfl) (by as_aux_lemma => kernel_rfl) (by as_aux_lemma => kernel_rfl) (by as_aux_lemma => kernel_rfl) (by as_aux_lemma => kernel_rfl) (by as_aux_lemma => kernel_rfl) (fun _ _ _ h => h) (by first | exact Or.inl ⟨by rfl, (by intro W hSW; (try dsimp only at hSW); (try go_split_ands); go_simp <;> with_reducible rfl)⟩ | exact Or.inr ⟨by rfl, rfl⟩) hS0 ?_
    try simp only [Act.put, List.getElem_toArray, List.getElem_cons_succ, List.getElem_cons_zero, List.setIfInBounds_toArray, List.set_cons_zero, List.set_cons_succ]
    refine wpAnyU_take (i := 7) [8, 9, 10, 12] rfl (by as_aux_lemma => kernel_rfl) (by as_aux_lemma => kernel_rfl) (by as_aux_lemma => kernel_rfl) (by as_aux_lemma => kernel_rfl) (by as_aux_lemma => kernel_rfl) (by as_aux_lemma => kernel_rfl) (fun _ _ _ h => h) (by first | exact Or.inl ⟨by rfl, (by intro W hSW; (try dsimp only at hSW); (try go_split_ands); go_simp <;> with_reducible rfl)⟩ | exact Or.inr ⟨by rfl, rfl⟩) hS0 ?_
    try simp only [Act.put, List.getElem_toArray, List.getElem_cons_succ, List.getElem_cons_zero, List.setIfInBounds_toArray, List.set_cons_zero, List.set_cons_succ]
    refine wpAnyU_take (i := 8) [9, 10, 12] rfl (by as_aux_lemma => kernel_rfl) (by as_aux_lemma => kernel_rfl) (by as_aux_lemma => kernel_rfl) (by as_aux_lemma => kernel_rfl) (by as_aux_lemma => kernel_rfl) (by as_aux_lemma => kernel_rfl) (fun _ _ _ h => h) (by first | exact Or.inl ⟨by rfl, (by intro W hSW; (try dsimp only at hSW); (try go_split_ands); go_simp <;> with_reducible rfl)⟩ | exact Or.inr ⟨by rfl, rfl⟩) hS0 ?_
    try simp only [Act.put, List.getElem_toArray, List.getElem_cons_succ, List.getElem_cons_zero, List.setIfInBounds_toArray, List.set_cons_zero, List.set_cons_succ]
    refine wpAnyU_take (i := 9) [10, 12] rfl (by as_aux_lemma => kernel_rfl) (by as_aux_lemma => kernel_rfl) (by as_aux_lemma => kernel_rfl) (by as_aux_lemma => kernel_rfl) (by as_aux_lemma => kernel_rfl) (by as_aux_lemma => kernel_rfl) (fun _ _ _ h => h) (by first | exact Or.inl ⟨by rfl, (by intro W hSW; (try dsimp only at hSW); (try go_split_ands); go_simp <;> with_reducible rfl)⟩ | exact Or.inr ⟨by rfl, rfl⟩) hS0 ?_
    try simp only [Act.put, List.getElem_toArray, List.getElem_cons_succ, List.getElem_cons_zero, List.setIfInBounds_toArray, List.set_cons_zero, List.set_cons_succ]
    refine wpAnyU_take (i := 10) [12] rfl (by as_aux_lemma => kernel_rfl) (by as_aux_lemma => kernel_rfl) (by as_aux_lemma => kernel_rfl) (by as_aux_lemma => kernel_rfl) (by as_aux_lemma => kernel_rfl) (by as_aux_lemma => kernel_rfl) (fun _ _ _ h => h) (Or.inl ⟨by rfl, (by intro W hSW; (try dsimp only at hSW); (try go_split_ands); go_simp <;> with_reducible rfl)⟩) hS0 ?_
    try simp only [Act.put, List.getElem_toArray, List.getElem_cons_succ, List.getElem_cons_zero, List.setIfInBounds_toArray, List.set_cons_zero, List.set_cons_succ]
    refine wpAnyU_one (i := 11) (by kernel_rfl) rfl (fun K hK => ?_)
    refine step_store_is rfl _ _ _ rfl (w.heap.size + 3) csn (by rfl) (by rfl) _ _ HR5.out HSN.out (by have := HSN.out; rw [info6] at this; injection this) HON.out ?_
    rw [hw6]
    refine hK.out _ _ (fun _ => hS6) (fun _ => ?_)
    clear hK K
    try simp only [Act.put, List.getElem_toArray, List.getElem_cons_succ, List.getElem_cons_zero, List.setIfInBounds_toArray, List.set_cons_zero, List.set_cons_succ]
    refine wpAnyU_take (i := 12) [] rfl (by as_aux_lemma => kernel_rfl) (by as_aux_lemma => kernel_rfl) (by as_aux_lemma => kernel_rfl) (by as_aux_lemma => kernel_rfl) (by as_aux_lemma => kernel_rfl) (by as_aux_lemma => kernel_rfl) (fun _ _ _ h => h) (Or.inl ⟨by rfl, (by intro W hSW; (try dsimp only at hSW); (try go_split_ands); go_simp <;> with_reducible rfl)⟩) hS6 ?_
    try simp only [Act.put, List.getElem_toArray, List.getElem_cons_succ, List.getElem_cons_zero, List.setIfInBounds_toArray, List.set_cons_zero, List.set_cons_succ]
    refine wpAnyU_done (by kernel_rfl) ?_ _
    clear hS0 hS6
    go_wp2_with fail
    exact bodyPost_ret (v := .tuple #[.agg csn, .bool true]) (by simp [results, Tryz.results11, asAddr, Act.put, run_loadVar_row w6 (w.heap.size + 3) 36 36 _ (0, 0) _ HFIN.out.1 Tryz.underlying36 rfl HSN.out]) rfl HFIN.out.2
  · have hz : (code == c2) = false := by simpa using hcd
    rw [hz] at hfin
    have HFIN := Lib.hid hfin
    clear hfin hxy
    go_upto_region 5 with (first | rw [hw4] | (refine wpList_store_row rfl _ _ _ rfl w3.heap.size _ rfl rfl _ _ HK4.out HSN.out (by have := HSN.out; rw [info6] at this; injection this) HON.out ?_; rw [hw5]))
    refine wp_region_U (fun V => V.heap[w3.heap.size]? = some (.cells csn 36 (0, 0)) ∧ (convert 41 9 (.slice xa xn xc)).run Tryz.prog V = .ok (.string sx) V ∧ (convert 41 9 (.slice ya yn yc)).run Tryz.prog V = .ok (.string sy) V) [] (by kernel_rfl) ?_
    refine wpAnyU_take (i := 0) [11, 12] rfl (by as_aux_lemma => kernel_rfl) (by as_aux_lemma => kernel_rfl) (by as_aux_lemma => kernel_rfl) (by as_aux_lemma => kernel_rfl) (by as_aux_lemma => kernel_rfl) (by as_aux_lemma => kernel_rfl) (fun _ _ _ h => h) (yields_load_row (by rfl) _ _ rfl w3.heap.size rfl _ _ (0, 0) _ (fun W hS => hS.1) Tryz.underlying36 rfl HSN.out) hS0 ?_
    try simp only [Act.put, List.getElem_toArray, List.getElem_cons_succ, List.getElem_cons_zero, List.setIfInBounds_toArray, List.set_cons_zero, List.set_cons_succ]
    refine wpAnyU_take (i := 1) [3, 4, 5, 6, 7, 8, 9, 10, 11, 12] rfl (by as_aux_lemma => kernel_rfl) (by as_aux_lemma => kernel_rfl) (by as_aux_lemma => kernel_rfl) (by as_aux_lemma => kernel_rfl) (by as_aux_lemma => kernel_rfl) (by as_aux_lemma => kernel_rfl) (fun _ _ _ h => h) (Or.inl ⟨by rfl, (by intro W hSW; (try dsimp only at hSW); (try go_split_ands); go_simp <;> with_reducible rfl)⟩) hS0 ?_
    try simp only [Act.put, List.getElem_toArray, List.getElem_cons_succ, List.getElem_cons_zero, List.setIfInBounds_toArray, List.set_cons_zero, List.set_cons_succ]
    refine wpAnyU_take (i := 2) [3, 4, 5, 6, 7, 8, 9, 10, 11, 12] rfl (by as_aux_lemma => kernel_rfl) (by as_aux_lemma => kernel_rfl) (by as_aux_lemma => kernel_rfl) (by as_aux_lemma => kernel_rfl) (by as_aux_lemma => kernel_rfl) (by as_aux_lemma => kernel_rfl) (fun _ _ _ h => h) (Or.inl ⟨by rfl, (by intro W hSW; (try dsimp only at hSW); (try go_split_ands); go_simp <;> with_reducible rfl)⟩) hS0 ?_
    try simp only [Act.put, List.getElem_toArray, List.getElem_cons_succ, List.getElem_cons_zero, List.setIfInBounds_toArray, List.set_cons_zero, List.set_cons_succ]
    refine wpAnyU_take (i := 3) [4, 5, 6, 7, 8, 9, 10, 11, 12] rfl (by as_aux_lemma => kernel_rfl) (by as_aux_lemma => kernel_rfl) (by as_aux_lemma => kernel_rfl) (by as_aux_lemma => kernel_rfl) (by as_aux_lemma => kernel_rfl) (by as_aux_lemma => kernel_rfl) (fun _ _ _ h => h) (Or.inl ⟨by rfl, (by intro W hSW; (try dsimp only at hSW); (try go_split_ands); go_simp <;> with_reducible rfl)⟩) hS0 ?_
    try simp only [Act.put, List.getElem_toArray, List.getElem_cons_succ, List.getElem_cons_zero, List.setIfInBounds_toArray, List.set_cons_zero, List.set_cons_succ]
    refine wpAnyU_take (i := 4) [5, 6, 7, 8, 9, 10, 11, 12] rfl (by as_aux_lemma => kernel_rfl) (by as_aux_lemma => kernel_rfl) (by as_aux_lemma => kernel_rfl) (by as_aux_lemma => kernel_rfl) (by as_aux_lemma => kernel_rfl) (by as_aux_lemma => kernel_rfl) (fun _ _ _ h => h) (Or.inl ⟨by rfl, (by intro W hSW; (try dsimp only at hSW); (try go_split_ands); go_simp <;> with_reducible rfl)⟩) hS0 ?_
    try simp only [Act.put, List.getElem_toArray, List.getElem_cons_succ, List.getElem_cons_zero, List.setIfInBounds_toArray, List.set_cons_zero, List.set_cons_succ]
    refine wpAnyU_take (i := 5) [6, 9, 10, 12] rfl (by as_aux_lemma => kernel_rfl) (by as_aux_lemma => kernel_rfl) (by as_aux_lemma => kernel_rfl) (by as_aux_lemma => kernel_rfl) (by as_aux_lemma => kernel_rfl) (by as_aux_lemma => kernel_rfl) (fun _ _ _ h => h) (by first | exact Or.inl ⟨by rfl, (by intro W hSW; (try dsimp only at hSW); (try go_split_ands); go_simp <;> with_reducible rfl)⟩ | exact Or.inr ⟨by rfl, rfl⟩) hS0 ?_
    try simp only [Act.put, List.getElem_toArray, List.getElem_cons_succ, List.getElem_cons_zero, List.setIfInBounds_toArray, List.set_cons_zero, List.set_cons_succ]
    refine wpAnyU_take (i := 6) [9, 10, 12] rfl (by as_aux_lemma => kernel_rfl) (by as_aux_lemma => kernel_rfl) (by as_aux_lemma => kernel_rfl) (by as_aux_lemma => kernel_rfl) (by as_aux_lemma => kernel_rfl) (by as_aux_lemma => kernel_rfl) (fun _ _ _ h => h) (by first | exact Or.inl ⟨by rfl, (by intro W hSW; (try dsimp only at hSW); (try go_split_ands); go_simp <;> with_reducible rfl)⟩ | exact Or.inr ⟨by rfl, rfl⟩) hS0 ?_
    try simp only [Act.put, List.getElem_toArray, List.getElem_cons_succ, List.getElem_cons_zero, List.setIfInBounds_toArray, List.set_cons_zero, List.set_cons_succ]
    refine wpAnyU_take (i := 7) [8, 9, 10, 12] rfl (by as_aux_lemma => kernel_rfl) (by as_aux_lemma => kernel_rfl) (by as_aux_lemma => kernel_rfl) (by as_aux_lemma => kernel_rfl) (by as_aux_lemma => kernel_rfl) (by as_aux_lemma => kernel_rfl) (fun _ _ _ h => h) (by first | exact Or.inl ⟨by rfl, (by intro W hSW; (try dsimp only at hSW); (try go_split_ands); go_simp <;> with_reducible rfl)⟩ | exact Or.inr ⟨by rfl, rfl⟩) hS0 ?_
    try simp only [Act.put, List.getElem_toArray, List.getElem_cons_succ, List.getElem_cons_zero, List.setIfInBounds_toArray, List.set_cons_zero, List.set_cons_succ]
    refine wpAnyU_take (i := 8) [9, 10, 12] rfl (by as_aux_lemma => kernel_rfl) (by as_aux_lemma => kernel_rfl) (by as_aux_lemma => kernel_rfl) (by as_aux_lemma => kernel_rfl) (by as_aux_lemma => kernel_rfl) (by as_aux_lemma => kernel_rfl) (fun _ _ _ h => h) (by first | exact Or.inl ⟨by rfl, (by intro W hSW; (try dsimp only at hSW); (try go_split_ands); go_simp <;> with_reducible rfl)⟩ | exact Or.inr ⟨by rfl, rfl⟩) hS0 ?_
    try simp only [Act.put, List.getElem_toArray, List.getElem_cons_succ, List.getElem_cons_zero, List.setIfInBounds_toArray, List.set_cons_zero, List.set_cons_succ]
    refine wpAnyU_take (i := 9) [10, 12] rfl (by as_aux_lemma => kernel_rfl) (by as_aux_lemma => kernel_rfl) (by as_aux_lemma => kernel_rfl) (by as_aux_lemma => kernel_rfl) (by as_aux_lemma => kernel_rfl) (by as_aux_lemma => kernel_rfl) (fun _ _ _ h => h) (by first | exact Or.inl ⟨by rfl, (by intro W hSW; (try dsimp only at hSW); (try go_split_ands); go_simp <;> with_reducible rfl)⟩ | exact Or.inr ⟨by rfl, rfl⟩) hS0 ?_
    try simp only [Act.put, List.getElem_toArray, List.getElem_cons_succ, List.getElem_cons_zero, List.setIfInBounds_toArray, List.set_cons_zero, List.set_cons_succ]
    refine wpAnyU_take (i := 10) [12] rfl (by as_aux_lemma => kernel_rfl) (by as_aux_lemma => kernel_rfl) (by as_aux_lemma => kernel_rfl) (by as_aux_lemma => kernel_rfl) (by as_aux_lemma => kernel_rfl) (by as_aux_lemma => kernel_rfl) (fun _ _ _ h => h) (Or.inl ⟨by rfl, (by intro W hSW; (try dsimp only at hSW); (try go_split_ands); go_simp <;> with_reducible rfl)⟩) hS0 ?_
    try simp only [Act.put, List.getElem_toArray, List.getElem_cons_succ, List.getElem_cons_zero, List.setIfInBounds_toArray, List.set_cons_zero, List.set_cons_succ]
    refine wpAnyU_one (i := 11) (by kernel_rfl) rfl (fun K hK => ?_)
    refine step_store_is rfl _ _ _ rfl (w.heap.size + 3) csn (by rfl) (by rfl) _ _ HR5.out HSN.out (by have := HSN.out; rw [info6] at this; injection this) HON.out ?_
    rw [hw6]
    refine hK.out _ _ (fun _ => hS6) (fun _ => ?_)
    clear hK K
    try simp only [Act.put, List.getElem_toArray, List.getElem_cons_succ, List.getElem_cons_zero, List.setIfInBounds_toArray, List.set_cons_zero, List.set_cons_succ]
    refine wpAnyU_take (i := 12) [] rfl (by as_aux_lemma => kernel_rfl) (by as_aux_lemma => kernel_rfl) (by as_aux_lemma => kernel_rfl) (by as_aux_lemma => kernel_rfl) (by as_aux_lemma => kernel_rfl) (by as_aux_lemma => kernel_rfl) (fun _ _ _ h => h) (Or.inl ⟨by rfl, (by intro W hSW; (try dsimp only at hSW); (try go_split_ands); go_simp <;> with_reducible rfl)⟩) hS6 ?_
    try simp only [Act.put, List.getElem_toArray, List.getElem_cons_succ, List.getElem_cons_zero, List.setIfInBounds_toArray, List.set_cons_zero, List.set_cons_succ]
    refine wpAnyU_done (by kernel_rfl) ?_ _
    clear hS0 hS6
    go_wp2_with fail
    exact bodyPost_ret (v := .tuple #[.agg csn, .bool false]) (by simp [results, Tryz.results11, asAddr, Act.put, run_loadVar_row w6 (w.heap.size + 3) 36 36 _ (0, 0) _ HFIN.out.1 Tryz.underlying36 rfl HSN.out]) rfl HFIN.out.2
end
end Mun
end

section
/- munimentlaw8.play: WriteAll, Sync. -/
set_option maxRecDepth 100000
set_option linter.unusedVariables false
set_option linter.unusedSimpArgs false
namespace Mun
open Go Go.RowKit
open Go.Proofs

section
variable {w0 w w' : World} {D L Pb n i : Nat} {s s' : PX} {x x' : PZ} {last : List Bytes} {p p' q : RP} {xr xr' : RPV} {v' : PLV}

set_option maxHeartbeats 4000000 in
theorem pq_play4 (h : PM0 w0 w D L Pb s x p xr) (hi : PI n i s last p) (hs : i + 1 ≤ 3518437208882) (dn : Int) (bv : Value) (b : Bytes) (hb : RdB (x.tf Pb L) w bv b) :
    Calls Tryz.prog 11 #[.agg (bcells D L Pb), .agg (rpcells p xr), .agg #[.int .i64 4, .int .i64 dn, bv]] w (PlayQ w0 w D L Pb n (i + 1) s x) := by
  obtain ⟨ba, bn, bc, rfl, -⟩ := hb.formN
  obtain ⟨w1, hw1⟩ : ∃ w1, (((w.alloc (.cells (bcells D L Pb) 28)).alloc (.cells (rpcells p xr) 36)).alloc (.cells #[.int .i64 4, .int .i64 dn, .slice ba bn bc] 43)).alloc (.cells Z6 36) = w1 := ⟨_, rfl⟩
  have hp1 := PW.start h #[.int .i64 4, .int .i64 dn, .slice ba bn bc] hw1
  have hok := hi.ok h
  have hpins := hi.pinsR
  obtain ⟨post, hpost⟩ : ∃ post : Ending → World → Prop, post = PlayQ w0 w D L Pb n (i + 1) s x := ⟨_, rfl⟩
  rw [← hpost]
  have hsz := rp_size p xr
  obtain ⟨b10, b11, b12⟩ := hp1.bx.bc
  obtain ⟨d10, d11, d12⟩ := hp1.bx.dc
  obtain ⟨csm, hcsm⟩ : ∃ csm, rpcells p xr = csm := ⟨_, rfl⟩
  rw [hcsm] at hw1 hsz hp1 ⊢
  have HSZ := Lib.hid hsz
  have hp1d := hp1.more (below_drewN (Below.refl _ _) 1)
  have hr := rp_writeAll hp1d.pm.ra hok hp1d.pm.hF
  rw [show w1.drewN 1 = w1.drew from rfl, hcsm] at hr
  have hS0 : w1.drew.heap[w.heap.size + 1]? = some (.cells csm 36 (0, 0)) ∧ w1.drew.cell? ⟨w.heap.size, 2, none⟩ = some (.pointer (some ⟨Pb, 0, none⟩)) := ⟨hp1d.bx.m, hp1d.bx.bc.2.2⟩
  have HR := Lib.hid hr
  have HX := Lib.hid (And.intro hp1d (And.intro hi (And.intro hs hpost)))
  clear h hi hb hp1 hok hpins hpost hsz hcsm hs hp1d hr b10 b11 b12 d12
  unfold bcells Z6 at hw1
  unfold bcells
  go_enter Tryz.func11, Tryz.ntmps11
  go_upto_region 23 with (first | rw [hw1])
  refine wp_region_U (fun V => V.heap[w.heap.size + 1]? = some (.cells csm 36 (0, 0)) ∧ V.cell? ⟨w.heap.size, 2, none⟩ = some (.pointer (some ⟨Pb, 0, none⟩))) [] (by kernel_rfl) ?_
  refine wpAnyU_take (i := 0) [1, 4, 5, 6, 7] rfl (by as_aux_lemma => kernel_rfl) (by as_aux_lemma => kernel_rfl) (by as_aux_lemma => kernel_rfl) (by as_aux_lemma => kernel_rfl) (by as_aux_lemma => kernel_rfl) (by as_aux_lemma => kernel_rfl) (fun _ _ _ h => h) (yields_load_row (by rfl) _ _ rfl (w.heap.size + 1) rfl _ _ (0, 0) _ (fun W hS => hS.1) Tryz.underlying36 rfl HSZ.out) hS0 ?_
  try simp only [Act.put, List.getElem_toArray, List.getElem_cons_succ, List.getElem_cons_zero, List.setIfInBounds_toArray, List.set_cons_zero, List.set_cons_succ]
  refine wpAnyU_take (i := 2) [3, 4, 5, 6, 7] rfl (by as_aux_lemma => kernel_rfl) (by as_aux_lemma => kernel_rfl) (by as_aux_lemma => kernel_rfl) (by as_aux_lemma => kernel_rfl) (by as_aux_lemma => kernel_rfl) (by as_aux_lemma => kernel_rfl) (fun _ _ _ h => h) (Or.inl ⟨by rfl, (by intro W hSW; (try dsimp only at hSW); (try go_split_ands); go_simp <;> with_reducible rfl)⟩) hS0 ?_
  try simp only [Act.put, List.getElem_toArray, List.getElem_cons_succ, List.getElem_cons_zero, List.setIfInBounds_toArray, List.set_cons_zero, List.set_cons_succ]
  refine wpAnyU_take (i := 3) [4, 5, 6, 7] rfl (by as_aux_lemma => kernel_rfl) (by as_aux_lemma => kernel_rfl) (by as_aux_lemma => kernel_rfl) (by as_aux_lemma => kernel_rfl) (by as_aux_lemma => kernel_rfl) (by as_aux_lemma => kernel_rfl) (fun _ _ _ h => h) (Or.inl ⟨by rfl, (by intro W hSW; (try dsimp only at hSW); (try go_split_ands); go_simp <;> with_reducible rfl)⟩) hS0 ?_
  try simp only [Act.put, List.getElem_toArray, List.getElem_cons_succ, List.getElem_cons_zero, List.setIfInBounds_toArray, List.set_cons_zero, List.set_cons_succ]
  refine wpAnyU_one (i := 1) (by kernel_rfl) rfl (fun K hK => ?_)
  go_simp
  go_at_call 37
  (with_reducible refine HR.out.mono ?_)
  rintro e w2 ⟨x3, rfl, ha2, hb2⟩
  have H2 : Hid (PW w0 w w2 D L Pb s x (OwZ w x) p.writeAll x3 csm #[.int .i64 4, .int .i64 dn, .slice ba bn bc]) := Lib.hid (HX.out.1.ref hb2 ha2)
  have hS2 : w2.heap[w.heap.size + 1]? = some (.cells csm 36 (0, 0)) ∧ w2.cell? ⟨w.heap.size, 2, none⟩ = some (.pointer (some ⟨Pb, 0, none⟩)) := ⟨H2.out.bx.m, H2.out.bx.bc.2.2⟩
  have hc := pq_writeAll H2.out.pm HX.out.2.1 HX.out.2.2.1
  have HC := Lib.hid hc
  clear hc ha2 hb2
  simp only [id]
  refine hK.out _ _ (fun _ => hS2) (fun _ => ?_)
  clear hK K
  try simp only [Act.put, List.getElem_toArray, List.getElem_cons_succ, List.getElem_cons_zero, List.setIfInBounds_toArray, List.set_cons_zero, List.set_cons_succ]
  refine wpAnyU_one (i := 4) (by kernel_rfl) rfl (fun K hK => ?_)
  go_simp
  go_at_call 25
  (with_reducible refine HC.out.mono ?_)
  rintro e w3 ⟨code, s2, x2, rfl, hm3, hc3, hf3⟩
  have hpw3 := H2.out.prog hm3 hc3
  have hS3 : w3.heap[w.heap.size + 1]? = some (.cells csm 36 (0, 0)) ∧ w3.cell? ⟨w.heap.size, 2, none⟩ = some (.pointer (some ⟨Pb, 0, none⟩)) := ⟨hpw3.bx.m, hpw3.bx.bc.2.2⟩
  obtain ⟨w6, hw6⟩ : ∃ w6, w3.setRow (w.heap.size + 3) (rpcells p.writeAll x3) = w6 := ⟨_, rfl⟩
  have hS6 : w6.heap[w.heap.size + 1]? = some (.cells csm 36 (0, 0)) ∧ w6.cell? ⟨w.heap.size, 2, none⟩ = some (.pointer (some ⟨Pb, 0, none⟩)) := by
    rw [← hw6]
    exact ⟨(setRow_ne _ _ _ _ (by omega)).trans hS3.1, by rw [World.cell?_of_block (setRow_ne _ _ _ _ (by simp only; omega))]; exact hS3.2⟩
  have hfin : PBox w6 (w.heap.size + 3) (rpcells p.writeAll x3) ∧ post (.returned (.tuple #[.agg (rpcells p.writeAll x3), .bool (code == 0)])) w6 := by
    obtain ⟨f1, f2, f3⟩ := hpw3.fin (rpcells p.writeAll x3)
    rw [hw6] at f1 f2 f3
    refine ⟨f3, ?_⟩
    rw [HX.out.2.2.2]
    refine ⟨_, x3, _, s2, x2, rfl, f1, f2, ?_⟩
    rcases hf3 with ⟨a1, a2, a3⟩ | ⟨a1, a2, -⟩
    · exact .inl ⟨by rw [a1]; simp, a2, a3⟩
    · exact .inr ⟨a1, a2⟩
  have HSN := Lib.hid (rp_size p.writeAll x3)
  have HON := Lib.hid hpw3.pm.ra.one
  have HR3 := Lib.hid hpw3.bx.r
  have HFIN := Lib.hid hfin
  clear hpw3 hf3 hm3 hc3 hfin H2 HC HX HR
  obtain ⟨csn, hcsn⟩ : ∃ csn, rpcells p.writeAll x3 = csn := ⟨_, rfl⟩
  rw [hcsn] at hw6 HSN HON HFIN ⊢
  refine hK.out _ _ (fun _ => hS3) (fun _ => ?_)
  clear hK K
  try simp only [Act.put, List.getElem_toArray, List.getElem_cons_succ, List.getElem_cons_zero, List.setIfInBounds_toArray, List.set_cons_zero, List.set_cons_succ]
  refine wpAnyU_take (i := 5) [7] rfl (by as_aux_lemma => kernel_rfl) (by as_aux_lemma => kernel_rfl) (by as_aux_lemma => kernel_rfl) (by as_aux_lemma => kernel_rfl) (by as_aux_lemma => kernel_rfl) (by as_aux_lemma => kernel_rfl) (fun _ _ _ h => h) (Or.inl ⟨by rfl, (by intro W hSW; (try dsimp only at hSW); (try go_split_ands); go_simp <;> with_reducible rfl)⟩) hS3 ?_
  try simp only [Act.put, List.getElem_toArray, List.getElem_cons_succ, List.getElem_cons_zero, List.setIfInBounds_toArray, List.set_cons_zero, List.set_cons_succ]
  refine wpAnyU_one (i := 6) (by kernel_rfl) rfl (fun K hK => ?_)
  refine step_store_is rfl _ _ _ rfl (w.heap.size + 3) csn (by rfl) (by rfl) _ _ HR3.out HSN.out (by have := HSN.out; rw [info6] at this; injection this) HON.out ?_
  rw [hw6]
  refine hK.out _ _ (fun _ => hS6) (fun _ => ?_)
  clear hK K
  try simp only [Act.put, List.getElem_toArray, List.getElem_cons_succ, List.getElem_cons_zero, List.setIfInBounds_toArray, List.set_cons_zero, List.set_cons_succ]
  refine wpAnyU_take (i := 7) [] rfl (by as_aux_lemma => kernel_rfl) (by as_aux_lemma => kernel_rfl) (by as_aux_lemma => kernel_rfl) (by as_aux_lemma => kernel_rfl) (by as_aux_lemma => kernel_rfl) (by as_aux_lemma => kernel_rfl) (fun _ _ _ h => h) (Or.inl ⟨by rfl, (by intro W hSW; (try dsimp only at hSW); (try go_split_ands); go_simp <;> with_reducible rfl)⟩) hS6 ?_
  try simp only [Act.put, List.getElem_toArray, List.getElem_cons_succ, List.getElem_cons_zero, List.setIfInBounds_toArray, List.set_cons_zero, List.set_cons_succ]
  refine wpAnyU_done (by kernel_rfl) ?_ _
  clear hS0 hS2 hS3 hS6
  go_wp2_with fail
  exact bodyPost_ret (v := .tuple #[.agg csn, .bool (code == 0)]) (by simp [results, Tryz.results11, asAddr, Act.put, run_loadVar_row w6 (w.heap.size + 3) 36 36 _ (0, 0) _ HFIN.out.1 Tryz.underlying36 rfl HSN.out]) rfl HFIN.out.2

set_option maxHeartbeats 4000000 in
theorem pq_play5 (h : PM0 w0 w D L Pb s x p xr) (hi : PI n i s last p) (hs : i + 1 ≤ 3518437208882) (dn : Int) (bv : Value) (b : Bytes) (hb : RdB (x.tf Pb L) w bv b) (dop : Int) (z0 : (dop == 0) = false) (z1 : (dop == 1) = false) (z2 : (dop == 2) = false) (z3 : (dop == 3) = false) (z4 : (dop == 4) = false) :
    Calls Tryz.prog 11 #[.agg (bcells D L Pb), .agg (rpcells p xr), .agg #[.int .i64 dop, .int .i64 dn, bv]] w (PlayQ w0 w D L Pb n (i + 1) s x) := by
  obtain ⟨ba, bn, bc, rfl, -⟩ := hb.formN
  obtain ⟨w1, hw1⟩ : ∃ w1, (((w.alloc (.cells (bcells D L Pb) 28)).alloc (.cells (rpcells p xr) 36)).alloc (.cells #[.int .i64 dop, .int .i64 dn, .slice ba bn bc] 43)).alloc (.cells Z6 36) = w1 := ⟨_, rfl⟩
  have hp1 := PW.start h #[.int .i64 dop, .int .i64 dn, .slice ba bn bc] hw1
  have hok := hi.ok h
  have hpins := hi.pinsR
  obtain ⟨post, hpost⟩ : ∃ post : Ending → World → Prop, post = PlayQ w0 w D L Pb n (i + 1) s x := ⟨_, rfl⟩
  rw [← hpost]
  have hsz := rp_size p xr
  obtain ⟨b10, b11, b12⟩ := hp1.bx.bc
  obtain ⟨d10, d11, d12⟩ := hp1.bx.dc
  obtain ⟨csm, hcsm⟩ : ∃ csm, rpcells p xr = csm := ⟨_, rfl⟩
  rw [hcsm] at hw1 hsz hp1 ⊢
  have HSZ := Lib.hid hsz
  have hp1d := hp1.more (below_drewN (Below.refl _ _) 1)
  have hr := rp_sync hp1d.pm.ra hok hp1d.pm.hF
  rw [show w1.drewN 1 = w1.drew from rfl, hcsm] at hr
  have hS0 : w1.drew.heap[w.heap.size + 1]? = some (.cells csm 36 (0, 0)) ∧ w1.drew.cell? ⟨w.heap.size, 2, none⟩ = some (.pointer (some ⟨Pb, 0, none⟩)) := ⟨hp1d.bx.m, hp1d.bx.bc.2.2⟩
  have HR := Lib.hid hr
  have HX := Lib.hid (And.intro hp1d (And.intro hi (And.intro hs hpost)))
  clear h hi hb hp1 hok hpins hpost hsz hcsm hs hp1d hr b10 b11 b12 d12
  unfold bcells Z6 at hw1
  unfold bcells
  go_enter Tryz.func11, Tryz.ntmps11
  go_upto_region 24 with (first | rw [hw1])
  refine wp_region_U (fun V => V.heap[w.heap.size + 1]? = some (.cells csm 36 (0, 0)) ∧ V.cell? ⟨w.heap.size, 2, none⟩ = some (.pointer (some ⟨Pb, 0, none⟩))) [] (by kernel_rfl) ?_
  refine wpAnyU_take (i := 0) [1, 4, 5, 6, 7] rfl (by as_aux_lemma => kernel_rfl) (by as_aux_lemma => kernel_rfl) (by as_aux_lemma => kernel_rfl) (by as_aux_lemma => kernel_rfl) (by as_aux_lemma => kernel_rfl) (by as_aux_lemma => kernel_rfl) (fun _ _ _ h => h) (yields_load_row (by rfl) _ _ rfl (w.heap.size + 1) rfl _ _ (0, 0) _ (fun W hS => hS.1) Tryz.underlying36 rfl HSZ.out) hS0 ?_
  try simp only [Act.put, List.getElem_toArray, List.getElem_cons_succ, List.getElem_cons_zero, List.setIfInBounds_toArray, List.set_cons_zero, List.set_cons_succ]
  refine wpAnyU_take (i := 2) [3, 4, 5, 6, 7] rfl (by as_aux_lemma => kernel_rfl) (by as_aux_lemma => kernel_rfl) (by as_aux_lemma => kernel_rfl) (by as_aux_lemma => kernel_rfl) (by as_aux_lemma => kernel_rfl) (by as_aux_lemma => kernel_rfl) (fun _ _ _ h => h) (Or.inl ⟨by rfl, (by intro W hSW; (try dsimp only at hSW); (try go_split_ands); go_simp <;> with_reducible rfl)⟩) hS0 ?_
  try simp only [Act.put, List.getElem_toArray, List.getElem_cons_succ, List.getElem_cons_zero, List.setIfInBounds_toArray, List.set_cons_zero, List.set_cons_succ]
  refine wpAnyU_take (i := 3) [4, 5, 6, 7] rfl (by as_aux_lemma => kernel_rfl) (by as_aux_lemma => kernel_rfl) (by as_aux_lemma => kernel_rfl) (by as_aux_lemma => kernel_rfl) (by as_aux_lemma => kernel_rfl) (by as_aux_lemma => kernel_rfl) (fun _ _ _ h => h) (Or.inl ⟨by rfl, (by intro W hSW; (try dsimp only at hSW); (try go_split_ands); go_simp <;> with_reducible rfl)⟩) hS0 ?_
  try simp only [Act.put, List.getElem_toArray, List.getElem_cons_succ, List.getElem_cons_zero, List.setIfInBounds_toArray, List.set_cons_zero, List.set_cons_succ]
  refine wpAnyU_one (i := 1) (by kernel_rfl) rfl (fun K hK => ?_)
  go_simp
  go_at_call 38
  (with_reducible refine HR.out.mono ?_)
  rintro e w2 ⟨x3, rfl, ha2, hb2⟩
  have H2 : Hid (PW w0 w w2 D L Pb s x (OwZ w x) p.sync x3 csm #[.int .i64 dop, .int .i64 dn, .slice ba bn bc]) := Lib.hid (HX.out.1.ref hb2 ha2)
  have hS2 : w2.heap[w.heap.size + 1]? = some (.cells csm 36 (0, 0)) ∧ w2.cell? ⟨w.heap.size, 2, none⟩ = some (.pointer (some ⟨Pb, 0, none⟩)) := ⟨H2.out.bx.m, H2.out.bx.bc.2.2⟩
  have hc := pq_sync H2.out.pm HX.out.2.1 HX.out.2.2.1
  have HC := Lib.hid hc
  clear hc ha2 hb2
  simp only [id]
  refine hK.out _ _ (fun _ => hS2) (fun _ => ?_)
  clear hK K
  try simp only [Act.put, List.getElem_toArray, List.getElem_cons_succ, List.getElem_cons_zero, List.setIfInBounds_toArray, List.set_cons_zero, List.set_cons_succ]
  refine wpAnyU_one (i := 4) (by kernel_rfl) rfl (fun K hK => ?_)
  go_simp
  go_at_call 16
  (with_reducible refine HC.out.mono ?_)
  rintro e w3 ⟨code, s2, x2, rfl, hm3, hc3, hf3⟩
  have hpw3 := H2.out.prog hm3 hc3
  have hS3 : w3.heap[w.heap.size + 1]? = some (.cells csm 36 (0, 0)) ∧ w3.cell? ⟨w.heap.size, 2, none⟩ = some (.pointer (some ⟨Pb, 0, none⟩)) := ⟨hpw3.bx.m, hpw3.bx.bc.2.2⟩
  obtain ⟨w6, hw6⟩ : ∃ w6, w3.setRow (w.heap.size + 3) (rpcells p.sync x3) = w6 := ⟨_, rfl⟩
  have hS6 : w6.heap[w.heap.size + 1]? = some (.cells csm 36 (0, 0)) ∧ w6.cell? ⟨w.heap.size, 2, none⟩ = some (.pointer (some ⟨Pb, 0, none⟩)) := by
    rw [← hw6]
    exact ⟨(setRow_ne _ _ _ _ (by omega)).trans hS3.1, by rw [World.cell?_of_block (setRow_ne _ _ _ _ (by simp only; omega))]; exact hS3.2⟩
  have hfin : PBox w6 (w.heap.size + 3) (rpcells p.sync x3) ∧ post (.returned (.tuple #[.agg (rpcells p.sync x3), .bool (code == 0)])) w6 := by
    obtain ⟨f1, f2, f3⟩ := hpw3.fin (rpcells p.sync x3)
    rw [hw6] at f1 f2 f3
    refine ⟨f3, ?_⟩
    rw [HX.out.2.2.2]
    refine ⟨_, x3, _, s2, x2, rfl, f1, f2, ?_⟩
    rcases hf3 with ⟨a1, a2, a3⟩ | ⟨a1, a2, -⟩
    · exact .inl ⟨by rw [a1]; simp, a2, a3⟩
    · exact .inr ⟨a1, a2⟩
  have HSN := Lib.hid (rp_size p.sync x3)
  have HON := Lib.hid hpw3.pm.ra.one
  have HR3 := Lib.hid hpw3.bx.r
  have HFIN := Lib.hid hfin
  clear hpw3 hf3 hm3 hc3 hfin H2 HC HX HR
  obtain ⟨csn, hcsn⟩ : ∃ csn, rpcells p.sync x3 = csn := ⟨_, rfl⟩
  rw [hcsn] at hw6 HSN HON HFIN ⊢
  refine hK.out _ _ (fun _ => hS3) (fun _ => ?_)
  clear hK K
  try simp only [Act.put, List.getElem_toArray, List.getElem_cons_succ, List.getElem_cons_zero, List.setIfInBounds_toArray, List.set_cons_zero, List.set_cons_succ]
  refine wpAnyU_take (i := 5) [7] rfl (by as_aux_lemma => kernel_rfl) (by as_aux_lemma => kernel_rfl) (by as_aux_lemma => kernel_rfl) (by as_aux_lemma => kernel_rfl) (by as_aux_lemma => kernel_rfl) (by as_aux_lemma => kernel_rfl) (fun _ _ _ h => h) (Or.inl ⟨by rfl, (by intro W hSW; (try dsimp only at hSW); (try go_split_ands); go_simp <;> with_reducible rfl)⟩) hS3 ?_
  try simp only [Act.put, List.getElem_toArray, List.getElem_cons_succ, List.getElem_cons_zero, List.setIfInBounds_toArray, List.set_cons_zero, List.set_cons_succ]
  refine wpAnyU_one (i := 6) (by kernel_rfl) rfl (fun K hK => ?_)
  refine step_store_is rfl _ _ _ rfl (w.heap.size + 3) csn (by rfl) (by rfl) _ _ HR3.out HSN.out (by have := HSN.out; rw [info6] at this; injection this) HON.out ?_
  rw [hw6]
  refine hK.out _ _ (fun _ => hS6) (fun _ => ?_)
  clear hK K
  try simp only [Act.put, List.getElem_toArray, List.getElem_cons_succ, List.getElem_cons_zero, List.setIfInBounds_toArray, List.set_cons_zero, List.set_cons_succ]
  refine wpAnyU_take (i := 7) [] rfl (by as_aux_lemma => kernel_rfl) (by as_aux_lemma => kernel_rfl) (by as_aux_lemma => kernel_rfl) (by as_aux_lemma => kernel_rfl) (by as_aux_lemma => kernel_rfl) (by as_aux_lemma => kernel_rfl) (fun _ _ _ h => h) (Or.inl ⟨by rfl, (by intro W hSW; (try dsimp only at hSW); (try go_split_ands); go_simp <;> with_reducible rfl)⟩) hS6 ?_
  try simp only [Act.put, List.getElem_toArray, List.getElem_cons_succ, List.getElem_cons_zero, List.setIfInBounds_toArray, List.set_cons_zero, List.set_cons_succ]
  refine wpAnyU_done (by kernel_rfl) ?_ _
  clear hS0 hS2 hS3 hS6
  go_wp2_with fail
  exact bodyPost_ret (v := .tuple #[.agg csn, .bool (code == 0)]) (by simp [results, Tryz.results11, asAddr, Act.put, run_loadVar_row w6 (w.heap.size + 3) 36 36 _ (0, 0) _ HFIN.out.1 Tryz.underlying36 rfl HSN.out]) rfl HFIN.out.2
end
end Mun
end

section
/- munimentlaw8.play: Put. -/
set_option maxRecDepth 100000
set_option linter.unusedVariables false
set_option linter.unusedSimpArgs false
namespace Mun
open Go Go.RowKit
open Go.Proofs

section
variable {w0 w w' : World} {D L Pb n i : Nat} {s s' : PX} {x x' : PZ} {last : List Bytes} {p p' q : RP} {xr xr' : RPV} {v' : PLV}
/-- the log's end is laid into the model -/
theorem PW.mfin {W : World} {dv : Array Value} {x0 : PZ} {xq : RPV} (h : PW w0 w W D L Pb s x0 x q xq (rpcells q xq) dv) (f : Nat) : PW w0 w (W.setCell ⟨w.heap.size + 1, 4, none⟩ (.int .u64 (f : Int))) D L Pb s x0 x { q with fin := f } xq (rpcells { q with fin := f } xq) dv := by
  have hb : Below w0.heap.size w0 (W.setCell ⟨w.heap.size + 1, 4, none⟩ (.int .u64 (f : Int))) := h.pm.below.setCell (by have := h.w0l; simp only; omega) _
  have hne : ∀ j, j ≠ w.heap.size + 1 → (W.setCell ⟨w.heap.size + 1, 4, none⟩ (.int .u64 (f : Int))).heap[j]? = W.heap[j]? := fun j hj => setCell_heap _ _ _ _ hj
  have hst := h.pm.store (b := w.heap.size + 1) (by rw [h.z]; exact .inr ⟨by omega, by omega⟩) (h.own _ (by omega) (by omega)) hne (setCell_size _ _ _) hb
  refine ⟨⟨hst.pl, ⟨hst.ra.fs, hst.ra.frs, hst.ra.fb, hst.ra.ds, hst.ra.ks, hst.ra.kps, hst.ra.kb⟩, hst.below, hst.af0⟩, ⟨(hne _ (by omega)).trans h.bx.b, ?_, (hne _ (by omega)).trans h.bx.d, (hne _ (by omega)).trans h.bx.r⟩, h.z, ?_, h.own, by rw [setCell_size]; exact h.sz, h.w0l⟩
  · exact h.bx.m.set 4 _
  · exact ⟨h.cg.os, h.cg.tape, h.cg.output, by rw [setCell_size]; exact h.cg.size, fun k hk hn => (hne _ (by omega)).trans (h.cg.block k hk hn), by rw [setCell_size]; exact h.cg.foot⟩

set_option maxHeartbeats 4000000 in
theorem pq_play2 (h : PM0 w0 w D L Pb s x p xr) (hi : PI n i s last p) (hs : i + 1 ≤ 3518437208882) (dn : Int) (bv : Value) (b : Bytes) (hb : RdB (x.tf Pb L) w bv b) :
    Calls Tryz.prog 11 #[.agg (bcells D L Pb), .agg (rpcells p xr), .agg #[.int .i64 2, .int .i64 dn, bv]] w (PlayQ w0 w D L Pb n (i + 1) s x) := by
  obtain ⟨ba, bn, bc, rfl, -⟩ := hb.formN
  obtain ⟨w1, hw1⟩ : ∃ w1, (((w.alloc (.cells (bcells D L Pb) 28)).alloc (.cells (rpcells p xr) 36)).alloc (.cells #[.int .i64 2, .int .i64 dn, .slice ba bn bc] 43)).alloc (.cells Z6 36) = w1 := ⟨_, rfl⟩
  have hp1 := PW.start h #[.int .i64 2, .int .i64 dn, .slice ba bn bc] hw1
  have hok := hi.ok h
  have hpins := hi.pinsR
  obtain ⟨post, hpost⟩ : ∃ post : Ending → World → Prop, post = PlayQ w0 w D L Pb n (i + 1) s x := ⟨_, rfl⟩
  rw [← hpost]
  have hsz := rp_size p xr
  obtain ⟨b10, b11, b12⟩ := hp1.bx.bc
  obtain ⟨d10, d11, d12⟩ := hp1.bx.dc
  obtain ⟨csm, hcsm⟩ : ∃ csm, rpcells p xr = csm := ⟨_, rfl⟩
  rw [hcsm] at hw1 hsz hp1 ⊢
  have HSZ := Lib.hid hsz
  have hc := pq_app hp1.pm hi
  have HC := Lib.hid hc
  have hon0 := h.ra.one
  rw [hcsm] at hon0
  have HX := Lib.hid (And.intro hp1 (And.intro hok (And.intro hpins (And.intro hcsm (And.intro hpost (And.intro hs (And.intro hb hon0)))))))
  clear h hi hb hp1 hok hpins hpost hsz hcsm hc hs b10 b12 d12 hon0
  unfold bcells Z6 at hw1
  unfold bcells
  go_enter Tryz.func11, Tryz.ntmps11
  go_wp2_with (first | rw [hw1])
  refine HC.out.mono ?_
  rintro e w2 ⟨l, code, s2, x2, rfl, hm2, hc2, hl64, hcase⟩
  obtain ⟨hp1, hok, hpins, hcsm, hpost, hs, hb, hon0⟩ := HX.out
  have hpw2 := hp1.prog hm2 hc2
  by_cases hk0 : code = 0
  · subst hk0
    have hcs : (s.dm.fuse = -1 → s2.dm.fuse = -1) ∧ l < s2.lm.fin ∧ PI n i s2 last { p with fin := s2.lm.fin } ∧ s2.unf.cost + 2 ≤ i + 3 * s2.unf.nrec := by
      rcases hcase with ⟨-, a⟩ | ⟨a, -⟩ | ⟨-, -, a⟩
      · exact a
      · exact absurd a (by decide)
      · exact absurd a (by decide)
    obtain ⟨hfu, hlf, hpi, hcost⟩ := hcs
    have hen := end_pl hpw2.pm.pl
    obtain ⟨b20, b21, b22⟩ := hpw2.bx.bc
    have km4 := hpw2.bx.m.cell 4 (v := .int .u64 (p.fin : Int)) (by rw [← hcsm]; rfl)
    have zm4 := hpw2.bx.m.frozen 4
    have HEN := Lib.hid hen
    have H2 := Lib.hid (And.intro hpw2 (And.intro hfu (And.intro hlf (And.intro hpi (And.intro hcost hl64)))))
    clear hcase hm2 hc2 hpw2 hfu hlf hpi hcost hen hp1 hok hpins hcsm hpost hs hb hon0 km4 zm4 hl64 d10 d11 b11 hw1 HC b22 b20
    go_wp2_with fail
    refine HEN.out.mono ?_
    rintro e w3 ⟨rfl, kq, hw3⟩
    obtain ⟨hpw2, hfu, hlf, hpi, hcost, hl64⟩ := H2.out
    obtain ⟨hp1, hok, hpins, hcsm, hpost, hs, hb, hon0⟩ := HX.out
    have hpw3 : PW w0 w w3 D L Pb s2 x x2 p xr csm #[.int .i64 2, .int .i64 dn, .slice ba bn bc] := by rw [hw3]; exact hpw2.more (below_drewN (Below.refl _ _) kq)
    clear hw3
    obtain ⟨w4, hw4⟩ : ∃ w4, w3.setCell ⟨w.heap.size + 1, 4, none⟩ (.int .u64 (s2.lm.fin : Int)) = w4 := ⟨_, rfl⟩
    have km4 := hpw3.bx.m.cell 4 (v := .int .u64 (p.fin : Int)) (by rw [← hcsm]; rfl)
    have zm4 := hpw3.bx.m.frozen 4
    have hpw4 := PW.mfin (by rw [hcsm]; exact hpw3) s2.lm.fin
    rw [hw4] at hpw4
    obtain ⟨q, hq⟩ : ∃ q : RP, { p with fin := s2.lm.fin } = q := ⟨_, rfl⟩
    rw [hq] at hpw4 hpi
    have hrb : ∀ {W : World} {xx : PZ}, Chg (x.tf Pb L) (xx.tf Pb L) w W → RdB NoF W (.slice ba bn bc) b := fun hc => RdV.keep hb (fun k hk hn => hc.block k hk hn) (fun _ _ e => e.elim)
    have hpt := pq_put hpw4.pm hpi hs dn (.slice ba bn bc) b (hrb hpw4.cg) l hlf hl64 hcost
    have hokq := hpi.ok hpw4.pm
    have hpnq := hpi.pinsR
    obtain ⟨b40, b41, b42⟩ := hpw4.bx.bc
    obtain ⟨d40, d41, d42⟩ := hpw4.bx.dc
    have HPT := Lib.hid hpt
    obtain ⟨cf, hcf⟩ : ∃ cf, s2.lm.fin = cf := ⟨_, rfl⟩
    rw [hcf] at hw4 ⊢
    have H4 := Lib.hid (And.intro hpw4 (And.intro hokq (And.intro hpnq (And.intro hfu (And.intro hpost (And.intro (@hrb) hl64))))))
    clear hpw2 hfu hlf hpi hcost hp1 hok hpins hcsm hpost hs hb hon0 hpw3 hpw4 hpt hokq hpnq H2 HX HEN hl64 hcf hq hrb b40 b41 d40
    go_wp2_with fail
    refine HPT.out.mono ?_
    rintro e w5 ⟨s5, x5, rfl, hm5, hc5, hf5, hpi5⟩
    obtain ⟨hpw4, hokq, hpnq, hfu, hpost, hrb, hl64⟩ := H4.out
    have hpw5 := hpw4.prog hm5 hc5
    have hr := rp_put hm5.ra hokq hm5.hF dn (.slice ba bn bc) b (hrb hpw5.cg) l hl64
    have km5 := hpw5.bx.m
    obtain ⟨d50, d51, d52⟩ := hpw5.bx.dc
    obtain ⟨csq, hcsq⟩ : ∃ csq, rpcells q xr = csq := ⟨_, rfl⟩
    have hsq := rp_size q xr
    rw [hcsq] at hr km5 hsq
    have HSQ := Lib.hid hsq
    have HR := Lib.hid hr
    have HKM := Lib.hid km5
    have H5 := Lib.hid (And.intro hpw5 (And.intro hf5 (And.intro hpi5 (And.intro hfu hpost))))
    clear hpw4 hokq hpnq hfu hpost hrb hl64 hm5 hc5 hf5 hpi5 hpw5 hr km5 hsq hcsq H4 HPT d50 d41 d42 b42 w4 hw4 km4 zm4
    go_wp2_with (first | (refine wpList_load_row rfl _ _ rfl (w.heap.size + 1) rfl _ _ (0, 0) _ HKM.out Tryz.underlying36 rfl HSQ.out ?_))
    refine HR.out.mono ?_
    rintro e w6 ⟨x6, rfl, ha6, hb6⟩
    obtain ⟨hpw5, hf5, hpi5, hfu, hpost⟩ := H5.out
    have hpw6 := hpw5.ref hb6 ha6
    obtain ⟨p6, hp6⟩ : ∃ p6, (q.put dn b l).1 = p6 := ⟨_, rfl⟩
    obtain ⟨cp, hcp⟩ : ∃ cp, (q.put dn b l).2 = cp := ⟨_, rfl⟩
    rw [hp6] at hpw6 hpi5 ⊢
    rw [hcp]
    obtain ⟨w7, w8, hw7, k7, hw8, k8, hpw8, -⟩ := hpw6.nbox (rpcells p6 x6)
    have hsn := rp_size p6 x6
    have hon := hpw6.pm.ra.one
    obtain ⟨w9, hw9⟩ : ∃ w9, w8.setRow (w.heap.size + 3) (rpcells p6 x6) = w9 := ⟨_, rfl⟩
    have hfin : PBox w9 (w.heap.size + 3) (rpcells p6 x6) ∧ post (.returned (.tuple #[.agg (rpcells p6 x6), .bool true])) w9 := by
      obtain ⟨f1, f2, f3⟩ := hpw8.fin (rpcells p6 x6)
      rw [hw9] at f1 f2 f3
      refine ⟨f3, ?_⟩
      rw [hpost]
      exact ⟨_, x6, _, s5, x5, rfl, f1, f2, .inl ⟨rfl, fun e => hf5 (hfu e), hpi5⟩⟩
    have kr5 := hpw8.bx.r
    obtain ⟨csn, hcsn⟩ : ∃ csn, rpcells p6 x6 = csn := ⟨_, rfl⟩
    rw [hcsn] at hw8 k8 hsn hon hw9 hfin ⊢
    have HSN := Lib.hid hsn
    have HON := Lib.hid hon
    have HK4 := Lib.hid k7
    have HK5 := Lib.hid k8
    have HR5 := Lib.hid kr5
    have HFIN := Lib.hid hfin
    clear hpw5 hf5 hpi5 hfu hpost ha6 hb6 hpw6 hp6 hcp k7 k8 hpw8 hsn hon kr5 hcsn HR H5 HKM hfin d51 d52
    unfold Z6 at hw7
    go_wp2_with (first | rw [hw7] | (refine wpList_store_row rfl _ _ _ rfl w6.heap.size _ rfl rfl _ _ HK4.out HSN.out (by have := HSN.out; rw [info6] at this; injection this) HON.out ?_; rw [hw8]) | (refine wpList_load_row rfl _ _ rfl w6.heap.size rfl _ _ (0, 0) _ HK5.out Tryz.underlying36 rfl HSN.out ?_) | (refine wpList_store_row rfl _ _ _ rfl (w.heap.size + 3) _ rfl rfl _ _ HR5.out HSN.out (by have := HSN.out; rw [info6] at this; injection this) HON.out ?_; rw [hw9]))
    exact bodyPost_ret (v := .tuple #[.agg csn, .bool true]) (by simp [results, Tryz.results11, asAddr, Act.put, run_loadVar_row w9 (w.heap.size + 3) 36 36 _ (0, 0) _ HFIN.out.1 Tryz.underlying36 rfl HSN.out]) rfl HFIN.out.2
  · have hz : (code == 0) = false := by simpa using hk0
    have hz' : decide (code = 0) = false := by simpa using hk0
    have km2 := hpw2.bx.m
    have kr2 := hpw2.bx.r
    obtain ⟨w6, hw6⟩ : ∃ w6, w2.setRow (w.heap.size + 3) csm = w6 := ⟨_, rfl⟩
    have hfin : PBox w6 (w.heap.size + 3) csm ∧ post (.returned (.tuple #[.agg csm, .bool (code == 7)])) w6 := by
      obtain ⟨f1, f2, f3⟩ := hpw2.fin csm
      rw [hw6] at f1 f2 f3
      refine ⟨f3, ?_⟩
      rw [hpost]
      refine ⟨p, xr, _, s2, x2, by rw [hcsm], f1, f2, ?_⟩
      rcases hcase with ⟨a, -⟩ | ⟨a1, a2, a3⟩ | ⟨a1, a2, -⟩
      · exact absurd a hk0
      · exact .inl ⟨by rw [a1]; rfl, a2, last, a3.later hs⟩
      · exact .inr ⟨a1, a2⟩
    have HKM := Lib.hid km2
    have HR2 := Lib.hid kr2
    have HON := Lib.hid hon0
    clear hcase hm2 hc2 hpw2 hp1 hok hpins hcsm hpost hs hb hon0 km2 kr2 hl64 HC HX d10 d11 b11 hw1
    by_cases h7 : code = 7
    · subst h7
      have HFIN : Hid (PBox w6 (w.heap.size + 3) csm ∧ post (.returned (.tuple #[.agg csm, .bool true])) w6) := Lib.hid (by simpa using hfin)
      clear hfin
      go_wp2_with (first | (refine wpList_load_row rfl _ _ rfl (w.heap.size + 1) rfl _ _ (0, 0) _ HKM.out Tryz.underlying36 rfl HSZ.out ?_) | (refine wpList_store_row rfl _ _ _ rfl (w.heap.size + 3) _ rfl rfl _ _ HR2.out HSZ.out (by have := HSZ.out; rw [info6] at this; injection this) HON.out ?_; rw [hw6]))
      exact bodyPost_ret (v := .tuple #[.agg csm, .bool true]) (by simp [results, Tryz.results11, asAddr, Act.put, run_loadVar_row w6 (w.heap.size + 3) 36 36 _ (0, 0) _ HFIN.out.1 Tryz.underlying36 rfl HSZ.out]) rfl HFIN.out.2
    · have hz7 : (code == 7) = false := by simpa using h7
      rw [hz7] at hfin
      have HFIN := Lib.hid hfin
      clear hfin
      go_wp2_with (first | (refine wpList_load_row rfl _ _ rfl (w.heap.size + 1) rfl _ _ (0, 0) _ HKM.out Tryz.underlying36 rfl HSZ.out ?_) | (refine wpList_store_row rfl _ _ _ rfl (w.heap.size + 3) _ rfl rfl _ _ HR2.out HSZ.out (by have := HSZ.out; rw [info6] at this; injection this) HON.out ?_; rw [hw6]))
      exact bodyPost_ret (v := .tuple #[.agg csm, .bool false]) (by simp [results, Tryz.results11, asAddr, Act.put, run_loadVar_row w6 (w.heap.size + 3) 36 36 _ (0, 0) _ HFIN.out.1 Tryz.underlying36 rfl HSZ.out]) rfl HFIN.out.2
end
end Mun
end

section
/- munimentlaw8.play, whatever the deed; where a law stands. -/
set_option maxRecDepth 100000
set_option linter.unusedVariables false
set_option linter.unusedSimpArgs false
namespace Mun
open Go Go.RowKit
open Go.Proofs

section
variable {w0 w w' : World} {D L Pb n i : Nat} {s s' : PX} {x x' : PZ} {last : List Bytes} {p p' q : RP} {xr xr' : RPV} {v' : PLV}

theorem pq_play (h : PM0 w0 w D L Pb s x p xr) (hi : PI n i s last p) (hs : i + 1 ≤ 3518437208882) (dop dn : Int) (bv : Value) (b : Bytes) (hb : RdB (x.tf Pb L) w bv b) :
    Calls Tryz.prog 11 #[.agg (bcells D L Pb), .agg (rpcells p xr), .agg #[.int .i64 dop, .int .i64 dn, bv]] w (PlayQ w0 w D L Pb n (i + 1) s x) := by
  by_cases h0 : dop = 0
  · subst h0; exact pq_play0 h hi hs dn bv b hb
  by_cases h1 : dop = 1
  · subst h1; exact pq_play1 h hi hs dn bv b hb
  by_cases h2 : dop = 2
  · subst h2; exact pq_play2 h hi hs dn bv b hb
  by_cases h3 : dop = 3
  · subst h3; exact pq_play3 h hi hs dn bv b hb
  by_cases h4 : dop = 4
  · subst h4; exact pq_play4 h hi hs dn bv b hb
  exact pq_play5 h hi hs dn bv b hb dop (by simpa using h0) (by simpa using h1) (by simpa using h2) (by simpa using h3) (by simpa using h4)

/-- where a law stands that plays both -/
structure LS (w0 w : World) (D L Pb Bx Mx : Nat) (s : PX) (x : PZ) (p : RP) (xr : RPV) : Prop where
  pm : PM0 w0 w D L Pb s x p xr
  bx : w.heap[Bx]? = some (.cells (bcells D L Pb) 28 (0, 0))
  mx : PBox w Mx (rpcells p xr)
  zM : x.Z Mx
  nB : ¬ x.tf Pb L Bx
  nM : ¬ x.tf Pb L Mx
  lB : w0.heap.size ≤ Bx
  lM : w0.heap.size ≤ Mx
/-- and behind play: the next pool -/
structure NS (w0 w : World) (D L Pb Bx Mx Nx n i : Nat) (s s' : PX) (x' : PZ) (p : RP) (xr : RPV) (p' : RP) (xr' : RPV) (fine : Bool) : Prop where
  pm : PM0 w0 w D L Pb s' x' p' xr'
  bx : w.heap[Bx]? = some (.cells (bcells D L Pb) 28 (0, 0))
  mx : PBox w Mx (rpcells p xr)
  nx : PBox w Nx (rpcells p' xr')
  zM : x'.Z Mx
  nB : ¬ x'.tf Pb L Bx
  nM : ¬ x'.tf Pb L Mx
  lB : w0.heap.size ≤ Bx
  lM : w0.heap.size ≤ Mx
  ne : Nx ≠ Mx
  res : (fine = true ∧ (s.dm.fuse = -1 → s'.dm.fuse = -1) ∧ ∃ last', PI n i s' last' p') ∨ (s.dm.fuse ≠ -1 ∧ Hurt s s')

theorem LS.cells {Bx Mx : Nat} (h : LS w0 w D L Pb Bx Mx s x p xr) : w.cell? ⟨Bx, 0, none⟩ = some (.pointer (some ⟨D, 0, none⟩)) ∧ w.cell? ⟨Bx, 1, none⟩ = some (.pointer (some ⟨L, 0, none⟩)) ∧ w.cell? ⟨Bx, 2, none⟩ = some (.pointer (some ⟨Pb, 0, none⟩)) :=
  ⟨cell_of_row _ _ 0 _ _ _ h.bx, cell_of_row _ _ 1 _ _ _ h.bx, cell_of_row _ _ 2 _ _ _ h.bx⟩
theorem LS.more {Bx Mx : Nat} (h : LS w0 w D L Pb Bx Mx s x p xr) (hb : Below w.heap.size w w') : LS w0 w' D L Pb Bx Mx s x p xr :=
  ⟨h.pm.more hb, (hb.block _ (Array.getElem?_eq_some_iff.1 h.bx).1).trans h.bx, h.mx.below hb h.mx.lt, h.zM, h.nB, h.nM, h.lB, h.lM⟩
theorem NS.more {Bx Mx Nx : Nat} {fine : Bool} (h : NS w0 w D L Pb Bx Mx Nx n i s s' x' p xr p' xr' fine) (hb : Below w.heap.size w w') : NS w0 w' D L Pb Bx Mx Nx n i s s' x' p xr p' xr' fine :=
  ⟨h.pm.more hb, (hb.block _ (Array.getElem?_eq_some_iff.1 h.bx).1).trans h.bx, h.mx.below hb h.mx.lt, h.nx.below hb h.nx.lt, h.zM, h.nB, h.nM, h.lB, h.lM, h.ne, h.res⟩
/-- m = next -/
theorem NS.next {Bx Mx Nx : Nat} {fine : Bool} (h : NS w0 w D L Pb Bx Mx Nx n i s s' x' p xr p' xr' fine) : LS w0 (w.setRow Mx (rpcells p' xr')) D L Pb Bx Mx s' x' p' xr' := by
  have hne : Bx ≠ Mx := blk_ne h.bx h.mx (by decide)
  exact ⟨h.pm.store (b := Mx) h.zM h.nM (fun j hj => setRow_ne _ _ _ _ hj) (setRow_sz _ _ _) (below_setRow h.pm.below h.lM _), (setRow_ne _ _ _ _ hne).trans h.bx, h.mx.row _, h.zM, h.nB, h.nM, h.lB, h.lM⟩
/-- ahead of the store of the next pool -/
structure PD0 (w0 w : World) (D L Pb Bx Mx Nx n i : Nat) (s s' : PX) (x' : PZ) (p : RP) (xr : RPV) (p' : RP) (xr' : RPV) (fine : Bool) : Prop where
  pm : PM0 w0 w D L Pb s' x' p' xr'
  bx : w.heap[Bx]? = some (.cells (bcells D L Pb) 28 (0, 0))
  mx : PBox w Mx (rpcells p xr)
  nx : PBox w Nx Z6
  zM : x'.Z Mx
  zN : x'.Z Nx
  nB : ¬ x'.tf Pb L Bx
  nM : ¬ x'.tf Pb L Mx
  nN : ¬ x'.tf Pb L Nx
  lB : w0.heap.size ≤ Bx
  lM : w0.heap.size ≤ Mx
  lN : w0.heap.size ≤ Nx
  ne : Nx ≠ Mx
  res : (fine = true ∧ (s.dm.fuse = -1 → s'.dm.fuse = -1) ∧ ∃ last', PI n i s' last' p') ∨ (s.dm.fuse ≠ -1 ∧ Hurt s s')
theorem PD0.store {Bx Mx Nx : Nat} {fine : Bool} (h : PD0 w0 w D L Pb Bx Mx Nx n i s s' x' p xr p' xr' fine) : NS w0 (w.setRow Nx (rpcells p' xr')) D L Pb Bx Mx Nx n i s s' x' p xr p' xr' fine := by
  have hne : Bx ≠ Nx := blk_ne h.bx h.nx (by decide)
  exact ⟨h.pm.store (b := Nx) h.zN h.nN (fun j hj => setRow_ne _ _ _ _ hj) (setRow_sz _ _ _) (below_setRow h.pm.below h.lN _), (setRow_ne _ _ _ _ hne).trans h.bx, h.mx.rowNe _ (Ne.symm h.ne), h.nx.row _, h.zM, h.nB, h.nM, h.lB, h.lM, h.ne, h.res⟩
theorem LS.keep2 {Bx Mx : Nat} (h : LS w0 w D L Pb Bx Mx s x p xr) (hc : Chg (x.tf Pb L) (x'.tf Pb L) w w') : w'.heap[Bx]? = some (.cells (bcells D L Pb) 28 (0, 0)) ∧ PBox w' Mx (rpcells p xr) ∧ ¬ x'.tf Pb L Bx ∧ ¬ x'.tf Pb L Mx := by
  have lB := (Array.getElem?_eq_some_iff.1 h.bx).1
  have lM := h.mx.lt
  exact ⟨(hc.block _ lB h.nB).trans h.bx, (hc.block _ lM h.nM).trans h.mx, (keepD lB h.nB hc).2, (keepD lM h.nM hc).2⟩
/-- play, and then a box for the next pool -/
theorem LS.played1 {Bx Mx : Nat} {fine : Bool} (h : LS w0 w D L Pb Bx Mx s x p xr) {w1 w2 : World} (hc : Chg (x.tf Pb L) (x'.tf Pb L) w w1) (hz : ∀ k, x.Z k → x'.Z k) (hm : PM0 w0 w1 D L Pb s' x' p' xr')
    (hres : (fine = true ∧ (s.dm.fuse = -1 → s'.dm.fuse = -1) ∧ ∃ last', PI n i s' last' p') ∨ (s.dm.fuse ≠ -1 ∧ Hurt s s'))
    (hb : Below w1.heap.size w1 w2) {Nx : Nat} (hN : PBox w2 Nx Z6) (hNl : w1.heap.size ≤ Nx) : PD0 w0 w2 D L Pb Bx Mx Nx n i s s' { x' with Z := fun k => x'.Z k ∨ k = Nx } p xr p' xr' fine := by
  obtain ⟨a1, a2, a3, a4⟩ := h.keep2 hc
  have l1 := (Array.getElem?_eq_some_iff.1 a1).1
  have l2 := a2.lt
  exact ⟨hm.addZ hb _ (fun k hk => by subst hk; exact ⟨hNl, hN.lt⟩), (hb.block _ l1).trans a1, a2.below hb l2, hN, .inl (hz _ h.zM), .inr rfl, a3, a4, fun e => by have := hm.tlt _ e; omega, h.lB, h.lM, by have := hm.below.size; omega, by omega, hres⟩
/-- a box for the next pool, and then play -/
theorem LS.played2 {Bx Mx Nx : Nat} {fine : Bool} (h : LS w0 w D L Pb Bx Mx s x p xr) {w1 : World} (hc : Chg (x.tf Pb L) (x'.tf Pb L) w w1) (hz : ∀ k, x.Z k → x'.Z k) (hm : PM0 w0 w1 D L Pb s' x' p' xr')
    (hres : (fine = true ∧ (s.dm.fuse = -1 → s'.dm.fuse = -1) ∧ ∃ last', PI n i s' last' p') ∨ (s.dm.fuse ≠ -1 ∧ Hurt s s'))
    (hN : PBox w Nx Z6) (hNz : x.Z Nx) (hNt : ¬ x.tf Pb L Nx) (hne : Nx ≠ Mx) (hNl : w0.heap.size ≤ Nx) : PD0 w0 w1 D L Pb Bx Mx Nx n i s s' x' p xr p' xr' fine := by
  obtain ⟨a1, a2, a3, a4⟩ := h.keep2 hc
  exact ⟨hm, a1, a2, (hc.block _ hN.lt hNt).trans hN, hz _ h.zM, hz _ hNz, a3, a4, (keepD hN.lt hNt hc).2, h.lB, h.lM, hNl, hne, hres⟩
/-- it begins: the model's box behind the bench's -/
theorem LS.first {Bx Mx : Nat} {w1 w3 W : World} (hpl : PL w3 D L Pb s x) (hb13 : Below w1.heap.size w1 w3) (haf : ∀ k, x.tf Pb L k → w1.heap.size ≤ k) (kB : w3.heap[Bx]? = some (.cells (bcells D L Pb) 28 (0, 0))) (nB : ¬ x.tf Pb L Bx) (lB : w1.heap.size ≤ Bx)
    (hbW : Below w3.heap.size w3 W) (kM : PBox W Mx Z6) (hM : w3.heap.size ≤ Mx) (hra : RAt (fun q => q < w3.heap.size ∨ q = Mx) W p xr) : LS w1 (W.setRow Mx (rpcells p xr)) D L Pb Bx Mx s { x with Z := fun q => x.Z q ∨ q = Mx } p xr := by
  have hpl' : PL W D L Pb s { x with Z := fun q => x.Z q ∨ q = Mx } := by
    refine ⟨hpl.disk.grow hbW (fun k hk => ?_), hpl.rep.keep (fun k hk _ => hbW.block k hk) (fun k hk h1 => ?_), hpl.mem.keep (fun k hk => hbW.block k (hpl.mem.lt k hk)), hpl.apart⟩
    · rcases hk with hk | hk | hk | hk
      · exact .inl (.inl hk)
      · exact .inl (.inr (.inl hk))
      · exact .inl (.inr (.inr hk))
      · exact .inr (by subst hk; exact ⟨hM, kM.lt⟩)
    · rcases h1 with (h1 | h1 | h1 | h1) | h1
      · exact .inl (.inl h1)
      · exact .inl (.inr (.inl h1))
      · exact .inl (.inr (.inr h1))
      · omega
      · exact .inr h1
  have hbl : Below w1.heap.size w1 W := hb13.trans (hbW.mono hb13.size)
  have hlt : ∀ k, x.af Pb L k → k < w3.heap.size := hpl.lt
  have pm : PM0 w1 W D L Pb s { x with Z := fun q => x.Z q ∨ q = Mx } p xr := ⟨hpl', hra.keep (fun _ _ _ => rfl) (fun k hk h1 => by
    rcases h1 with (h1 | h1 | h1 | h1) | h1
    · exact .inl (hlt k (.inl (.inl h1)))
    · exact .inl (hlt k (.inl (.inr (.inl h1))))
    · exact .inl (hlt k (.inl (.inr (.inr h1))))
    · exact .inr h1
    · exact .inl (hlt k (.inr h1))), hbl, haf⟩
  have lBl := (Array.getElem?_eq_some_iff.1 kB).1
  have nM : ¬ x.tf Pb L Mx := fun e => by have := hlt Mx (x.tf_af Pb L Mx e); omega
  have lM : w1.heap.size ≤ Mx := by have := hb13.size; omega
  exact ⟨pm.store (b := Mx) (.inr rfl) nM (fun j hj => setRow_ne _ _ _ _ hj) (setRow_sz _ _ _) (below_setRow hbl lM _), (setRow_ne _ _ _ _ (by omega)).trans ((hbW.block _ lBl).trans kB), kM.row _, .inr rfl, nB, nM, lB, lM⟩
theorem LS.addN {Bx Mx : Nat} (h : LS w0 w D L Pb Bx Mx s x p xr) (hb : Below w.heap.size w w') (Nx : Nat) (hN : w.heap.size ≤ Nx ∧ Nx < w'.heap.size) : LS w0 w' D L Pb Bx Mx s { x with Z := fun k => x.Z k ∨ k = Nx } p xr ∧ ¬ x.tf Pb L Nx ∧ Nx ≠ Mx ∧ Nx ≠ Bx := by
  have h1 := h.more hb
  have hMl := h.mx.lt
  have hBl := (Array.getElem?_eq_some_iff.1 h.bx).1
  exact ⟨⟨h.pm.addZ hb _ (fun k hk => by subst hk; exact hN), h1.bx, h1.mx, .inl h.zM, h.nB, h.nM, h.lB, h.lM⟩, fun e => by have := h.pm.tlt _ e; omega, by omega, by omega⟩
end

theorem pq_ti_new (n k : Nat) : TI n ⟨DM.new n 4096, lm0, PM.new k⟩ (List.replicate n page0) := by
  have hf : ∀ f ∈ (PM.new k).fr, f = FM.none := fun f hf => (List.mem_replicate.1 hf).2
  have hfi : ∀ (i : Nat) (f : FM), (PM.new k).fr[i]? = some f → f = FM.none := fun i f h => hf f (List.mem_of_getElem? h)
  have hlast : ∀ j, j < n → (List.replicate n page0)[j]? = some page0 := fun j hj => by rw [List.getElem?_replicate, if_pos hj]
  have hpg : ∀ j, (DM.new n 4096).page j = page0 := fun j => new_page n 4096 j
  refine ⟨rfl, rfl, by simp [DM.new], rfl, by simp, rfl, Nat.le_refl _, fun i j f g hf' hg e h0 => ?_, fun f hf' => ?_, fun f hf' h0 => ?_, fun f hf' hc => ?_, fun f hf' h0 hc => ?_, fun j hj hn => ?_, fun b hb => ?_, fun j hj => ?_, fun j hj => .inl (hpg j), ?_, fun p hp => ?_, fun j hj hn => ?_, fun j r hd => ?_⟩
  · rw [hfi i f hf'] at h0
    exact absurd h0 (by decide)
  · rw [hf f hf']; show (-1 : Int) < n; omega
  · rw [hf f hf'] at h0; exact absurd h0 (by decide)
  · rw [hf f hf'] at hc; cases hc
  · rw [hf f hf'] at h0; exact absurd h0 (by decide)
  · show _ = some ((DM.new n 4096).page j)
    rw [hpg, hlast j hj]
  · rw [(List.mem_replicate.1 hb).2]; exact ⟨page0_chk, page0_length⟩
  · show checkP ((DM.new n 4096).page j) = 0
    rw [hpg]; exact page0_chk
  · exact List.Pairwise.nil
  · cases hp
  · refine ⟨?_, fun p hp => by cases hp⟩
    rw [hlast j hj]
    show some page0 = some ((List.replicate n page0).getD j page0)
    rw [List.getD_eq_getElem?_getD, hlast j hj]
    rfl
  · cases hd

theorem pq_pi_new (n k : Nat) (hn : 1 ≤ n ∧ n ≤ 8) (hk : 1 ≤ k ∧ k ≤ 4) : PI n 0 ⟨DM.new n 4096, lm0, PM.new k⟩ (List.replicate n page0) (RP.new n k lm0.fin (lm0.base + lm0.forced)) := by
  have hfi : ∀ (i : Nat) (f : FM), (PM.new k).fr[i]? = some f → f = FM.none ∧ i < k := fun i f h => by
    have h1 : (List.replicate k FM.none)[i]? = some f := h
    rw [List.getElem?_replicate] at h1
    split at h1
    · rename_i hi
      injection h1 with h1
      exact ⟨h1.symm, hi⟩
    · cases h1
  refine ⟨pq_ti_new n k, ⟨?_, fun i f hf => ?_, fun f hf => ?_, rfl, rfl, ?_, fun j hj => ?_, rfl, rfl⟩, ?_, fun f hf => ?_, ?_, hn, by omega⟩
  · show (List.replicate k rf0).length = (List.replicate k FM.none).length
    rw [List.length_replicate, List.length_replicate]
  · obtain ⟨rfl, hi⟩ := hfi i f hf
    refine ⟨rf0, ?_, ⟨rfl, rfl, rfl, rfl, rfl, fun e => by cases e⟩⟩
    show (List.replicate k rf0)[i]? = _
    rw [List.getElem?_replicate, if_pos hi]
  · rw [(List.mem_replicate.1 (show f ∈ List.replicate k FM.none from hf)).2]
    decide
  · show (List.replicate n page0).length = (List.replicate n page0).length
    rfl
  · have hj : j < (List.replicate n page0).length := hj
    rw [List.length_replicate] at hj
    show (List.replicate n page0)[j]? = some ((DM.new n 4096).page j)
    rw [new_page n 4096 j, List.getElem?_replicate, if_pos hj]
  · show 0 + 2 * (List.replicate k FM.none).countP (·.chg) ≤ _
    rw [List.countP_replicate]
    simp [FM.none]
  · rw [(List.mem_replicate.1 (show f ∈ List.replicate k FM.none from hf)).2]
    exact Nat.le_refl _
  · show 1 ≤ (List.replicate k FM.none).length ∧ (List.replicate k FM.none).length ≤ 4
    rw [List.length_replicate]
    exact hk
end Mun
end
