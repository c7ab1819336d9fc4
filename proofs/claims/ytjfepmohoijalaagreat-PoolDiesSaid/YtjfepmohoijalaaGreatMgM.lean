/- Texts of mine, one behind the other: PlA, P12, PlB. -/
import Derived.Test.YtjfepmohoijalaaGreatMgG
import Derived.Test.YtjfepmohoijalaaGreatMgL
import Derived.Test.YtjfepmohoijalaaGreatMgQ
import Derived.Test.YtjfepmohoijalaaGreatMgF
section
/- A pool and its log over a device: how the three lie, and what a step of one leaves of the others. -/
set_option maxRecDepth 100000
set_option linter.unusedVariables false
set_option linter.unusedSimpArgs false
namespace Mun
open Go Go.RowKit
open Go.Proofs

/-- a device, a log, a pool -/
structure PX where
  dm : DM
  lm : LM
  pm : PM

/-- where they lie -/
structure PZ where
  Fd : Foot
  v : PLV
  bv : Value
  sv : Value
  Z : Foot

/-- what the device reads nothing of -/
def PZ.ef (x : PZ) (Pb L : Nat) : Foot := fun k => pfoot Pb x.v k ∨ (lfoot L x.bv x.sv k ∨ x.Z k)
/-- what nobody reads pages of -/
def PZ.af (x : PZ) (Pb L : Nat) : Foot := fun k => (pfoot Pb x.v k ∨ (lfoot L x.bv x.sv k ∨ x.Z k)) ∨ x.Fd k
/-- what is turned -/
def PZ.tf (x : PZ) (Pb L : Nat) : Foot := fun k => (pfoot Pb x.v k ∨ lfoot L x.bv x.sv k) ∨ x.Fd k

structure PL (w : World) (D L Pb : Nat) (s : PX) (x : PZ) : Prop where
  disk : DiskAt w D (x.ef Pb L) x.Fd s.dm
  rep : PRep w Pb D L (x.af Pb L) s.pm x.v
  mem : LMem w D L s.lm x.bv x.sv
  apart : ∀ k, pfoot Pb x.v k → ¬ lfoot L x.bv x.sv k

def PTo (w : World) (D L Pb : Nat) (x : PZ) (s' : PX) (v' : PLV) (w' : World) : Prop := ∃ x', x'.v = v' ∧ x'.Z = x.Z ∧ PL w' D L Pb s' x' ∧ Chg (x.tf Pb L) (x'.tf Pb L) w w'

section
variable {w w' w'' : World} {D L Pb : Nat} {s s' : PX} {x x' : PZ}

theorem PL.below (h : PL w D L Pb s x) (hb : Below w.heap.size w w') : PL w' D L Pb s x :=
  ⟨h.disk.below hb, h.rep.below hb, h.mem.keep (fun k hk => hb.block k (h.mem.lt k hk)), h.apart⟩
theorem PL.drewN (h : PL w D L Pb s x) (k : Nat) : PL (w.drewN k) D L Pb s x := h.below (below_drewN (Below.refl _ _) k)
theorem PL.drew (h : PL w D L Pb s x) : PL w.drew D L Pb s x := h.below (below_drewN (Below.refl _ _) 1)
theorem PL.log (h : PL w D L Pb s x) : LogAt w D L (fun k => pfoot Pb x.v k ∨ x.Z k) x.Fd s.dm s.lm x.bv x.sv := ⟨h.disk.sub (fun k hk => by
  rcases hk with hk | hk | hk
  · exact .inr (.inl hk)
  · exact .inl hk
  · exact .inr (.inr hk)), h.mem⟩
theorem PL.pool (h : PL w D L Pb s x) (ha : s.dm.dead = false) : PoolAt w D L Pb (fun k => lfoot L x.bv x.sv k ∨ x.Z k) x.Fd s.dm s.pm x.v := ⟨h.disk, h.rep, ha⟩
theorem PL.lt (h : PL w D L Pb s x) (k : Nat) (hk : x.af Pb L k) : k < w.heap.size := by
  rcases hk with hk | hk
  · exact h.disk.E_lt k hk
  · exact h.disk.foot_lt k hk
theorem PZ.tf_af (x : PZ) (Pb L k : Nat) (h : x.tf Pb L k) : x.af Pb L k := by
  rcases h with (h | h) | h
  · exact .inl (.inl h)
  · exact .inl (.inr (.inl h))
  · exact .inr h

theorem PTo.refl (h : PL w D L Pb s x) : PTo w D L Pb x s x.v w := ⟨x, rfl, rfl, h, Chg.refl _ _⟩
theorem PTo.of_below (h : PL w D L Pb s x) (hb : Below w.heap.size w w') : PTo w D L Pb x s x.v w' := ⟨x, rfl, rfl, h.below hb, Chg.of_below hb _⟩

/-- the feet read as they did -/
theorem af_back {x' : PZ} (hZ : x'.Z = x.Z) (hg : Chg (x.tf Pb L) (x'.tf Pb L) w w') (k : Nat) (hk : k < w.heap.size) (h1 : x'.af Pb L k) : x.af Pb L k := by
  have h2 : x'.tf Pb L k ∨ x'.Z k := by
    rcases h1 with (h1 | h1 | h1) | h1
    · exact .inl (.inl (.inl h1))
    · exact .inl (.inl (.inr h1))
    · exact .inr h1
    · exact .inl (.inr h1)
  rcases h2 with h2 | h2
  · rcases hg.foot k h2 with h3 | h3
    · exact x.tf_af Pb L k h3
    · omega
  · rw [hZ] at h2
    exact .inl (.inr (.inr h2))

/-- the device has turned -/
theorem PL.disk1 (h : PL w D L Pb s x) {dm' : DM} {F' : Foot} (hd : DiskAt w' D (x.ef Pb L) F' dm') (hc : Chg x.Fd F' w w') :
    PL w' D L Pb { s with dm := dm' } { x with Fd := F' } ∧ Chg (x.tf Pb L) (PZ.tf { x with Fd := F' } Pb L) w w' := by
  have hg : Chg (x.tf Pb L) (PZ.tf { x with Fd := F' } Pb L) w w' := hc.weak (fun k hk => .inr hk) (fun k hk => by
    rcases hk with hk | hk
    · exact .inr (.inl (.inl hk))
    · exact .inl hk)
  refine ⟨⟨hd, h.rep.keep (fun k hk h1 => ?_) (fun k hk h1 => af_back (x := x) (x' := { x with Fd := F' }) rfl hg k hk h1), h.mem.keep (fun k hk => hc.block k (h.mem.lt k hk) (h.disk.apart k (.inr (.inl hk)))), h.apart⟩, hg⟩
  refine hc.block k hk ?_
  rcases h1 with h1 | h1
  · exact h.disk.apart k (.inl h1)
  · exact fun e => h1 (.inr e)
/-- the log has turned, and the device below it -/
theorem PL.log1 (h : PL w D L Pb s x) {dm' : DM} {m' : LM} {F' : Foot} {bv' sv' : Value} (hd : LogAt w' D L (fun k => pfoot Pb x.v k ∨ x.Z k) F' dm' m' bv' sv') (hc : Chg (uf x.Fd (lfoot L x.bv x.sv)) (uf F' (lfoot L bv' sv')) w w') :
    PL w' D L Pb { s with dm := dm', lm := m' } { x with Fd := F', bv := bv', sv := sv' } ∧ Chg (x.tf Pb L) (PZ.tf { x with Fd := F', bv := bv', sv := sv' } Pb L) w w' := by
  have hg : Chg (x.tf Pb L) (PZ.tf { x with Fd := F', bv := bv', sv := sv' } Pb L) w w' := hc.weak (fun k hk => by
      rcases hk with hk | hk
      · exact .inr hk
      · exact .inl (.inr hk)) (fun k hk => by
    rcases hk with (hk | hk) | hk
    · exact .inr (.inl (.inl (.inl hk)))
    · exact .inl (.inr hk)
    · exact .inl (.inl hk))
  refine ⟨⟨hd.disk.sub (fun k hk => by
    rcases hk with hk | hk | hk
    · exact .inr (.inl hk)
    · exact .inl hk
    · exact .inr (.inr hk)), h.rep.keep (fun k hk h1 => ?_) (fun k hk h1 => af_back (x := x) (x' := { x with Fd := F', bv := bv', sv := sv' }) rfl hg k hk h1), hd.mem, fun k h1 h2 => ?_⟩, hg⟩
  · refine hc.block k hk ?_
    rcases h1 with h1 | h1
    · intro e
      rcases e with e | e
      · exact h.disk.apart k (.inl h1) e
      · exact h.apart k h1 e
    · intro e
      rcases e with e | e
      · exact h1 (.inr e)
      · exact h1 (.inl (.inr (.inl e)))
  · rcases hc.foot k (.inr h2) with h3 | h3
    · rcases h3 with h3 | h3
      · exact h.disk.apart k (.inl h1) h3
      · exact h.apart k h1 h3
    · have := h.rep.lt k h1; omega
/-- the pool alone has turned -/
theorem PL.pool1 (h : PL w D L Pb s x) {p' : PM} {v' : PLV} (hv : pfoot Pb v' = pfoot Pb x.v) (hp : PRep w' Pb D L (x.af Pb L) p' v') (hc : Chg (pfoot Pb x.v) (pfoot Pb x.v) w w') :
    PL w' D L Pb { s with pm := p' } { x with v := v' } ∧ Chg (x.tf Pb L) (PZ.tf { x with v := v' } Pb L) w w' := by
  have e1 : PZ.ef { x with v := v' } Pb L = x.ef Pb L := by funext k; show (pfoot Pb v' k ∨ _) = _; rw [hv]; rfl
  have e2 : PZ.af { x with v := v' } Pb L = x.af Pb L := by funext k; show ((pfoot Pb v' k ∨ _) ∨ _) = _; rw [hv]; rfl
  have e3 : PZ.tf { x with v := v' } Pb L = x.tf Pb L := by funext k; show ((pfoot Pb v' k ∨ _) ∨ _) = _; rw [hv]; rfl
  refine ⟨⟨?_, ?_, h.mem.keep (fun k hk => hc.block k (h.mem.lt k hk) (fun e => h.apart k e hk)), fun k hk => h.apart k (hv ▸ hk)⟩, ?_⟩
  · rw [e1]
    exact h.disk.chgE (hc.weak (fun k h1 => .inl h1) (fun k h1 => .inr (.inl h1)))
  · rw [e2]
    exact hp
  · rw [e3]
    exact hc.weak (fun k h1 => .inl (.inl h1)) (fun k h1 => .inr (.inl h1))

theorem PTo.trans {s1 s2 : PX} {v1 v2 : PLV} (h : PTo w D L Pb x s1 v1 w') (k : ∀ x1, x1.v = v1 → x1.Z = x.Z → PL w' D L Pb s1 x1 → PTo w' D L Pb x1 s2 v2 w'') : PTo w D L Pb x s2 v2 w'' := by
  obtain ⟨x1, hv1, hz1, h1, c1⟩ := h
  obtain ⟨x2, hv2, hz2, h2, c2⟩ := k x1 hv1 hz1 h1
  exact ⟨x2, hv2, hz2.trans hz1, h2, c1.trans c2⟩

/-- Force, whatever is certain -/
def PX.force (s : PX) (lsn : Nat) : PX × Int :=
  if lsn < s.lm.base + s.lm.forced then (s, 0)
  else ({ s with dm := s.dm.force.1, lm := if s.dm.force.2 = 0 then s.lm.done else s.lm }, s.dm.force.2)

def PPost (w : World) (D L Pb : Nat) (x : PZ) (r : PX × Int) (v' : PLV) (e : Ending) (w' : World) : Prop := e = .returned (.int .i64 r.2) ∧ PTo w D L Pb x r.1 v' w'

theorem force_pl (h : PL w D L Pb s x) (ho : s.dm.ops < 4398046511104) (lsn : Nat) : Calls Tryz.prog 81 #[.pointer (some ⟨L, 0, none⟩), .int .u64 lsn] w (PPost w D L Pb x (s.force lsn) x.v) := by
  by_cases hl : lsn < s.lm.base + s.lm.forced
  · refine (l_force_no w D L s.lm x.bv x.sv lsn h.mem hl).mono ?_
    rintro e w' ⟨rfl, k, rfl⟩
    unfold PX.force
    rw [if_pos hl]
    exact ⟨rfl, PTo.of_below h (below_drewN (Below.refl _ _) k)⟩
  · refine (l_force w D L x.Fd s.dm s.lm x.bv x.sv lsn h.log ho (by omega)).mono ?_
    rintro e w' hf
    unfold PX.force
    rw [if_neg hl]
    rcases hf with ⟨h0, rfl, F', hat, hc⟩ | ⟨h0, rfl, F', hat, hc⟩
    · obtain ⟨h1, h2⟩ := h.log1 hat hc
      refine ⟨rfl, { x with Fd := F' }, rfl, rfl, ?_, h2⟩
      show PL w' D L Pb { s with dm := s.dm.force.1, lm := if s.dm.force.2 = 0 then s.lm.done else s.lm } _
      rw [if_neg h0]
      exact h1
    · obtain ⟨h1, h2⟩ := h.log1 hat hc
      refine ⟨by show _ = Ending.returned (.int .i64 s.dm.force.2); rw [h0], { x with Fd := F' }, rfl, rfl, ?_, h2⟩
      show PL w' D L Pb { s with dm := s.dm.force.1, lm := if s.dm.force.2 = 0 then s.lm.done else s.lm } _
      rw [if_pos h0]
      exact h1

/-- Write of the device -/
theorem write_pl (h : PL w D L Pb s x) (ho : s.dm.ops < 4398046511104) (n : Int) (b : Bytes) (bv : Value) (hb : RdB (x.af Pb L) w bv b) :
    Calls Tryz.prog 82 #[.pointer (some ⟨D, 0, none⟩), .int .i64 n, bv] w (PPost w D L Pb x ({ s with dm := (s.dm.write n b).1 }, (s.dm.write n b).2) x.v) := by
  refine (d_write w D x.Fd s.dm h.disk ho n bv b (hb.mono (fun k _ hk => .inr hk))).mono ?_
  rintro e w' ⟨rfl, F', hd, hc⟩
  obtain ⟨h1, h2⟩ := h.disk1 hd hc
  exact ⟨rfl, { x with Fd := F' }, rfl, rfl, h1, h2⟩
end
end Mun
end

section
/- Contracts of Head, Cell, Cells. -/
set_option maxRecDepth 100000
set_option linter.unusedVariables false
set_option linter.unusedSimpArgs false
namespace Mun
open Go Go.RowKit
open Go.Proofs

theorem gt1 (p : PBytes) (a : Nat) (h : a < p.length) : gt p a 1 = p[a].toNat := by
  unfold gt
  rw [List.drop_eq_getElem_cons h, List.take_succ_cons, List.take_zero]
  show p[a].toNat + 256 * 0 = _
  omega

set_option maxHeartbeats 1000000 in
theorem head_yes {F : Foot} (w : World) (v : Value) (p : List UInt8) (hv : RdB F w v p) (hg : GoodP p) :
    Calls Tryz.prog 80 #[v] w fun e w' => e = .returned (.tuple #[.int .i64 (gt p 12 1), .int .u64 (gt p 4 8), .int .i64 (gt p 18 4), .int .i64 (gt p 22 4), .int .i64 0]) ∧ Below w.heap.size w w' := by
  have hp := hg.len
  have hgo := pof_yes w v p hv hg
  obtain ⟨g, off, c, rfl, hlc, hcm, hF, hglt, hcells⟩ := hv.at_ (by omega)
  have c12 := hcells 12 (by omega)
  rw [hp] at hv hgo ⊢
  have hz := gt1 p 12 (by omega)
  rw [← hz] at c12
  have hzb : gt p 12 1 < 256 := gt_lt p 12 1
  obtain ⟨z, hzz⟩ : ∃ z, gt p 12 1 = z := ⟨_, rfl⟩
  obtain ⟨L, hL⟩ : ∃ L, gt p 4 8 = L := ⟨_, rfl⟩
  obtain ⟨x1, hx1⟩ : ∃ x1, gt p 18 4 = x1 := ⟨_, rfl⟩
  obtain ⟨x2, hx2⟩ : ∃ x2, gt p 22 4 = x2 := ⟨_, rfl⟩
  rw [hzz] at c12 hzb
  rw [hzz, hL, hx1, hx2]
  obtain ⟨a1, c1, hsl, hrd1⟩ := slice_bytes hv 4 12 4 12 rfl rfl (by decide) (by omega)
  have HG := Lib.hid hgo
  have HP := Lib.hid hp
  have HV := Lib.hid hv
  have HRD := Lib.hid hrd1
  have HX := Lib.hid (And.intro hL (And.intro hx1 (And.intro hx2 hglt)))
  have hwz : IntKind.i64.wrap (z : Int) = (z : Int) := by rw [IntKind.wrap_i64]; omega
  clear hgo hv hg hp hcells hz hzz hL hx1 hx2 hrd1 hF hzb
  go_enter Tryz.func80, Tryz.ntmps80
  go_wp2_with fail
  refine HG.out.mono ?_
  rintro e w2 ⟨rfl, hb⟩
  have hbx : (w2.alloc (.cells #[.slice (some ⟨g, off, none⟩) 512 c] 149)).drew.cell? ⟨w2.heap.size, 0, none⟩ = some (.slice (some ⟨g, off, none⟩) 512 c) := one_cell (w := w2.alloc (.cells #[.slice (some ⟨g, off, none⟩) 512 c] 149)) (heap_alloc_new w2 _)
  have hB3 : Below w.heap.size w (w2.alloc (.cells #[.slice (some ⟨g, off, none⟩) 512 c] 149)) := hb.alloc hb.size _
  obtain ⟨w3, hw3⟩ : ∃ w3, w2.alloc (.cells #[.slice (some ⟨g, off, none⟩) 512 c] 149) = w3 := ⟨_, rfl⟩
  rw [hw3] at hbx hB3
  have hS0 : (w3.drew.cell? ⟨w2.heap.size, 0, none⟩ = some (.slice (some ⟨g, off, none⟩) 512 c) ∧ Below w3.heap.size w3 w3.drew) ∧ w3.drew.cell? ⟨g, off + 12, none⟩ = some (.int .u8 (z : Int)) :=
    ⟨⟨hbx, below_drewN (Below.refl _ _) 1⟩, (hB3.cell (p := ⟨g, off + 12, none⟩) HX.out.2.2.2).trans c12⟩
  have hstep : ∀ W, Below w3.heap.size w3 W → W.cell? ⟨g, off + 12, none⟩ = some (.int .u8 (z : Int)) := fun W hW => ((hB3.trans (hW.mono hB3.size)).cell (p := ⟨g, off + 12, none⟩) HX.out.2.2.2).trans c12
  have hwd := word_any w3.drew _ _ (RdB.drewN (RdB.below HRD.out hB3) 1) (by rw [List.length_take]; exact Nat.min_le_left _ _)
  have hwe : leNat ((p.drop 4).take (12 - 4)) = L := HX.out.1
  rw [hwe] at hwd
  have hg1 : ∀ W, Below w3.heap.size w3 W → Calls Tryz.prog 84 #[.agg #[.slice (some ⟨g, off, none⟩) 512 c], .int .i64 18, .int .i64 4] W fun e w' => e = .returned (.int .i64 (x1 : Int)) ∧ Below W.heap.size W w' := fun W hW => by
    have := get_any (F := F) W _ p 18 4 18 4 rfl rfl (RdB.below (RdB.below HV.out hB3) hW) (by have := HP.out; omega) (by decide) (by have := HP.out; omega)
    rw [HX.out.2.1] at this
    exact this
  have hg2 : ∀ W, Below w3.heap.size w3 W → Calls Tryz.prog 84 #[.agg #[.slice (some ⟨g, off, none⟩) 512 c], .int .i64 22, .int .i64 4] W fun e w' => e = .returned (.int .i64 (x2 : Int)) ∧ Below W.heap.size W w' := fun W hW => by
    have := get_any (F := F) W _ p 22 4 22 4 rfl rfl (RdB.below (RdB.below HV.out hB3) hW) (by have := HP.out; omega) (by decide) (by have := HP.out; omega)
    rw [HX.out.2.2.1] at this
    exact this
  have HWD := Lib.hid hwd
  have HG1 := Lib.hid hg1
  have HG2 := Lib.hid hg2
  have HST := Lib.hid hstep
  have HB3 := Lib.hid hB3
  clear hb hbx hB3 hwd hwe hg1 hg2 hstep c12
  go_wp2
  go_region_held_law (fun W => (W.cell? ⟨w2.heap.size, 0, none⟩ = some (.slice (some ⟨g, off, none⟩) 512 c) ∧ Below w3.heap.size w3 W) ∧ W.cell? ⟨g, off + 12, none⟩ = some (.int .u8 (z : Int)))
    (first | exact ⟨hS2, HST.out _ hS2.2⟩ | exact ⟨hS1, HST.out _ hS1.2⟩ | exact hS0)
    (first
    | ((go_simp; go_at_call 69; refine HWD.out.mono ?_; rintro e W0 ⟨rfl, rfl⟩; clear HWD))
    | ((go_simp; go_at_call 84; refine (HG1.out _ hS0.1.2).mono ?_; rintro e W1 ⟨rfl, hb1⟩; have hS1 := boxS_keep hS0.1 hb1; clear HG1))
    | ((go_simp; go_at_call 84; refine (HG2.out _ hS1.2).mono ?_; rintro e W2 ⟨rfl, hb2⟩; have hS2 := boxS_keep hS1 hb2; clear HG2)))
  have HF := Lib.hid hS2.2
  clear hS0 hS1 hS2 hb1 hb2
  go_wp2
  exact bodyPost_ret (v := .tuple #[.int .i64 z, .int .u64 L, .int .i64 x1, .int .i64 x2, .int .i64 0]) (by simp [results, Tryz.results80, go_sem]) rfl ⟨rfl, HB3.out.trans (HF.out.mono HB3.out.size)⟩

/-- bytes are told, in new memory -/
def BytesOut (w : World) (c : PBytes) (e : Ending) (w' : World) : Prop := ∃ g, e = .returned (.tuple #[.slice (some ⟨g, 0, none⟩) c.length c.length, .int .i64 0]) ∧ w'.heap[g]? = some (bobj c) ∧ w.heap.size ≤ g ∧ Below w.heap.size w w'

end Mun
end

section
/- out: a frame's page written out, whatever becomes of it. -/
set_option maxRecDepth 100000
set_option linter.unusedVariables false
set_option linter.unusedSimpArgs false
namespace Mun
open Go Go.RowKit
open Go.Proofs

/-- dirty pages by rising numbers: one laid among them, or turned -/
def dset : List (Int × (Nat × Bool)) → Int → Nat × Bool → List (Int × (Nat × Bool))
  | [], n, y => [(n, y)]
  | p :: ps, n, y => if p.1 = n then (n, y) :: ps else if n < p.1 then (n, y) :: p :: ps else p :: dset ps n y

theorem dlook_cons (p : Int × (Nat × Bool)) (ps : List (Int × (Nat × Bool))) (m : Int) : dlook (p :: ps) m = if p.1 = m then some p.2 else dlook ps m := by
  unfold dlook
  rw [List.find?_cons]
  by_cases h : p.1 = m
  · rw [if_pos h]; simp [h]
  · rw [if_neg h]
    have : (p.1 == m) = false := by simp [h]
    rw [this]
theorem dlook_dset (dt : List (Int × (Nat × Bool))) (n : Int) (y : Nat × Bool) (m : Int) : dlook (dset dt n y) m = if m = n then some y else dlook dt m := by
  induction dt with
  | nil =>
    unfold dset
    rw [dlook_cons]
    by_cases h : m = n
    · subst h; simp
    · have h' : ¬ n = m := fun e => h e.symm
      rw [if_neg h, if_neg h']
  | cons p ps ih =>
    unfold dset
    by_cases h1 : p.1 = n
    · rw [if_pos h1, dlook_cons, dlook_cons]
      by_cases h : m = n
      · subst h; simp
      · have h' : ¬ n = m := fun e => h e.symm
        have h'' : ¬ p.1 = m := fun e => h' (h1 ▸ e)
        rw [if_neg h, if_neg h', if_neg h'']
    · rw [if_neg h1]
      by_cases h2 : n < p.1
      · rw [if_pos h2, dlook_cons]
        by_cases h : m = n
        · subst h; simp
        · have h' : ¬ n = m := fun e => h e.symm
          rw [if_neg h, if_neg h']
      · rw [if_neg h2, dlook_cons, ih, dlook_cons]
        by_cases h : m = n
        · subst h; simp; exact fun e => absurd e h1
        · rw [if_neg h, if_neg h]
theorem dset_mem {dt : List (Int × (Nat × Bool))} {n : Int} {y : Nat × Bool} {q : Int × (Nat × Bool)} (h : q ∈ dset dt n y) : q = (n, y) ∨ q ∈ dt := by
  induction dt with
  | nil => exact .inl (List.mem_singleton.1 h)
  | cons p ps ih =>
    unfold dset at h
    split at h
    · rcases List.mem_cons.1 h with h | h
      · exact .inl h
      · exact .inr (List.mem_cons_of_mem _ h)
    · split at h
      · rcases List.mem_cons.1 h with h | h
        · exact .inl h
        · exact .inr h
      · rcases List.mem_cons.1 h with h | h
        · exact .inr (h ▸ List.mem_cons_self ..)
        · rcases ih h with h | h
          · exact .inl h
          · exact .inr (List.mem_cons_of_mem _ h)
def DtS (dt : List (Int × (Nat × Bool))) : Prop := (dt.map (·.1)).Pairwise (· < ·)
theorem DtS.dset {dt : List (Int × (Nat × Bool))} (h : DtS dt) (n : Int) (y : Nat × Bool) : DtS (dset dt n y) := by
  induction dt with
  | nil => simp [DtS, Mun.dset]
  | cons p ps ih =>
    unfold DtS at h ih ⊢
    rw [List.map_cons, List.pairwise_cons] at h
    unfold Mun.dset
    split
    · rename_i h1
      rw [List.map_cons, List.pairwise_cons]
      exact ⟨by rw [← h1]; exact h.1, h.2⟩
    · split
      · rename_i h1 h2
        rw [List.map_cons, List.pairwise_cons, List.map_cons, List.pairwise_cons]
        refine ⟨fun a ha => ?_, h.1, h.2⟩
        rcases List.mem_cons.1 ha with rfl | ha
        · exact h2
        · have := h.1 a ha; show n < a; omega
      · rename_i h1 h2
        rw [List.map_cons, List.pairwise_cons]
        refine ⟨fun a ha => ?_, ih h.2⟩
        obtain ⟨q, hq, rfl⟩ := List.mem_map.1 ha
        rcases dset_mem hq with rfl | hq
        · show p.1 < n; omega
        · exact h.1 _ (List.mem_map.2 ⟨q, hq, rfl⟩)

def FM.clean (f : FM) : FM := { f with chg := false }
def drec (dt : List (Int × (Nat × Bool))) (n : Int) : Nat := ((dlook dt n).map (·.1)).getD 0

/-- a frame's page written out -/
def PX.out (s : PX) (i : Nat) : PX × Int :=
  match s.pm.fr[i]? with
  | none => (s, 0)
  | some f =>
    if f.pg < 0 ∨ f.chg = false then (s, 0)
    else if (s.force (gt f.b 4 8)).2 ≠ 0 then s.force (gt f.b 4 8)
    else if ((s.force (gt f.b 4 8)).1.dm.write f.pg f.b).2 ≠ 0 then ({ (s.force (gt f.b 4 8)).1 with dm := ((s.force (gt f.b 4 8)).1.dm.write f.pg f.b).1 }, ((s.force (gt f.b 4 8)).1.dm.write f.pg f.b).2)
    else ({ (s.force (gt f.b 4 8)).1 with dm := ((s.force (gt f.b 4 8)).1.dm.write f.pg f.b).1, pm := { s.pm with fr := s.pm.fr.set i f.clean, dt := dset s.pm.dt f.pg (drec s.pm.dt f.pg, false) } }, 0)

theorem force_pm (s : PX) (n : Nat) : (s.force n).1.pm = s.pm := by unfold PX.force; split <;> rfl
theorem force_ops (s : PX) (n : Nat) : (s.force n).1.dm.ops ≤ s.dm.ops + 1 := by
  unfold PX.force
  split
  · exact Nat.le_succ _
  · show s.dm.force.1.ops ≤ _
    unfold DM.force
    split
    · exact Nat.le_succ _
    · split
      · unfold DM.spend; split <;> simp
      · unfold DM.spend; split <;> simp

/-- a view of a pool behind out -/
structure OutV (v v' : PLV) (i : Nat) (x : FV) : Prop where
  G : v'.G = v.G
  Mw : v'.Mw = v.Mw
  Md : v'.Md = v.Md
  es : v'.es = v.es
  fs : v'.fs = v.fs ∨ v'.fs = v.fs.set i (x.1.clean, x.2)

theorem OutV.refl (v : PLV) (i : Nat) (x : FV) : OutV v v i x := ⟨rfl, rfl, rfl, rfl, .inl rfl⟩

/-- the map of dirty pages has turned -/
theorem PRep.dirt {w w' : World} {Pb D L : Nat} {F : Foot} {p : PM} {v : PLV} (h : PRep w Pb D L F p v) (hF : ∀ k, pfoot Pb v k → F k) (ho : ∀ k, k ≠ v.Md → w'.heap[k]? = w.heap[k]?) {ds : List (Int × Value)} {dt : List (Int × (Nat × Bool))}
    (hm : IMap w' v.Md ds) (hd : ∀ n, alook ds n = (dlook dt n).map dval) : PRep w' Pb D L F { p with dt := dt } { v with ds := ds } :=
  ⟨(ho _ h.neMd).trans h.blk, (ho _ h.neGMd).trans h.fbl, h.frs, fun x hx => RdV.keep (h.rd x hx) (fun k _ hk => ho k (fun e => hk (hF k (.inr (.inr (.inr e)))))) (fun _ _ h => h), h.mp.keep (ho _ h.ne), h.mok, hm, hd, h.ne, h.hand, h.big⟩

theorem zero_dirt : ∀ w, (zeroValue 111).run Tryz.prog w = .ok (.agg #[.int .u64 0, .bool false]) w := fun w => by kernel_rfl

theorem PL.af_foot {w : World} {D L Pb : Nat} {s : PX} {x : PZ} (h : PL w D L Pb s x) (k : Nat) (hk : pfoot Pb x.v k) : x.af Pb L k := .inl (.inl hk)

theorem dirt_field (a : Value) (c : Bool) (w : World) : (Instr.field 111 (.agg #[a, .bool c]) 0).run Tryz.prog w = .ok a w := by kernel_rfl

def OutPost (w : World) (D L Pb : Nat) (x : PZ) (r : PX × Int) (i : Nat) (f : FV) (e : Ending) (w' : World) : Prop := ∃ v', OutV x.v v' i f ∧ PPost w D L Pb x r v' e w'

set_option maxHeartbeats 2000000 in
theorem out_pl {w : World} {D L Pb : Nat} {s : PX} {x : PZ} (h : PL w D L Pb s x) (ho : s.dm.ops < 4398046511103) (i : Nat) (f : FV) (hx : x.v.fs[i]? = some f) (hg : f.1.chg = true → GoodP f.1.b) :
    Calls Tryz.prog 44 #[.pointer (some ⟨Pb, 0, none⟩), .pointer (some ⟨x.v.G, i * 5, none⟩)] w (OutPost w D L Pb x (s.out i) i f) := by
  have hfr : s.pm.fr[i]? = some f.1 := by rw [h.rep.frs, List.getElem?_map, hx]; rfl
  by_cases hq : f.1.pg < 0 ∨ f.1.chg = false
  · refine (out_no w Pb D L _ s.pm x.v h.rep i f hx hq).mono ?_
    rintro e w' ⟨rfl, rfl⟩
    refine ⟨x.v, OutV.refl _ _ _, ?_⟩
    unfold PX.out
    rw [hfr]
    simp only
    rw [if_pos hq]
    exact ⟨rfl, PTo.refl h⟩
  · obtain ⟨hq0, hqc⟩ := not_or.1 hq
    have hqc : f.1.chg = true := by cases hc : f.1.chg; exact absurd hc hqc; rfl
    have hgood := hg hqc
    obtain ⟨k0, k1, k2, k3, k4⟩ := fc5 h.rep.fbl hx
    have hrd := h.rep.rd f (List.mem_of_getElem? hx)
    have hhd := head_yes w f.2 f.1.b hrd hgood
    obtain ⟨pg, hpg⟩ : ∃ pg, f.1.pg = pg := ⟨_, rfl⟩
    obtain ⟨lsn, hlsn⟩ : ∃ lsn, gt f.1.b 4 8 = lsn := ⟨_, rfl⟩
    obtain ⟨y12, hy12⟩ : ∃ y, gt f.1.b 12 1 = y := ⟨_, rfl⟩
    obtain ⟨y18, hy18⟩ : ∃ y, gt f.1.b 18 4 = y := ⟨_, rfl⟩
    obtain ⟨y22, hy22⟩ : ∃ y, gt f.1.b 22 4 = y := ⟨_, rfl⟩
    rw [hlsn, hy12, hy18, hy22] at hhd
    rw [hpg] at k0
    rw [hqc] at k4
    have hn0 : 0 ≤ pg := by omega
    obtain ⟨fv, hfv⟩ : ∃ fv, f.2 = fv := ⟨_, rfl⟩
    rw [hfv] at k1 hhd
    obtain ⟨sa, sn, sc, e2, -⟩ := hrd.formN
    rw [hfv] at e2
    subst e2
    have hout : s.out i = if (s.force lsn).2 ≠ 0 then s.force lsn
        else if ((s.force lsn).1.dm.write pg f.1.b).2 ≠ 0 then ({ (s.force lsn).1 with dm := ((s.force lsn).1.dm.write pg f.1.b).1 }, ((s.force lsn).1.dm.write pg f.1.b).2)
        else ({ (s.force lsn).1 with dm := ((s.force lsn).1.dm.write pg f.1.b).1, pm := { s.pm with fr := s.pm.fr.set i f.1.clean, dt := dset s.pm.dt pg (drec s.pm.dt pg, false) } }, 0) := by
      unfold PX.out
      rw [hfr]
      simp only
      rw [if_neg hq, hlsn, hpg]
    obtain ⟨r, hr⟩ : ∃ r, s.out i = r := ⟨_, rfl⟩
    rw [hr] at hout ⊢
    have HOUT := Lib.hid hout
    obtain ⟨G, hG⟩ : ∃ G, x.v.G = G := ⟨_, rfl⟩
    rw [hG] at k0 k1 k2 k3 k4 ⊢
    have HHD := Lib.hid hhd
    have HX := Lib.hid (And.intro h (And.intro ho (And.intro hx (And.intro hpg (And.intro hfv (And.intro hqc hG))))))
    clear h ho hx hg hfr hq hq0 hqc hgood k2 k3 hrd hhd hpg hlsn hy12 hy18 hy22 hout hfv hG hr
    go_enter Tryz.func44, Tryz.ntmps44
    go_wp2_with fail
    refine HHD.out.mono ?_
    rintro e w1 ⟨rfl, hb1⟩
    obtain ⟨h, ho, hx, hpg, hfv, hqc, hG⟩ := HX.out
    have h1 := h.below hb1
    have d1 : w1.cell? ⟨Pb, 1, none⟩ = some (.pointer (some ⟨L, 0, none⟩)) := by rw [h1.rep.cell 1]; simp [pcells]
    have hfo := force_pl h1 (Nat.lt_trans ho (by decide)) lsn
    have HFO := Lib.hid hfo
    have HB1 := Lib.hid hb1
    clear h ho hx hpg hfv hqc hG h1 hfo hb1 HHD k0 k1 k4
    obtain ⟨k, hk⟩ : ∃ k, (s.force lsn).2 = k := ⟨_, rfl⟩
    go_wp2_with fail
    refine HFO.out.mono ?_
    rintro e w2 ⟨rfl, x2, hv2, hz2, h2, c2⟩
    rw [hk]
    by_cases hk0 : k = 0
    · subst hk0
      obtain ⟨h, ho, hx, hpg, hfv, hqc, hG⟩ := HX.out
      have hx2 : x2.v.fs[i]? = some f := by rw [hv2]; exact hx
      have hG2 : x2.v.G = G := by rw [hv2]; exact hG
      obtain ⟨k0, k1, k2, k3, k4⟩ := fc5 h2.rep.fbl hx2
      rw [hpg, hG2] at k0
      rw [hfv, hG2] at k1
      have d0 : w2.cell? ⟨Pb, 0, none⟩ = some (.pointer (some ⟨D, 0, none⟩)) := by rw [h2.rep.cell 0]; simp [pcells]
      have hrd2 := h2.drew.rep.rd f (List.mem_of_getElem? hx2)
      rw [hfv] at hrd2
      have hwr := write_pl h2.drew (Nat.lt_of_le_of_lt (force_ops s lsn) (by omega)) pg f.1.b _ hrd2
      obtain ⟨k5, hk5⟩ : ∃ k5, ((s.force lsn).1.dm.write pg f.1.b).2 = k5 := ⟨_, rfl⟩
      obtain ⟨s5, hs5⟩ : ∃ s5, ({ (s.force lsn).1 with dm := ((s.force lsn).1.dm.write pg f.1.b).1 } : PX) = s5 := ⟨_, rfl⟩
      rw [hk5, hs5] at hwr
      have HWR := Lib.hid hwr
      have H2 := Lib.hid (And.intro (And.intro hv2 hz2) (And.intro h2 (And.intro c2 (And.intro hk (And.intro hk5 hs5)))))
      clear h ho hx hpg hfv hqc hG hx2 hG2 k2 k3 k4 hrd2 hwr hk hk5 hs5 HFO hv2 hz2 h2 c2 d1
      go_upto_region 9 with (fail)
      go_still_tail 12, (by kernel_rfl)
      change wpList _ _ _ _ _ w2.drew
      go_wp2_with fail
      refine HWR.out.mono ?_
      rintro e w3 ⟨he, x3, hv3, hz3, h3, c3⟩
      obtain rfl : e = .returned (.int .i64 k5) := he
      have h3 : PL w3 D L Pb s5 x3 := h3
      clear k0 k1 d0 HWR
      obtain ⟨⟨hv2, hz2⟩, h2, c2, hk, hk5, hs5⟩ := H2.out
      obtain ⟨h, ho, hx, hpg, hfv, hqc, hG⟩ := HX.out
      have hc3 : Chg (x.tf Pb L) (x3.tf Pb L) w w3 := (Chg.of_below HB1.out _).trans (c2.trans ((chg_drew _).trans c3))
      have hv3' : x3.v = x.v := hv3.trans hv2
      by_cases hk6 : k5 = 0
      · subst hk6
        have hx3 : x3.v.fs[i]? = some f := by rw [hv3']; exact hx
        have hG3 : x3.v.G = G := by rw [hv3']; exact hG
        let y : FV := (f.1.clean, f.2)
        obtain ⟨w4, hw4⟩ : ∃ w4, w3.setCell ⟨G, i * 5 + 4, none⟩ (.bool false) = w4 := ⟨_, rfl⟩
        obtain ⟨k0, k1, k2, k3, k4⟩ := fc5 h3.rep.fbl hx3
        rw [hqc, hG3] at k4
        have z4 : w3.frozen? ⟨G, i * 5 + 4, none⟩ = false := by rw [← hG3]; exact h3.rep.ffree _
        have hG4 : w4.heap[x3.v.G]? = some (.cells (fcells (x3.v.fs.set i y)).toArray 105 (0, 0)) := by
          rw [← hw4, ← hG3]
          refine (setCell_blk h3.rep.fbl _).trans ?_
          rw [Nat.mul_comm i 5, fcells_set1 x3.v.fs i 4 f y (.bool false) hx3 (by omega) rfl]
        have ho4 : ∀ k, k ≠ x3.v.G → w4.heap[k]? = w3.heap[k]? := fun k hk => by rw [← hw4, setCell_heap _ _ _ _ (by rw [← hG3]; exact hk)]
        have hg4 : Chg (pfoot Pb x3.v) (pfoot Pb x3.v) w3 w4 := by rw [← hw4, ← hG3]; exact chg_setCell _ _ _ (.inr (.inl rfl))
        have hrep4 := h3.rep.setF h3.af_foot hx3 (y := y) rfl (RdV.keep (h3.rep.rd f (List.mem_of_getElem? hx3)) (fun k _ hk => ho4 k (fun e => hk (h3.af_foot k (.inr (.inl e))))) (fun _ _ h => h)) ho4 hG4
        have hx4 : (x3.v.fs.set i y)[i]? = some y := List.getElem?_set_self (List.getElem?_eq_some_iff.1 hx3).1
        obtain ⟨k40, -, -, -, -⟩ := fc5 hrep4.fbl hx4
        have k40' : w4.drew.cell? ⟨G, i * 5, none⟩ = some (.int .i64 pg) := by rw [← hpg, ← hG3]; exact k40
        obtain ⟨Md, hMd⟩ : ∃ Md, x3.v.Md = Md := ⟨_, rfl⟩
        have d4 : w4.drew.cell? ⟨Pb, 4, none⟩ = some (.map (some Md)) := by rw [← hMd]; show w4.cell? ⟨Pb, 4, none⟩ = _; rw [hrep4.cell 4]; simp [pcells]
        have hdm : IMap w4.drew Md x3.v.ds := by rw [← hMd]; exact hrep4.dm.keep rfl
        have hlk := imap_lookup1 (P := Tryz.prog) Tryz.underlying98 Tryz.underlying3 (zero_dirt w4.drew) hdm pg
        obtain ⟨cc, hcc⟩ : ∃ cc, (alook x3.v.ds pg).getD (.agg #[.int .u64 0, .bool false]) = .agg #[.int .u64 (drec s5.pm.dt pg : Nat), .bool cc] := by
          rw [h3.rep.dlk pg]
          unfold drec
          cases dlook s5.pm.dt pg with
          | none => exact ⟨false, rfl⟩
          | some q => exact ⟨q.2, rfl⟩
        rw [hcc] at hlk
        obtain ⟨rc, hrc⟩ : ∃ rc, drec s5.pm.dt pg = rc := ⟨_, rfl⟩
        rw [hrc] at hlk
        obtain ⟨o5, ds5, hup, hm5, he5⟩ := imap_update (P := Tryz.prog) Tryz.underlying98 Tryz.underlying3 hdm pg (.agg #[.int .u64 (rc : Int), .bool false])
        obtain ⟨w5, hw5⟩ : ∃ w5, setObjW w4.drew Md o5 = w5 := ⟨_, rfl⟩
        rw [hw5] at hup hm5
        have ho5 : ∀ k, k ≠ x3.v.Md → w5.heap[k]? = w4.heap[k]? := fun k hk => by rw [← hw5, setObjW_other _ _ _ _ (by rw [← hMd]; exact hk)]; rfl
        have hrep5 := hrep4.dirt (w' := w5) (ds := ds5) (dt := dset s5.pm.dt pg (rc, false)) h3.af_foot ho5 (by show IMap w5 x3.v.Md ds5; rw [hMd]; exact hm5) (fun n => by
          rw [he5, dlook_dset]
          by_cases hn : n = pg
          · rw [if_pos hn, if_pos hn]; rfl
          · rw [if_neg hn, if_neg hn]; exact h3.rep.dlk n)
        have hg5 : Chg (pfoot Pb x3.v) (pfoot Pb x3.v) w3 w5 := by
          rw [← hw5]
          exact (hg4.trans (chg_drew _)).trans (setObjW_chg _ _ _ (by rw [← hMd]; exact .inr (.inr (.inr rfl))))
        obtain ⟨hfin, hcf⟩ := h3.pool1 (v' := { x3.v with fs := x3.v.fs.set i y, ds := ds5 }) rfl hrep5 hg5
        have hpost : OutPost w D L Pb x r i f (.returned (.int .i64 0)) w5 := by
          have e1 : s5.pm = s.pm := by rw [← hs5]; exact force_pm s lsn
          refine ⟨{ x3.v with fs := x3.v.fs.set i y, ds := ds5 }, ⟨by rw [← hv3'], by rw [← hv3'], by rw [← hv3'], by rw [← hv3'], .inr (by rw [← hv3'])⟩, ?_⟩
          rw [HOUT.out, if_neg (by rw [hk]; simp), if_neg (by rw [hk5]; simp)]
          refine ⟨rfl, { x3 with v := { x3.v with fs := x3.v.fs.set i y, ds := ds5 } }, rfl, hz3.trans hz2, ?_, hc3.trans hcf⟩
          have e2 : ({ s5 with pm := { { s5.pm with fr := (x3.v.fs.set i y).map (fun z : FV => z.1) } with dt := dset s5.pm.dt pg (rc, false) } } : PX) = { (s.force lsn).1 with dm := ((s.force lsn).1.dm.write pg f.1.b).1, pm := { s.pm with fr := s.pm.fr.set i f.1.clean, dt := dset s.pm.dt pg (drec s.pm.dt pg, false) } } := by
            rw [← hrc, e1, ← hs5, h.rep.frs, hv3', List.map_set]
          rw [← e2]
          exact hfin
        have HP := Lib.hid hpost
        clear h ho hx hpg hfv hqc hG hv2 hz2 hz3 h2 c2 hk hk5 hs5 hv3 h3 c3 hc3 hv3' hx3 hG3 k0 k1 k2 k3 hG4 ho4 hg4 hrep4 hx4 k40 hMd hdm hcc hrc hm5 he5 ho5 hrep5 hg5 hfin hcf hpost y
        have hfl := dirt_field (.int .u64 (rc : Int)) cc w4.drew
        go_upto_region 13 with (rw [hw4])
        go_region
        try rw [hw5]
        go_wp2
        go_ret
        exact HP.out
      · have hpost : OutPost w D L Pb x r i f (.returned (.int .i64 k5)) w3 := by
          rw [HOUT.out, if_neg (by rw [hk]; simp), if_pos (by rw [hk5]; exact hk6)]
          refine ⟨x.v, OutV.refl _ _ _, ?_, x3, hv3', hz3.trans hz2, ?_, hc3⟩
          · rw [hk5]
          · rw [hs5]; exact h3
        have HP := Lib.hid hpost
        clear h ho hx hpg hfv hqc hG hv2 hz2 hz3 h2 c2 hk hk5 hs5 hv3 h3 c3 hc3 hv3' hpost
        go_wp2
        go_ret
        exact HP.out
    · obtain ⟨h, ho, hx, hpg, hfv, hqc, hG⟩ := HX.out
      have hfin : OutPost w D L Pb x r i f (.returned (.int .i64 k)) w2 := by
        rw [HOUT.out, if_pos (by rw [hk]; exact hk0)]
        exact ⟨x.v, OutV.refl _ _ _, by rw [hk], x2, hv2, hz2, h2, (Chg.of_below HB1.out _).trans c2⟩
      have HF := Lib.hid hfin
      clear h ho hx hpg hfv hqc hG hfin hv2 hz2 h2 c2 HFO hk d1
      go_wp2
      go_ret
      exact HF.out
end Mun
end
