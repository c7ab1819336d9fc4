/- A pool whose device has died, and what a crash leaves of the pages that were certain. -/
import Derived.Test.YtjfepmohoijalaaGreatMgQb
import Derived.Test.YtjfepmohoijalaaGreatMgS
set_option maxRecDepth 100000
set_option linter.unusedVariables false
set_option linter.unusedSimpArgs false
namespace Mun
open Go Go.RowKit
open Go.Proofs

theorem dead_force {s : PX} (hd : s.dm.dead = true) (l : Nat) : (s.force l).1.dm = s.dm ∧ (s.force l).1.pm = s.pm ∧ ((s.force l).2 = 0 ∨ (s.force l).2 = 9) := by
  unfold PX.force
  split
  · exact ⟨rfl, rfl, .inl rfl⟩
  · have e : s.dm.force = (s.dm, 9) := by unfold DM.force; rw [if_pos hd]
    rw [e]
    exact ⟨rfl, rfl, .inr rfl⟩
theorem dead_out {s : PX} (hd : s.dm.dead = true) (i : Nat) : (s.out i).1.dm = s.dm ∧ (s.out i).1.pm = s.pm ∧ ((s.out i).2 = 0 ∨ (s.out i).2 = 9) := by
  unfold PX.out
  split
  · exact ⟨rfl, rfl, .inl rfl⟩
  · rename_i f hf
    split
    · exact ⟨rfl, rfl, .inl rfl⟩
    · obtain ⟨a1, a2, a3⟩ := dead_force hd (gt f.b 4 8)
      have e : ((s.force (gt f.b 4 8)).1.dm.write f.pg f.b) = ((s.force (gt f.b 4 8)).1.dm, 9) := by unfold DM.write; rw [if_pos (by rw [a1]; exact hd)]
      split
      · exact ⟨a1, a2, a3⟩
      · rw [e, if_pos (show ((s.force (gt f.b 4 8)).1.dm, (9 : Int)).2 ≠ 0 by simp)]
        exact ⟨a1, a2, .inr rfl⟩
theorem dead_pin1 {s : PX} (hd : s.dm.dead = true) (k i : Nat) : (s.pin1 k i).1.dm = s.dm ∧ (s.pin1 k i).1.pm.dt = s.pm.dt ∧ (s.pin1 k i).2 = 9 := by
  obtain ⟨a1, a2, a3⟩ := dead_out hd i
  unfold PX.pin1
  split
  · rename_i h
    exact ⟨a1, by rw [a2], a3.resolve_left h⟩
  · rw [if_pos (by rw [a1]; exact hd)]
    exact ⟨a1, by show (s.out i).1.pm.dt = _; rw [a2], rfl⟩

/-- what is known of a pool over a dead device -/
structure DWk (n : Nat) (s : PX) : Prop where
  dead : s.dm.dead = true
  base : s.dm.base.length = n
  n0 : 0 < n
  ops : s.dm.ops < 4398046000000
  good : s.GoodF
  pins : ∀ f ∈ s.pm.fr, f.pins ≤ 8796093022199
  lens : ∀ f ∈ s.pm.fr, 0 ≤ f.pg → f.b.length = 512
  dts : DtS s.pm.dt

theorem and_15 (n : Int) : ∃ q : Nat, bits .and .i64 n 15 = (q : Int) ∧ q < 16 := by
  refine ⟨(n % 16).toNat, ?_, by omega⟩
  rw [and_low64 n 4 (by decide) 15 (by decide) (by decide)]
  show n % 16 = _
  omega
/-- the law's row of pages while it is made -/
structure RowC (w4 wr : World) (Lr n k : Nat) (vals : List Value) : Prop where
  row : wr.heap[Lr]? = some (.cells vals.toArray 41 (0, 0))
  vlen : vals.length = n
  rd : ∀ j, j < k → ∃ u, vals[j]? = some u ∧ RdB (OldF w4.heap.size) wr u page0
  sl : ∀ j, k ≤ j → j < n → vals[j]? = some (.slice none 0 0)
  below : Below Lr w4 wr
theorem RowC.step {w4 wr : World} {Lr n k : Nat} {vals : List Value} (h : RowC w4 wr Lr n k vals) (hk : k < n) (hL : Lr < w4.heap.size) :
    RowC w4 ((wr.alloc (bobj page0)).setCell ⟨Lr, k, none⟩ (.slice (some ⟨wr.heap.size, 0, none⟩) 512 512)) Lr n (k + 1) (vals.set k (.slice (some ⟨wr.heap.size, 0, none⟩) 512 512)) := by
  have hsz := h.below.size
  refine ⟨?_, by rw [List.length_set]; exact h.vlen, fun j hj => ?_, fun j hj hjn => ?_, (h.below.alloc (by omega) _).setCell (Nat.le_refl _) _⟩
  · have h1 : (wr.alloc (bobj page0)).heap[Lr]? = some (.cells vals.toArray 41 (0, 0)) := (((Below.refl wr.heap.size wr).alloc (Nat.le_refl _) (bobj page0)).block Lr (by omega)).trans h.row
    refine (setCell_blk h1 _).trans ?_
    simp
  · by_cases hjk : k = j
    · subst hjk
      refine ⟨_, List.getElem?_set_self (by rw [h.vlen]; exact hk), ?_⟩
      have h1 := bobj_rd (F := OldF w4.heap.size) wr page0 512 page0_length.symm (by rw [page0_length]; unfold maxLen; omega) (fun e => by have e : wr.heap.size < w4.heap.size := e; omega)
      rw [page0_length] at h1
      exact h1.set _ _ hL
    · obtain ⟨u, h1, h2⟩ := h.rd j (by omega)
      exact ⟨u, by rw [List.getElem?_set_ne hjk]; exact h1, (h2.alloc _).set _ _ hL⟩
  · rw [List.getElem?_set_ne (by omega)]
    exact h.sl j (by omega) hjn


section
variable {w0 w w' : World} {D L Pb n i : Nat} {s s' : PX} {x x' : PZ} {last : List Bytes} {p p' q : RP} {xr xr' : RPV} {v' : PLV}

theorem PI.dead (h : PI n i s last p) (hm : PM0 w0 w D L Pb s x q xr) (hh : Hurt s s') : DWk n s' := by
  have h1 := hh.ops
  have h2 := h.opsb hm
  have h3 := h.base
  have h4 := h.n8
  refine ⟨hh.dead, by rw [hh.base]; exact h3, by omega, by omega, fun f' hf' hc => ?_, fun f' hf' => ?_, fun f' hf' h0 => ?_, hh.dts h.ti.dts⟩
  · obtain ⟨f, hf, e1, e2, e3, e4⟩ := hh.fr f' hf'
    rw [e2]; exact h.goodF f hf (e4 hc)
  · obtain ⟨f, hf, e1, e2, e3, e4⟩ := hh.fr f' hf'
    rw [e3]
    have := h.pins f hf
    have := h.small
    omega
  · obtain ⟨f, hf, e1, e2, e3, e4⟩ := hh.fr f' hf'
    rw [e2]; exact h.flen f hf (by rw [← e1]; exact h0)

def PinDead (w0 w : World) (D L Pb : Nat) (s : PX) (x : PZ) (q : RP) (xr : RPV) (e : Ending) (w' : World) : Prop :=
  ∃ (code : Int) (bv : Value) (s' : PX) (x' : PZ), e = .returned (.tuple #[bv, .int .i64 code]) ∧ (code = 9 ∨ code = 0 ∨ code = 7) ∧ PM0 w0 w' D L Pb s' x' q xr ∧ Cg Pb L x x' w w' ∧ s'.dm = s.dm ∧ s'.pm.dt = s.pm.dt

theorem pin_dead (h : PM0 w0 w D L Pb s x q xr) (hd : DWk n s) : Calls Tryz.prog 15 #[.pointer (some ⟨Pb, 0, none⟩), .int .i64 0] w (PinDead w0 w D L Pb s x q xr) := by
  have hn : 0 < s.dm.base.length := by rw [hd.base]; exact hd.n0
  cases hl : alook x.v.es ((0 : Nat) : Int) with
  | some u =>
    obtain ⟨-, fi, z, rfl, hz, hp⟩ := h.pl.rep.mok.there _ _ hl
    have hm : z.1 ∈ s.pm.fr := by rw [h.pl.rep.frs]; exact List.mem_map_of_mem (List.mem_of_getElem? hz)
    have hlen := hd.lens z.1 hm (by rw [hp]; exact Int.le_refl _)
    have hpb := hd.pins z.1 hm
    refine (pin_held_pl h.pl 0 hn fi z hz hp hpb (by omega)).mono ?_
    rintro e w' ⟨gb, rfl, hown, hto⟩
    obtain ⟨x', -, hm', hc⟩ := h.to hto
    exact ⟨0, _, _, x', rfl, .inr (.inl rfl), hm', hc, rfl, rfl⟩
  | none =>
    refine (pin_pl h.pl (by have := hd.ops; omega) 0 hn hl (h.pl.goodV hd.good)).mono ?_
    rintro e w' ⟨r, p1, v1, hfd, hres⟩
    obtain ⟨hdt, -⟩ := hfd.pm h.pl.rep.frs
    rcases hres with ⟨rfl, rfl, hto⟩ | ⟨fi, rfl, v', hto, hres⟩
    · obtain ⟨x', -, hm', hc⟩ := h.to hto
      exact ⟨7, _, _, x', rfl, .inr (.inr rfl), hm', hc, rfl, rfl⟩
    · obtain ⟨x', -, hm', hc⟩ := h.to hto
      obtain ⟨a1, a2, a3⟩ := dead_pin1 (s := { s with pm := p1 }) hd.dead 0 fi
      rcases hres with ⟨-, rfl⟩ | ⟨h9, -⟩
      · exact ⟨_, _, _, x', rfl, .inl a3, hm', hc, a1, a2.trans hdt⟩
      · rw [a3] at h9; cases h9

theorem sync_dead (h : PM0 w0 w D L Pb s x q xr) (hd : s.dm.dead = true) (ho : s.dm.ops < 4398046000000) (hs : DtS s.pm.dt) : Calls Tryz.prog 16 #[.pointer (some ⟨Pb, 0, none⟩)] w fun e w' =>
    e = .returned (.int .i64 9) ∧ ∃ s' x', PM0 w0 w' D L Pb s' x' q xr ∧ Cg Pb L x x' w w' ∧ s'.dm = s.dm := by
  refine (sync_pl h.pl (by omega) hs).mono ?_
  rintro e w' ⟨v', -, rfl, hto⟩
  obtain ⟨x', -, hm', hc⟩ := h.to hto
  have e1 : s.dm.sync = (s.dm, 9) := by unfold DM.sync; rw [if_pos hd]
  have e2 : s.sync = ({ s with dm := s.dm }, 9) := by
    unfold PX.sync
    rw [e1, if_pos (show (s.dm, (9 : Int)).2 ≠ 0 by simp)]
  rw [e2] at hm' ⊢
  exact ⟨rfl, _, x', hm', hc, rfl⟩

theorem pq_fuse (h : PM0 w0 w D L Pb s x p xr) (k : Int) (h1 : -9223372036854775808 ≤ k) (h2 : k ≤ 9223372036854775807) : Calls Tryz.prog 13 #[.pointer (some ⟨D, 0, none⟩), .int .i64 k] w fun e w' =>
    e = .returned (.tuple #[]) ∧ ∃ x', PM0 w0 w' D L Pb { s with dm := s.dm.setFuse k } x' p xr ∧ Cg Pb L x x' w w' := by
  refine (d_fuse w D x.Fd s.dm h.pl.disk k h1 h2).mono ?_
  rintro e w' ⟨rfl, hd, hc⟩
  obtain ⟨hp, hg⟩ := h.pl.disk1 hd hc
  obtain ⟨x', -, hm', hcg⟩ := h.to (v' := x.v) ⟨{ x with Fd := x.Fd }, rfl, rfl, hp, hg⟩
  exact ⟨rfl, x', hm', hcg⟩
theorem PI.fused (h : PI n i s last p) (k : Int) : PI n i { s with dm := s.dm.setFuse k } last p := ⟨h.ti, h.lk, h.ops, h.pins, h.frl, h.n8, h.small⟩

/-- a page that is not dirty -/
theorem PI.cert (h : PI n i s last p) {j : Nat} (hj : j < n) (hd : dlook p.dt (j : Int) = none) : p.dk[j]? = some (s.dm.base.getD j page0) := by
  have e : p.dt = s.pm.dt := h.lk.dt
  rw [e] at hd
  obtain ⟨-, hw⟩ := h.ti.cert j hj hd
  have h1 := h.lk.dk j (by show j < s.dm.base.length; rw [h.base]; exact hj)
  rw [h1]
  have h2 : s.dm.page j = s.dm.base.getD j page0 := page_nowait (m := s.dm) j hw
  exact congrArg some h2
/-- .. is left by a crash -/
theorem PI.crash (h : PI n i s last p) (ht : s.dm.torn = none) (hh : s' = s ∨ Hurt s s') (c : Bytes) {j : Nat} (hj : j < n) (hd : dlook p.dt (j : Int) = none) : (s'.dm.crash c).page j = s.dm.base.getD j page0 := by
  have e : p.dt = s.pm.dt := h.lk.dt
  rw [e] at hd
  obtain ⟨-, hw⟩ := h.ti.cert j hj hd
  rcases hh with rfl | hh
  · exact crash_page_keep c j hw (fun q hq => by rw [ht] at hq; cases hq)
  · rw [← hh.base]
    refine crash_page_keep c j (fun q hq => ?_) (fun q hq => ?_)
    · rcases hh.wait q hq with h1 | h1
      · exact hw q h1
      · intro e1; rw [e1] at h1; exact h1 hd
    · rcases hh.torn q hq with h1 | h1
      · rw [ht] at h1; cases h1
      · intro e1; rw [e1] at h1; exact h1 hd

/-- pages that were certain, in a row of the law's own -/
structure CR (w0 w : World) (Pb L Cr Mx n : Nat) (x : PZ) (vals : List Value) (cert : List Bytes) : Prop where
  row : w.heap[Cr]? = some (.cells vals.toArray 41 (0, 0))
  vlen : vals.length = n
  rd : ∀ (j : Nat) (b : Bytes), cert[j]? = some b → ∃ u, vals[j]? = some u ∧ RdB (fun k => x.tf Pb L k ∨ (k = Mx ∨ k = Cr)) w u b
  clen : cert.length = n
  nC : ¬ x.tf Pb L Cr
  lC : w0.heap.size ≤ Cr
  zC : x.Z Cr
  ne : Cr ≠ Mx
theorem CR.cell {Cr Mx : Nat} {vals : List Value} {cert : List Bytes} (h : CR w0 w Pb L Cr Mx n x vals cert) {j : Nat} {u : Value} (hu : vals[j]? = some u) : w.cell? ⟨Cr, j, none⟩ = some u := by
  rw [cell_of_row w Cr j _ _ _ h.row]
  simpa using hu
theorem CR.chg {Cr Mx : Nat} {vals : List Value} {cert : List Bytes} (h : CR w0 w Pb L Cr Mx n x vals cert) (hc : Chg (x.tf Pb L) (x'.tf Pb L) w w') (hz : x'.Z Cr) : CR w0 w' Pb L Cr Mx n x' vals cert := by
  have l := (Array.getElem?_eq_some_iff.1 h.row).1
  refine ⟨(hc.block _ l h.nC).trans h.row, h.vlen, fun j b hj => ?_, h.clen, (keepD l h.nC hc).2, h.lC, hz, h.ne⟩
  obtain ⟨u, h1, h2⟩ := h.rd j b hj
  exact ⟨u, h1, RdV.keep h2 (fun k hk hn => hc.block k hk (fun e => hn (.inl e))) (fun k hk e => by
    rcases e with e | e
    · rcases hc.foot k e with h3 | h3
      · exact .inl h3
      · omega
    · exact .inr e)⟩
theorem CR.below {Cr Mx : Nat} {vals : List Value} {cert : List Bytes} (h : CR w0 w Pb L Cr Mx n x vals cert) (hb : Below w.heap.size w w') : CR w0 w' Pb L Cr Mx n x vals cert := h.chg (Chg.of_below hb _) h.zC
/-- the model's box is laid anew -/
theorem CR.setM {Cr Mx : Nat} {vals : List Value} {cert : List Bytes} (h : CR w0 w Pb L Cr Mx n x vals cert) (cs : Array Value) : CR w0 (w.setRow Mx cs) Pb L Cr Mx n x vals cert := by
  refine ⟨(setRow_ne _ _ _ _ h.ne).trans h.row, h.vlen, fun j b hj => ?_, h.clen, h.nC, h.lC, h.zC, h.ne⟩
  obtain ⟨u, h1, h2⟩ := h.rd j b hj
  exact ⟨u, h1, RdV.keep h2 (fun k hk hn => setRow_ne _ _ _ _ (fun e => hn (.inr (.inl e)))) (fun _ _ e => e)⟩
/-- a page is laid into the row -/
theorem CR.set {Cr Mx : Nat} {vals : List Value} {cert : List Bytes} (h : CR w0 w Pb L Cr Mx n x vals cert) {j : Nat} (hj : j < n) {u : Value} {b : Bytes} (hu : RdB (fun k => x.tf Pb L k ∨ (k = Mx ∨ k = Cr)) w u b) :
    CR w0 (w.setCell ⟨Cr, j, none⟩ u) Pb L Cr Mx n x (vals.set j u) (cert.set j b) := by
  have hk : ∀ {v : Value} {c : Bytes}, RdB (fun k => x.tf Pb L k ∨ (k = Mx ∨ k = Cr)) w v c → RdB (fun k => x.tf Pb L k ∨ (k = Mx ∨ k = Cr)) (w.setCell ⟨Cr, j, none⟩ u) v c := fun h9 => RdV.keep h9 (fun k _ hn => setCell_heap _ _ _ _ (fun e => hn (.inr (.inr e)))) (fun _ _ e => e)
  refine ⟨?_, by rw [List.length_set]; exact h.vlen, fun i c hi => ?_, by rw [List.length_set]; exact h.clen, h.nC, h.lC, h.zC, h.ne⟩
  · refine (setCell_blk h.row u).trans ?_
    simp
  · rw [List.getElem?_set] at hi
    by_cases hji : j = i
    · subst hji
      rw [if_pos rfl, if_pos (by rw [h.clen]; exact hj)] at hi
      injection hi with hi
      subst hi
      exact ⟨u, List.getElem?_set_self (by rw [h.vlen]; exact hj), hk hu⟩
    · rw [if_neg hji] at hi
      obtain ⟨v, h1, h2⟩ := h.rd i c hi
      exact ⟨v, by rw [List.getElem?_set_ne hji]; exact h1, hk h2⟩
/-- .. beside the pool -/
theorem LS.setC {Bx Mx Cr : Nat} (h : LS w0 w D L Pb Bx Mx s x p xr) (hz : x.Z Cr) (hn : ¬ x.tf Pb L Cr) (hl : w0.heap.size ≤ Cr) (hB : Bx ≠ Cr) (hM : Mx ≠ Cr) (j : Nat) (u : Value) : LS w0 (w.setCell ⟨Cr, j, none⟩ u) D L Pb Bx Mx s x p xr := by
  have hne : ∀ k, k ≠ Cr → (w.setCell ⟨Cr, j, none⟩ u).heap[k]? = w.heap[k]? := fun k hk => setCell_heap _ _ _ _ hk
  exact ⟨h.pm.store (b := Cr) hz hn hne (setCell_size _ _ _) (h.pm.below.setCell hl _), (hne _ hB).trans h.bx, (hne _ hM).trans h.mx, h.zM, h.nB, h.nM, h.lB, h.lM⟩
/-- a step of the program beside the law's boxes -/
theorem LS.to {Bx Mx : Nat} (h : LS w0 w D L Pb Bx Mx s x p xr) (hm : PM0 w0 w' D L Pb s' x' p xr) (hc : Cg Pb L x x' w w') : LS w0 w' D L Pb Bx Mx s' x' p xr := by
  obtain ⟨a1, a2, a3, a4⟩ := h.keep2 hc.1
  exact ⟨hm, a1, a2, by rw [hc.2]; exact h.zM, a3, a4, h.lB, h.lM⟩
/-- behind the deeds: what lies there still -/
structure AL (w0 w : World) (D L Pb Bx Mx Cr n : Nat) (s : PX) (x : PZ) (p : RP) (xr : RPV) (vals : List Value) (cert : List Bytes) : Prop where
  pm : ∃ q xq, PM0 w0 w D L Pb s x q xq
  ra : RAt (x.tf Pb L) w p xr
  bx : w.heap[Bx]? = some (.cells (bcells D L Pb) 28 (0, 0))
  mx : PBox w Mx (rpcells p xr)
  nB : ¬ x.tf Pb L Bx
  nM : ¬ x.tf Pb L Mx
  cr : CR w0 w Pb L Cr Mx n x vals cert
theorem AL.to {Bx Mx Cr : Nat} {vals : List Value} {cert : List Bytes} (h : AL w0 w D L Pb Bx Mx Cr n s x p xr vals cert) {q : RP} {xq : RPV} (hm : PM0 w0 w' D L Pb s' x' q xq) (hc : Cg Pb L x x' w w') : AL w0 w' D L Pb Bx Mx Cr n s' x' p xr vals cert := by
  have lB := (Array.getElem?_eq_some_iff.1 h.bx).1
  have lM := h.mx.lt
  exact ⟨⟨q, xq, hm⟩, h.ra.keep (fun k hk hn => hc.1.block k hk hn) (fun k hk e => (hc.1.foot k e).resolve_right (by omega)), (hc.1.block _ lB h.nB).trans h.bx, (hc.1.block _ lM h.nM).trans h.mx, (keepD lB h.nB hc.1).2, (keepD lM h.nM hc.1).2, h.cr.chg hc.1 (by rw [hc.2]; exact h.cr.zC)⟩
theorem AL.cells {Bx Mx Cr : Nat} {vals : List Value} {cert : List Bytes} (h : AL w0 w D L Pb Bx Mx Cr n s x p xr vals cert) : w.cell? ⟨Bx, 0, none⟩ = some (.pointer (some ⟨D, 0, none⟩)) ∧ w.cell? ⟨Bx, 2, none⟩ = some (.pointer (some ⟨Pb, 0, none⟩)) :=
  ⟨cell_of_row _ _ 0 _ _ _ h.bx, cell_of_row _ _ 2 _ _ _ h.bx⟩
/-- how the deeds end: all done, or the device dead -/
def Endd (n : Nat) (s s2 : PX) (last : List Bytes) (p : RP) (cert : List Bytes) : Prop :=
  (∃ i, PI n i s last p) ∧ s.dm.torn = none ∧ s.dm.ops < 4398045000000 ∧ ((s2 = s ∧ s2.dm.dead = false) ∨ (Hurt s s2 ∧ DWk n s2)) ∧ ∀ k, k < n → dlook p.dt (k : Int) = none → cert[k]? = some (s.dm.base.getD k page0)
/-- what the law asks at last -/
def Askd (n : Nat) (m : DM) (c : Bytes) (p : RP) (cert : List Bytes) : Prop :=
  m.ops < 4398046000000 ∧ m.base.length = n ∧ DtS p.dt ∧ p.dt.length ≤ n ∧ ∀ k, k < n → dlook p.dt (k : Int) = none → cert[k]? = some ((m.crash c).page k)
theorem Endd.ask {s2 : PX} {cert : List Bytes} (h : Endd n s s2 last p cert) (c : Bytes) : Askd n s2.dm c p cert := by
  obtain ⟨⟨i, hi⟩, ht, ho, hh, hc⟩ := h
  have e : p.dt = s.pm.dt := hi.lk.dt
  have hb := hi.base
  refine ⟨?_, ?_, by rw [e]; exact hi.ti.dts, by rw [e]; exact hi.dtl, fun k hk hd => ?_⟩
  · rcases hh with ⟨rfl, -⟩ | ⟨-, hw⟩
    · omega
    · exact hw.ops
  · rcases hh with ⟨rfl, -⟩ | ⟨-, hw⟩
    · exact hb
    · exact hw.base
  · rw [hc k hk hd, hi.crash ht (by rcases hh with ⟨h1, -⟩ | ⟨h1, -⟩; exact .inl h1; exact .inr h1) c hk hd]
/-- dirty, as the law counts it: among the first h of the marks -/
theorem dirty_any {dt : List (Int × (Nat × Bool))} (hs : DtS dt) (j : Int) : (dt.any fun d => d.1 == j) = false ↔ dlook dt j = none := by
  constructor
  · intro h
    cases hd : dlook dt j with
    | none => rfl
    | some y =>
      have hm := (dlook_iff hs j y).1 hd
      have := List.any_eq_false.1 h _ hm
      simp at this
  · intro h
    rw [List.any_eq_false]
    intro d hd e
    have : d.1 = j := by simpa using e
    have h9 := (dlook_iff hs j d.2).2 (by rw [← this]; exact hd)
    rw [h] at h9; cases h9
theorem take_any {α : Type} (f : α → Bool) (l : List α) {k : Nat} {d : α} (h : l[k]? = some d) : (l.take (k + 1)).any f = ((l.take k).any f || f d) := by
  rw [List.take_add_one, h, List.any_append]
  simp
theorem Chg.setRow {A B : Foot} {W : World} (h : Chg A B w W) {b : Nat} (hb : w.heap.size ≤ b) (cs : Array Value) : Chg A B w (W.setRow b cs) :=
  ⟨h.os, h.tape, h.output, by rw [setRow_sz]; exact h.size, fun k hk hn => (setRow_ne _ _ _ _ (by omega)).trans (h.block k hk hn), by rw [setRow_sz]; exact h.foot⟩
end
end Mun
