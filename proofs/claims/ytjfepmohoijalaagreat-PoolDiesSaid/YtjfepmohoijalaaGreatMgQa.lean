/- Texts of mine, one behind the other: PqA, PqB, PqC. -/
import Derived.Test.YtjfepmohoijalaaGreatMgRe
import Derived.Test.YtjfepmohoijalaaGreatRpQ
import Derived.Test.YtjfepmohoijalaaGreatMgRd
import Derived.Test.YtjfepmohoijalaaGreatMgX
section
/- The pool and chapter 8's own one, side by side: how both lie, and what each deed of the pool makes of them. -/
set_option maxRecDepth 100000
set_option linter.unusedVariables false
set_option linter.unusedSimpArgs false
namespace Mun
open Go Go.RowKit
open Go.Proofs

/-- both lie there -/
structure PM0 (w0 w : World) (D L Pb : Nat) (s : PX) (x : PZ) (p : RP) (xr : RPV) : Prop where
  pl : PL w D L Pb s x
  ra : RAt (x.af Pb L) w p xr
  below : Below w0.heap.size w0 w
  af0 : ∀ k, x.tf Pb L k → w0.heap.size ≤ k

/-- both are the same -/
structure PI (n i : Nat) (s : PX) (last : List Bytes) (p : RP) : Prop where
  ti : TI n s.unf last
  lk : Lk s.unf p
  ops : s.unf.cost ≤ i + 3 * s.unf.nrec
  pins : ∀ f ∈ s.pm.fr, f.pins ≤ i
  frl : 1 ≤ s.pm.fr.length ∧ s.pm.fr.length ≤ 4
  n8 : 1 ≤ n ∧ n ≤ 8
  small : i ≤ 3518437208882

theorem pq_len_from : ∀ (dt : List (Int × (Nat × Bool))) (a : Int) (n : Nat), DtS dt → (∀ p ∈ dt, a ≤ p.1 ∧ p.1 < n) → (dt.length : Int) ≤ max 0 (n - a)
  | [], a, n, _, _ => by simp; omega
  | p :: ps, a, n, h, hp => by
    obtain ⟨h1, h2⟩ := h.cons
    have h3 := hp p (List.mem_cons_self ..)
    have h4 := pq_len_from ps (p.1 + 1) n h2 (fun q hq => ⟨by have := h1 q hq; omega, (hp q (List.mem_cons_of_mem _ hq)).2⟩)
    simp only [List.length_cons]
    omega
theorem pq_len {dt : List (Int × (Nat × Bool))} {n : Nat} (h : DtS dt) (hp : ∀ p ∈ dt, 0 ≤ p.1 ∧ p.1 < n) : dt.length ≤ n := by
  have := pq_len_from dt 0 n h hp
  omega

/-- what a step turns -/
def Cg (Pb L : Nat) (x x' : PZ) (w w' : World) : Prop := Chg (x.tf Pb L) (x'.tf Pb L) w w' ∧ x'.Z = x.Z
theorem Cg.refl (Pb L : Nat) (x : PZ) (w : World) : Cg Pb L x x w w := ⟨Chg.refl _ _, rfl⟩

section
variable {w0 w w' : World} {D L Pb n i : Nat} {s s' : PX} {x x' : PZ} {last : List Bytes} {p p' q : RP} {xr xr' : RPV} {v' : PLV}

theorem PM0.more (h : PM0 w0 w D L Pb s x p xr) (hb : Below w.heap.size w w') : PM0 w0 w' D L Pb s x p xr := ⟨h.pl.below hb, h.ra.below hb, h.below.trans (hb.mono h.below.size), h.af0⟩
theorem PM0.drewN (h : PM0 w0 w D L Pb s x p xr) (k : Nat) : PM0 w0 (w.drewN k) D L Pb s x p xr := h.more (below_drewN (Below.refl _ _) k)
theorem PM0.to (h : PM0 w0 w D L Pb s x p xr) (hp : PTo w D L Pb x s' v' w') : ∃ x', x'.v = v' ∧ PM0 w0 w' D L Pb s' x' p xr ∧ Cg Pb L x x' w w' := by
  obtain ⟨x', hv, hzz, hpl, hc⟩ := hp
  refine ⟨x', hv, ⟨hpl, h.ra.keep (fun k hk hn => hc.block k hk (fun e => hn (x.tf_af Pb L k e))) (fun k hk e => af_back hzz hc k hk e), h.below.trans (hc.below h.below.size (fun k hk hf => by have := h.af0 k hf; omega)), fun k hk => ?_⟩, hc, hzz⟩
  · rcases hc.foot k hk with h1 | h1
    · exact h.af0 k h1
    · have := h.below.size; omega
theorem PM0.ref (h : PM0 w0 w D L Pb s x p xr) (hb : Below w.heap.size w w') (ha : RAt (x.af Pb L) w' p' xr') : PM0 w0 w' D L Pb s x p' xr' := ⟨h.pl.below hb, ha, h.below.trans (hb.mono h.below.size), h.af0⟩
theorem PM0.tlt (h : PM0 w0 w D L Pb s x p xr) (k : Nat) (hk : x.tf Pb L k) : k < w.heap.size := h.pl.lt k (x.tf_af Pb L k hk)

theorem PI.alive (h : PI n i s last p) : s.dm.dead = false := h.ti.alive
theorem PI.base (h : PI n i s last p) : s.dm.base.length = n := h.ti.base
theorem PI.frR (h : PI n i s last p) : p.fr.length = s.pm.fr.length := h.lk.frl
theorem PI.opsb (h : PI n i s last p) (hm : PM0 w0 w D L Pb s x q xr) : s.dm.ops < 4398045000000 := by
  have h1 := h.ops
  have h2 := hm.pl.mem.wf.len
  have h3 := lenL_len s.lm.recs
  have h4 := h.small
  unfold PX.cost PX.nrec at h1
  have e1 : s.unf.dm.ops = s.dm.ops := rfl
  have e2 : s.unf.lm.recs = s.lm.recs := rfl
  rw [e1, e2] at h1
  omega
theorem PI.goodF (h : PI n i s last p) : s.GoodF := fun f hf hc => (h.ti.chg f hf hc).2.1
theorem PI.flen (h : PI n i s last p) (f : FM) (hf : f ∈ s.pm.fr) (h0 : 0 ≤ f.pg) : f.b.length = 512 := (h.ti.chk f.b (List.mem_of_getElem? (h.ti.fb f hf h0))).2
theorem PI.dtl (h : PI n i s last p) : s.pm.dt.length ≤ n := pq_len h.ti.dts h.ti.dpg
theorem PI.later (h : PI n i s last p) (hs : i + 1 ≤ 3518437208882) : PI n (i + 1) s last p := { h with ops := by have := h.ops; omega, pins := fun f hf => by have := h.pins f hf; omega, small := hs }
theorem PI.ok (h : PI n i s last p) (hm : PM0 w0 w D L Pb s x q xr) : p.Ok := by
  have hb := h.base
  have hn := h.n8
  have hdk : p.dk.length = n := h.lk.dkl.trans hb
  refine ⟨fun g hg h0 => ?_, fun g hg hc => ?_, fun b hbm => ?_, ?_, ⟨?_, ?_, by omega⟩⟩
  · obtain ⟨j, hj, rfl⟩ := List.getElem_of_mem hg
    obtain ⟨f, hf, hk⟩ := h.lk.back (List.getElem?_eq_getElem hj)
    have hfm := List.mem_of_getElem? hf
    rw [hk.pg] at h0 ⊢
    rw [hk.b, hdk]
    exact ⟨h.ti.pg f hfm, h.flen f hfm h0⟩
  · obtain ⟨j, hj, rfl⟩ := List.getElem_of_mem hg
    obtain ⟨f, hf, hk⟩ := h.lk.back (List.getElem?_eq_getElem hj)
    rw [hk.pg]
    exact (h.ti.chg f (List.mem_of_getElem? hf) (by rw [← hk.chg]; exact hc)).1
  · obtain ⟨j, hj, rfl⟩ := List.getElem_of_mem hbm
    have h1 := h.lk.dk j (by have e : s.unf.dm.base.length = s.dm.base.length := rfl; omega)
    rw [List.getElem?_eq_getElem hj] at h1
    injection h1 with h1
    rw [h1]
    exact DM.page_length hm.pl.disk.wf j (by omega)
  · have h1 := hm.pl.rep.hand
    have h2 : p.hand = s.pm.hand := h.lk.hand
    have h3 := hm.pl.rep.frs
    have h4 := h.frR
    rw [h3, List.length_map] at h4
    omega
  · have := h.frR; have := h.frl; omega
  · have h1 : p.dt = s.pm.dt := h.lk.dt
    have := h.dtl
    rw [h1]; omega
theorem PI.pinsR (h : PI n i s last p) : ∀ f ∈ p.fr, f.pins ≤ 8796093022208 := fun g hg => by
  obtain ⟨j, hj, rfl⟩ := List.getElem_of_mem hg
  obtain ⟨f, hf, hk⟩ := h.lk.back (List.getElem?_eq_getElem hj)
  rw [hk.pins]
  have := h.pins f (List.mem_of_getElem? hf)
  have := h.small
  omega
theorem PM0.hF (h : PM0 w0 w D L Pb s x p xr) : ∀ k, x.af Pb L k → k < w.heap.size := h.pl.lt
/-- new blocks of the law's own -/
theorem PM0.addZ (h : PM0 w0 w D L Pb s x p xr) (hb : Below w.heap.size w w') (Zn : Foot) (hZ : ∀ k, Zn k → w.heap.size ≤ k ∧ k < w'.heap.size) : PM0 w0 w' D L Pb s { x with Z := fun k => x.Z k ∨ Zn k } p xr := by
  have haf : ∀ k, k < w.heap.size → PZ.af { x with Z := fun k => x.Z k ∨ Zn k } Pb L k → x.af Pb L k := fun k hk h1 => by
    rcases h1 with (h1 | h1 | h1 | h1) | h1
    · exact .inl (.inl h1)
    · exact .inl (.inr (.inl h1))
    · exact .inl (.inr (.inr h1))
    · have := hZ k h1; omega
    · exact .inr h1
  refine ⟨⟨h.pl.disk.grow hb (fun k hk => ?_), h.pl.rep.keep (fun k hk _ => hb.block k hk) haf, h.pl.mem.keep (fun k hk => hb.block k (h.pl.mem.lt k hk)), h.pl.apart⟩, h.ra.keep (fun k hk _ => hb.block k hk) haf, h.below.trans (hb.mono h.below.size), h.af0⟩
  rcases hk with hk | hk | hk | hk
  · exact .inl (.inl hk)
  · exact .inl (.inr (.inl hk))
  · exact .inl (.inr (.inr hk))
  · exact .inr (hZ k hk)
/-- a block of the law's own has turned -/
theorem PM0.store (h : PM0 w0 w D L Pb s x p xr) {b : Nat} (hz : x.Z b) (hn : ¬ x.tf Pb L b) (ho : ∀ j, j ≠ b → w'.heap[j]? = w.heap[j]?) (hsz : w'.heap.size = w.heap.size) (hbl : Below w0.heap.size w0 w') : PM0 w0 w' D L Pb s x p xr := by
  refine ⟨⟨?_, ?_, ?_, h.pl.apart⟩, h.ra.keep (fun j _ hj => ho j (fun e => hj (by rw [e]; exact .inl (.inr (.inr hz))))) (fun _ _ e => e), hbl, h.af0⟩
  · exact h.pl.disk.frame (fun j _ hn => ho j (fun e => hn (by rw [e]; exact .inr (.inr hz)))) (by rw [hsz]; exact Nat.le_refl _) (fun j hj => .inl hj)
  · refine h.pl.rep.keep (fun j _ hj => ho j (fun e => ?_)) (fun _ _ e => e)
    rw [e] at hj
    rcases hj with hj | hj
    · exact hn (.inl (.inl hj))
    · exact hj (.inl (.inr (.inr hz)))
  · exact h.pl.mem.keep (fun j hj => ho j (fun e => hn (by rw [← e]; exact .inl (.inr hj))))

/-- what a deed of the pool makes: as the model says, or the device is dead -/
def Fin (n i : Nat) (s s' : PX) (p' : RP) (code code' : Int) : Prop := (code = code' ∧ (s.dm.fuse = -1 → s'.dm.fuse = -1) ∧ ∃ last', PI n i s' last' p') ∨ (s.dm.fuse ≠ -1 ∧ Hurt s s' ∧ code = 9)

theorem Fin.of (hd : s.dm.dead = false) (hp : ∃ last', PI n i s last' p') (k : Int) : Fin n i s s p' k k := .inl ⟨rfl, fun e => e, hp⟩

/-- out of the step without a fuse -/
theorem Fin.sim {c : Int} {r r' : PX × Int} (h : SimP s r r') (hh : r'.2 = c) (hp : r.1.unf = r'.1 → r.1.dm.dead = false → ∃ last', PI n i r.1 last' p') : Fin n i s r.1 p' r.2 c := by
  rcases h with ⟨a1, a2, a3, a4⟩ | ⟨a1, a2, a3⟩
  · exact .inl ⟨a3.trans hh, a4, hp a2 a1⟩
  · exact .inr ⟨a1, a2, a3⟩
theorem fin_fuse {r r' : PX × Int} (h : SimP s r r') (hf : s.dm.fuse = -1) : r.1.dm.fuse = -1 := by
  rcases h with ⟨a1, a2, a3, a4⟩ | ⟨a1, -⟩
  · exact a4 hf
  · exact absurd hf a1
end
end Mun
end

section
/- Each deed of the pool, with what the model says of it. -/
set_option maxRecDepth 100000
set_option linter.unusedVariables false
set_option linter.unusedSimpArgs false
namespace Mun
open Go Go.RowKit
open Go.Proofs

section
variable {w0 w w' : World} {D L Pb n i : Nat} {s s' : PX} {x x' : PZ} {last : List Bytes} {p p' q : RP} {xr xr' : RPV} {v' : PLV}

/-- what a deed that tells an error alone leaves -/
def DdPost (w0 w : World) (D L Pb n i : Nat) (s : PX) (x : PZ) (p : RP) (xr : RPV) (p' : RP) (c' : Int) (e : Ending) (w' : World) : Prop :=
  ∃ code s' x', e = .returned (.int .i64 code) ∧ PM0 w0 w' D L Pb s' x' p xr ∧ Cg Pb L x x' w w' ∧ Fin n i s s' p' code c'

theorem PI.setF (h : PI n i s last p) (hs : i + 1 ≤ 3518437208882) {fi : Nat} {f f' : FM} (hf : s.pm.fr[fi]? = some f) (h1 : f'.pg = f.pg) (h2 : f'.b = f.b) (h3 : f'.chg = f.chg) {g' : RF} (hk : FLk f' g') (hp : f'.pins ≤ i + 1) :
    PI n (i + 1) (s.setF fi f') last { p with fr := p.fr.set fi g' } := by
  have hm := List.mem_of_getElem? hf
  refine ⟨h.ti.frames (fr := s.pm.fr.set fi f') (hand := s.pm.hand) (set_trip hf h1 h2 h3), Lk.setFr h.lk hk (by rw [h1]; exact h.lk.neg f hm) 0, ?_, fun g hg => ?_, ?_, h.n8, hs⟩
  · have h9 := h.ops
    show s.dm.ops + 2 * (s.pm.fr.set fi f').countP (·.chg) ≤ i + 1 + 3 * s.unf.nrec
    rw [nchg_map (set_trip (g := f') hf h1 h2 h3)]
    have : s.unf.cost = s.dm.ops + 2 * s.pm.fr.countP (·.chg) := rfl
    omega
  · rcases List.mem_or_eq_of_mem_set (show g ∈ s.pm.fr.set fi f' from hg) with h9 | h9
    · have := h.pins g h9; omega
    · rw [h9]; exact hp
  · show 1 ≤ (s.pm.fr.set fi f').length ∧ (s.pm.fr.set fi f').length ≤ 4
    rw [List.length_set]; exact h.frl

/-- a page and its frame, on both sides -/
theorem PM0.there (h : PM0 w0 w D L Pb s x p xr) (hi : PI n i s last p) (k : Int) :
    (alook x.v.es k = none ∧ (0 ≤ k → p.find k = none)) ∨ ∃ (fi : Nat) (z : FV) (g : RF), 0 ≤ k ∧ x.v.fs[fi]? = some z ∧ z.1.pg = k ∧ p.find k = some fi ∧ p.fr[fi]? = some g ∧ FLk z.1 g ∧ s.pm.fr[fi]? = some z.1 := by
  cases hl : alook x.v.es k with
  | none => exact .inl ⟨rfl, fun h0 => by rw [hi.lk.find]; exact h.pl.find_none h0 hl⟩
  | some u =>
    obtain ⟨h0, fi, z, rfl, hz, hp⟩ := h.pl.rep.mok.there _ _ hl
    have hfz : s.pm.fr[fi]? = some z.1 := by rw [h.pl.frs, hz]; rfl
    obtain ⟨g, hg, hk⟩ := hi.lk.fr fi z.1 hfz
    exact .inr ⟨fi, z, g, h0, hz, hp, by rw [hi.lk.find]; exact h.pl.find_some h0 hz hp, hg, hk, hfz⟩

theorem pq_unpin (h : PM0 w0 w D L Pb s x p xr) (hi : PI n i s last p) (hs : i + 1 ≤ 3518437208882) (k : Int) : Calls Tryz.prog 23 #[.pointer (some ⟨Pb, 0, none⟩), .int .i64 k] w
    (DdPost w0 w D L Pb n (i + 1) s x p xr (p.unpin k).1 (p.unpin k).2) := by
  have hno : NotHeld x.v k → p.unpin k = (p, 18) → Calls Tryz.prog 23 #[.pointer (some ⟨Pb, 0, none⟩), .int .i64 k] w (DdPost w0 w D L Pb n (i + 1) s x p xr (p.unpin k).1 (p.unpin k).2) := fun hn he => by
    refine (unpin_no w Pb D L _ s.pm x.v h.pl.rep k hn).mono ?_
    rintro e w' ⟨rfl, rfl⟩
    rw [he]
    exact ⟨18, s, x, rfl, h, Cg.refl _ _ _ _, Fin.of hi.alive ⟨last, hi.later hs⟩ 18⟩
  rcases h.there hi k with ⟨hl, hf⟩ | ⟨fi, z, g, h0, hz, hp, hf, hg, hk, hfz⟩
  · refine hno (.inl hl) ?_
    have : p.held k = none := by
      unfold RP.held
      split
      · rfl
      · rw [hf (by omega)]
    unfold RP.unpin
    rw [this]
  · by_cases hpz : z.1.pins = 0
    · refine hno (.inr ⟨fi, z, hz, hp, h0, hpz⟩) ?_
      have : p.held k = none := by
        unfold RP.held
        rw [if_neg (by omega), hf]
        simp only
        rw [hg]
        simp only [Option.map_some, Option.getD_some]
        rw [if_pos (by rw [hk.pins]; exact hpz)]
      unfold RP.unpin
      rw [this]
    · have hpb := hi.pins z.1 (List.mem_of_getElem? hfz)
      have hsm := hi.small
      refine (unpin_pl h.pl k fi z hz hp h0 (by omega) (by omega)).mono ?_
      rintro e w' ⟨rfl, hto⟩
      obtain ⟨x', -, hm', hc⟩ := h.to hto
      have he : p.unpin k = ({ p with fr := p.fr.set fi { g with pins := g.pins - 1 } }, 0) := by
        have : p.held k = some fi := by
          unfold RP.held
          rw [if_neg (by omega), hf]
          simp only
          rw [hg]
          simp only [Option.map_some, Option.getD_some]
          rw [if_neg (by rw [hk.pins]; exact hpz)]
        unfold RP.unpin
        rw [this]
        simp only
        rw [hg]
        rfl
      rw [he]
      refine ⟨0, _, x', rfl, hm', hc, .inl ⟨rfl, fun e => e, last, hi.setF (f' := z.1.unpin) (g' := { g with pins := g.pins - 1 }) hs hfz rfl rfl rfl ⟨hk.pg, ?_, hk.touch, hk.b, hk.chg, hk.lsn⟩ ?_⟩⟩
      · show g.pins - 1 = z.1.pins - 1
        rw [hk.pins]
      · show z.1.pins - 1 ≤ i + 1
        omega

theorem out_pins (s : PX) (j : Nat) : ∀ f' ∈ (s.out j).1.pm.fr, ∃ f ∈ s.pm.fr, f'.pins = f.pins := fun f' hf' => by
  rcases out_fr s j with e | ⟨f, hf, e⟩
  · rw [e] at hf'; exact ⟨f', hf', rfl⟩
  · rw [e] at hf'
    rcases List.mem_or_eq_of_mem_set hf' with h9 | h9
    · exact ⟨f', h9, rfl⟩
    · exact ⟨f, List.mem_of_getElem? hf, by rw [h9]; rfl⟩
theorem wr_pins (s : PX) (k : Int) : ∀ f' ∈ (s.wr k).1.pm.fr, ∃ f ∈ s.pm.fr, f'.pins = f.pins := by
  unfold PX.wr
  split
  · exact fun f hf => ⟨f, hf, rfl⟩
  · split
    · exact fun f hf => ⟨f, hf, rfl⟩
    · exact out_pins s _
theorem outs_pins : ∀ (l : List Int) (s : PX), ∀ f' ∈ (s.outs l).1.pm.fr, ∃ f ∈ s.pm.fr, f'.pins = f.pins
  | [], s => fun f hf => ⟨f, hf, rfl⟩
  | k :: l, s => by
    unfold PX.outs
    split
    · exact wr_pins s k
    · intro f' hf'
      obtain ⟨f1, h1, e1⟩ := outs_pins l _ f' hf'
      obtain ⟨f, h2, e2⟩ := wr_pins s k f1 h1
      exact ⟨f, h2, e1.trans e2⟩

theorem pq_write (h : PM0 w0 w D L Pb s x p xr) (hi : PI n i s last p) (hs : i + 1 ≤ 3518437208882) (k : Int) : Calls Tryz.prog 24 #[.pointer (some ⟨Pb, 0, none⟩), .int .i64 k] w
    (DdPost w0 w D L Pb n (i + 1) s x p xr (p.write k).1 (p.write k).2) := by
  refine (wr_pl h.pl (by have := hi.opsb h; omega) hi.goodF k).mono ?_
  rintro e w' ⟨v', rfl, hto⟩
  obtain ⟨x', -, hm', hc⟩ := h.to hto
  obtain ⟨hI, -, hpg, -⟩ := hi.ti.wr k
  obtain ⟨hlk, hcd⟩ := hi.lk.wr hi.ti k
  refine ⟨_, _, x', rfl, hm', hc, Fin.sim (wrP_sim hi.ti k) hcd fun e1 e2 => ⟨last, by rw [e1]; exact hI, by rw [e1]; exact hlk, ?_, fun f hf => ?_, ?_, hi.n8, hs⟩⟩
  · rw [e1]
    have := hi.ti.wrC k
    have := hi.ops
    omega
  · obtain ⟨f0, h0, e0⟩ := wr_pins s k f hf
    rw [e0]
    have := hi.pins f0 h0
    omega
  · have h1 : (s.wr k).1.pm.fr.length = (s.unf.wr k).1.pm.fr.length := by rw [← e1]; rfl
    have h2 : (s.unf.wr k).1.pm.fr.length = s.unf.pm.fr.length := by have := congrArg List.length hpg; simpa using this
    rw [h1, h2]; exact hi.frl

theorem pq_writeAll (h : PM0 w0 w D L Pb s x q xr) (hi : PI n i s last p) (hs : i + 1 ≤ 3518437208882) : Calls Tryz.prog 25 #[.pointer (some ⟨Pb, 0, none⟩)] w
    (DdPost w0 w D L Pb n (i + 1) s x q xr p.writeAll 0) := by
  refine (writeAll_pl h.pl (by have := hi.opsb h; omega) hi.goodF (fun f hf => by have := hi.ti.pg f hf; rw [hi.base]; exact this)).mono ?_
  rintro e w' ⟨v', rfl, hto⟩
  obtain ⟨x', -, hm', hc⟩ := h.to hto
  have hl : ∀ k ∈ s.unf.heldL, 0 ≤ k ∧ ∃ f ∈ s.unf.pm.fr, f.pg = k := fun k hk => by
    have h1 := (heldL_mem s.unf k).1 hk
    exact ⟨h1.1.1, h1.2⟩
  obtain ⟨k0, hI, hpg⟩ := TI.outs s.unf.heldL hi.ti hl
  obtain ⟨hlk, -⟩ := hi.lk.writeAll hi.ti
  refine ⟨_, _, x', rfl, hm', hc, Fin.sim (writeAll_sim hi.ti (torn_live h.pl.disk.wf hi.alive)) k0 fun e1 e2 => ⟨last, by rw [e1]; exact hI, by rw [e1]; exact hlk, ?_, fun f hf => ?_, ?_, hi.n8, hs⟩⟩
  · rw [e1]
    have := TI.outsC s.unf.heldL hi.ti
    have := hi.ops
    omega
  · obtain ⟨f0, h0, e0⟩ := outs_pins s.heldL s f hf
    rw [e0]
    have := hi.pins f0 h0
    omega
  · have h1 : (s.outs s.heldL).1.pm.fr.length = (s.unf.outs s.unf.heldL).1.pm.fr.length := by rw [← e1]; rfl
    have h2 : (s.unf.outs s.unf.heldL).1.pm.fr.length = s.unf.pm.fr.length := by have := congrArg List.length hpg; simpa using this
    rw [h1, h2]; exact hi.frl

theorem pq_sync (h : PM0 w0 w D L Pb s x q xr) (hi : PI n i s last p) (hs : i + 1 ≤ 3518437208882) : Calls Tryz.prog 16 #[.pointer (some ⟨Pb, 0, none⟩)] w
    (DdPost w0 w D L Pb n (i + 1) s x q xr p.sync 0) := by
  refine (sync_pl h.pl (by have := hi.opsb h; omega) hi.ti.dts).mono ?_
  rintro e w' ⟨v', -, rfl, hto⟩
  obtain ⟨x', -, hm', hc⟩ := h.to hto
  obtain ⟨k0, hI, hfr⟩ := hi.ti.sync
  have hlk := hi.lk.sync hi.ti
  refine ⟨_, _, x', rfl, hm', hc, Fin.sim (syncP_sim hi.alive) k0 fun e1 e2 => ⟨last, by rw [e1]; exact hI, by rw [e1]; exact hlk, ?_, fun f hf => ?_, ?_, hi.n8, hs⟩⟩
  · rw [e1]
    obtain ⟨c1, c2⟩ := hi.ti.syncC
    have := hi.ops
    omega
  · have e : s.sync.1.pm.fr = s.pm.fr := by have h1 : s.sync.1.pm.fr = s.unf.sync.1.pm.fr := by rw [← e1]; rfl
                                            rw [h1, hfr]; rfl
    rw [e] at hf
    have := hi.pins f hf
    omega
  · have e : s.sync.1.pm.fr = s.pm.fr := by have h1 : s.sync.1.pm.fr = s.unf.sync.1.pm.fr := by rw [← e1]; rfl
                                            rw [h1, hfr]; rfl
    rw [e]; exact hi.frl

/-- Append: there is room, or not, or the device dies -/
def AppQ (w0 w : World) (D L Pb n i : Nat) (s : PX) (x : PZ) (last : List Bytes) (p : RP) (xr : RPV) (e : Ending) (w' : World) : Prop :=
  ∃ (l : Nat) (code : Int) (s' : PX) (x' : PZ), e = .returned (.tuple #[.int .u64 (l : Int), .int .i64 code]) ∧ PM0 w0 w' D L Pb s' x' p xr ∧ Cg Pb L x x' w w' ∧ l < 18446744073709551616 ∧
    ((code = 0 ∧ (s.dm.fuse = -1 → s'.dm.fuse = -1) ∧ l < s'.lm.fin ∧ PI n i s' last { p with fin := s'.lm.fin } ∧ s'.unf.cost + 2 ≤ i + 3 * s'.unf.nrec) ∨ (code = 7 ∧ (s.dm.fuse = -1 → s'.dm.fuse = -1) ∧ PI n i s' last p) ∨ (s.dm.fuse ≠ -1 ∧ Hurt s s' ∧ code = 9))

theorem pq_app (h : PM0 w0 w D L Pb s x p xr) (hi : PI n i s last p) :
    Calls Tryz.prog 19 #[.pointer (some ⟨L, 0, none⟩), .agg #[.int .i64 1, .int .u64 0, .int .u64 0, .int .u64 0, .slice none 0 0, .slice none 0 0]] w (AppQ w0 w D L Pb n i s x last p xr) := by
  refine (app_pl h.pl (by have := hi.opsb h; omega) (fun _ => hi.ti.log)).mono ?_
  rintro e w' ⟨rfl, hto⟩
  obtain ⟨x', -, hm', hc⟩ := h.to hto
  obtain ⟨hI, hk, hfin, hpm⟩ := hi.ti.app
  obtain ⟨c1, c2, c3, c4⟩ := hi.ti.appC
  obtain ⟨l1, l2⟩ := hi.lk.app hi.ti
  have h9 := hi.ops
  have hf64 : s.lm.fin < 18446744073709551616 := by
    have h1 := h.pl.mem.wf.base
    have h2 := h.pl.mem.wf.len
    show s.lm.base + lenL s.lm.recs < _
    omega
  refine ⟨_, _, _, x', rfl, hm', hc, by split <;> omega, ?_⟩
  rcases appP_sim hi.alive with ⟨a1, a2, a3, a4⟩ | ⟨a1, a2, a3⟩
  · have epm : s.app.1.pm = s.pm := by have h1 : s.app.1.pm = s.unf.app.1.pm := by rw [← a2]; rfl
                                       rw [h1, hpm]; rfl
    have hfn : s.app.1.lm.fin = s.unf.app.1.lm.fin := by rw [← a2]; rfl
    rw [a3]
    rcases hk with hk | hk
    · refine .inl ⟨hk, a4, ?_, ⟨by rw [a2]; exact hI, ?_, ?_, fun f hf => ?_, ?_, hi.n8, hi.small⟩, ?_⟩
      · rw [if_pos hk, hfn, hfin hk]
        show s.lm.fin < s.lm.fin + 14
        omega
      · rw [a2, hfn]; exact l1
      · rw [a2]; have := c3 hk; omega
      · rw [epm] at hf; exact hi.pins f hf
      · rw [epm]; exact hi.frl
      · rw [a2]; have := c3 hk; omega
    · have hk0 : s.unf.app.2 ≠ 0 := by rw [hk]; decide
      refine .inr (.inl ⟨hk, a4, ⟨by rw [a2]; exact hI, by rw [a2]; exact l2 hk0, ?_, fun f hf => ?_, ?_, hi.n8, hi.small⟩⟩)
      · rw [a2]; have := c4 hk0; omega
      · rw [epm] at hf; exact hi.pins f hf
      · rw [epm]; exact hi.frl
  · exact .inr (.inr ⟨a1, a2, a3⟩)

/-- Put does not touch the device -/
def PutQ (w0 w : World) (D L Pb n i : Nat) (s : PX) (x : PZ) (p : RP) (xr : RPV) (p' : RP) (c' : Int) (e : Ending) (w' : World) : Prop :=
  ∃ s' x', e = .returned (.int .i64 c') ∧ PM0 w0 w' D L Pb s' x' p xr ∧ Cg Pb L x x' w w' ∧ (s.dm.fuse = -1 → s'.dm.fuse = -1) ∧ ∃ last', PI n i s' last' p'
theorem pq_put (h : PM0 w0 w D L Pb s x p xr) (hi : PI n i s last p) (hs : i + 1 ≤ 3518437208882) (k : Int) {F : Foot} (bv : Value) (b : Bytes) (hb : RdB F w bv b) (l : Nat) (hl : l < s.lm.fin) (hl64 : l < 18446744073709551616) (hc2 : s.unf.cost + 2 ≤ i + 3 * s.unf.nrec) :
    Calls Tryz.prog 21 #[.pointer (some ⟨Pb, 0, none⟩), .int .i64 k, bv, .int .u64 (l : Int)] w (PutQ w0 w D L Pb n (i + 1) s x p xr (p.put k b l).1 (p.put k b l).2) := by
  have hno : NotHeld x.v k → p.put k b l = (p, 18) → Calls Tryz.prog 21 #[.pointer (some ⟨Pb, 0, none⟩), .int .i64 k, bv, .int .u64 (l : Int)] w (PutQ w0 w D L Pb n (i + 1) s x p xr (p.put k b l).1 (p.put k b l).2) := fun hn he => by
    refine (put_no w Pb D L _ s.pm x.v h.pl.rep k hn bv l).mono ?_
    rintro e w' ⟨rfl, rfl⟩
    rw [he]
    exact ⟨s, x, rfl, h, Cg.refl _ _ _ _, fun e => e, last, hi.later hs⟩
  rcases h.there hi k with ⟨hlk, hf⟩ | ⟨fi, z, g, h0, hz, hp, hf, hg, hk, hfz⟩
  · refine hno (.inl hlk) ?_
    have : p.held k = none := by
      unfold RP.held
      split
      · rfl
      · rw [hf (by omega)]
    unfold RP.put
    rw [this]
  · by_cases hpz : z.1.pins = 0
    · refine hno (.inr ⟨fi, z, hz, hp, h0, hpz⟩) ?_
      have : p.held k = none := by
        unfold RP.held
        rw [if_neg (by omega), hf]
        simp only
        rw [hg]
        simp only [Option.map_some, Option.getD_some]
        rw [if_pos (by rw [hk.pins]; exact hpz)]
      unfold RP.put
      rw [this]
    · have hheld : p.held k = some fi := by
        unfold RP.held
        rw [if_neg (by omega), hf]
        simp only
        rw [hg]
        simp only [Option.map_some, Option.getD_some]
        rw [if_neg (by rw [hk.pins]; exact hpz)]
      by_cases hgd : GoodP b
      · refine (put_yes h.pl k fi z hz hp h0 (by omega) bv b hb hgd l).mono ?_
        rintro e w' ⟨rfl, v', hto⟩
        obtain ⟨x', -, hm', hc⟩ := h.to hto
        obtain ⟨kn, rfl⟩ : ∃ kn : Nat, k = (kn : Int) := ⟨k.toNat, by omega⟩
        have he : p.put (kn : Int) b l = ({ p with fr := p.fr.set fi (g.putF b l), dt := rput p.dt (kn : Int) l }, 0) := by
          unfold RP.put
          rw [hheld]
          simp only
          rw [if_neg (by rw [goodB_true hgd]; decide), hg]
        rw [he]
        have hl1 := hi.lk.put hi.ti hfz hgd.len hl64 hg
        rw [hp] at hl1
        refine ⟨_, x', rfl, hm', hc, fun e => e, last.set kn (sealP b l), hi.ti.put hfz hp hgd hl hl64, hl1, ?_, fun f hf' => ?_, ?_, hi.n8, hs⟩
        · obtain ⟨c1, c2⟩ := put_cost s.unf hfz b l
          show (s.unf.put fi z.1 b l).cost ≤ i + 1 + 3 * (s.unf.put fi z.1 b l).nrec
          omega
        · rcases List.mem_or_eq_of_mem_set (show f ∈ s.pm.fr.set fi { z.1 with b := sealP b l, chg := true } from hf') with h9 | h9
          · have := hi.pins f h9; omega
          · rw [h9]
            have := hi.pins z.1 (List.mem_of_getElem? hfz)
            show z.1.pins ≤ i + 1
            omega
        · show 1 ≤ (s.pm.fr.set fi _).length ∧ (s.pm.fr.set fi _).length ≤ 4
          rw [List.length_set]; exact hi.frl
      · refine (put_bad h.pl k fi z hz hp h0 (by omega) bv b hb hgd l).mono ?_
        rintro e w' ⟨rfl, hto⟩
        obtain ⟨x', -, hm', hc⟩ := h.to hto
        have he : p.put k b l = (p, 4) := by
          unfold RP.put
          rw [hheld]
          simp only
          rw [if_pos (goodB_false hgd)]
        rw [he]
        exact ⟨s, x', rfl, hm', hc, fun e => e, last, hi.later hs⟩
end
end Mun
end

section
/- Pin on both sides. -/
set_option maxRecDepth 100000
set_option linter.unusedVariables false
set_option linter.unusedSimpArgs false
namespace Mun
open Go Go.RowKit
open Go.Proofs

/-- what Pin does, whatever is asked for -/
def RPinAll (p : RP) (k : Int) (p' : RP) (b : Bytes) (c : Int) : Prop := ((k < 0 ∨ (p.dk.length : Int) ≤ k) ∧ p' = p ∧ b = [] ∧ c = 1) ∨ ∃ n : Nat, k = (n : Int) ∧ n < p.dk.length ∧ RPin p n p' b c
theorem RPinAll.code {p p' : RP} {k : Int} {b : Bytes} {c : Int} (h : RPinAll p k p' b c) : c ≠ 9 := by
  rcases h with ⟨-, -, -, rfl⟩ | ⟨n, -, -, h⟩
  · decide
  · cases h <;> decide

section
variable {F : Foot} {w : World} {p p' : RP} {x : RPV}
set_option maxHeartbeats 2000000 in
theorem rp_pin_no (h : RAt F w p x) (hF : ∀ k, F k → k < w.heap.size) (k : Int) (hk : k < 0 ∨ (p.dk.length : Int) ≤ k) :
    Calls Tryz.prog 33 #[.agg (rpcells p x), .int .i64 k] w (PinR F w p [] 1) := by
  obtain ⟨w1, hw1, hb1, k0, k1, s1⟩ := rp_boxes w (rpcells p x) rfl
  have h1 := h.below hb1
  obtain ⟨ka, kc, ekv, -, -⟩ := h1.ks.form
  obtain ⟨kn, hkn⟩ : ∃ kn, x.ks.length = kn := ⟨_, rfl⟩
  rw [hkn] at ekv
  have hkd : kn = p.dk.length := by rw [← hkn, ← h.kps, List.length_map]
  have q3 : w1.cell? ⟨w.heap.size, 3, none⟩ = some (.slice ka kn kc) := k0.cell 3 (by simp [rpcells, ekv])
  have hB1 := RB.start h hF hb1 k0 k1
  obtain ⟨w2, hw2, k2, ha2, hb2⟩ := hB1.ret
  have hone := h.one
  have hsz := rp_size p x
  obtain ⟨post, hpost⟩ : ∃ post : Ending → World → Prop, post = PinR F w p [] 1 := ⟨_, rfl⟩
  have hfin : post (.returned (.tuple #[.agg (rpcells p x), .slice none 0 0, .int .i64 1])) w2 := by
    rw [hpost]
    exact ⟨x, _, rfl, ha2, hb2, RdB.nil _ _⟩
  rw [← hpost]
  obtain ⟨cs, hcs⟩ : ∃ cs, rpcells p x = cs := ⟨_, rfl⟩
  rw [hcs] at hw1 k0 hw2 k2 hone hsz hfin ⊢
  have HK0 := Lib.hid k0
  have HK1 := Lib.hid k1
  have HSZ := Lib.hid hsz
  have HON := Lib.hid hone
  have HFIN := Lib.hid (And.intro k2 hfin)
  rw [← hkd] at hk
  clear h hF hb1 k0 k1 s1 h1 ekv hkn hkd hB1 k2 ha2 hb2 hone hsz hpost hfin hcs
  unfold Z6 at hw1
  by_cases hn : k < 0
  · clear hk
    go_enter Tryz.func33, Tryz.ntmps33
    go_wp2_with (first | rw [hw1] | (refine wpList_load_row rfl _ _ rfl w.heap.size rfl _ _ (0, 0) _ HK0.out Tryz.underlying36 rfl HSZ.out ?_) | (refine wpList_store_row rfl _ _ _ rfl (w.heap.size + 1) _ rfl rfl _ _ HK1.out HSZ.out (by have := HSZ.out; rw [info6] at this; injection this) HON.out ?_; rw [hw2]))
    exact bodyPost_ret (v := .tuple #[.agg cs, .slice none 0 0, .int .i64 1]) (by simp [results, Tryz.results33, asAddr, Act.put, run_loadVar_row w2 (w.heap.size + 1) 36 36 _ (0, 0) _ HFIN.out.1 Tryz.underlying36 rfl HSZ.out]) rfl HFIN.out.2
  · have hk2 : (kn : Int) ≤ k := hk.resolve_left hn
    clear hk
    go_enter Tryz.func33, Tryz.ntmps33
    go_wp2_with (first | rw [hw1] | (refine wpList_load_row rfl _ _ rfl w.heap.size rfl _ _ (0, 0) _ HK0.out Tryz.underlying36 rfl HSZ.out ?_) | (refine wpList_store_row rfl _ _ _ rfl (w.heap.size + 1) _ rfl rfl _ _ HK1.out HSZ.out (by have := HSZ.out; rw [info6] at this; injection this) HON.out ?_; rw [hw2]))
    exact bodyPost_ret (v := .tuple #[.agg cs, .slice none 0 0, .int .i64 1]) (by simp [results, Tryz.results33, asAddr, Act.put, run_loadVar_row w2 (w.heap.size + 1) 36 36 _ (0, 0) _ HFIN.out.1 Tryz.underlying36 rfl HSZ.out]) rfl HFIN.out.2

theorem rp_pin_all (h : RAt F w p x) (hok : p.Ok) (hF : ∀ k, F k → k < w.heap.size) (hpins : ∀ f ∈ p.fr, f.pins ≤ 8796093022208) {k : Int} {b : Bytes} {c : Int} (hp : RPinAll p k p' b c) :
    Calls Tryz.prog 33 #[.agg (rpcells p x), .int .i64 k] w (PinR F w p' b c) := by
  rcases hp with ⟨hk, rfl, rfl, rfl⟩ | ⟨n, rfl, hn, hp⟩
  · exact rp_pin_no h hF k hk
  · cases hp with
    | held hi hg => exact rp_pin_held h hok hF hpins n hn hi hg
    | full hi hj hall => exact rp_pin_full h hok hF n hn hi hj hall
    | new hi hfd hdk hck =>
      obtain ⟨-, -, -, hok1⟩ := hfd.facts hok
      exact rp_pin_new h hok hF n hn hi hfd hdk hck (hok1.dk _ (List.mem_of_getElem? hdk))
end

theorem pin1_is {n : Nat} {s : PX} {last : List Bytes} (h : TI n s last) {i k : Nat} (hk : k < n) :
    s.pin1 k i = ({ (s.out i).1 with pm := { (s.out i).1.pm with fr := (s.out i).1.pm.fr.set i ⟨(k : Int), (s.out i).1.dm.page k, 1, true, false⟩ } }, 0) := by
  obtain ⟨k0, hI, -⟩ := h.outI i
  unfold PX.pin1
  rw [if_neg (by rw [k0]; simp), if_neg (by rw [hI.alive]; simp), if_neg (by rw [hI.dchk k hk]; simp)]

section
variable {w0 w w' : World} {D L Pb n i : Nat} {s s' : PX} {x x' : PZ} {last : List Bytes} {p p' : RP} {xr xr' : RPV} {v' : PLV}

def PinQ (w0 w : World) (D L Pb n i : Nat) (s : PX) (x : PZ) (p : RP) (xr : RPV) (k : Int) (e : Ending) (w' : World) : Prop :=
  ∃ (code : Int) (bv : Value) (b : Bytes) (s' : PX) (x' : PZ) (p' : RP) (b' : Bytes) (c' : Int), e = .returned (.tuple #[bv, .int .i64 code]) ∧ PM0 w0 w' D L Pb s' x' p xr ∧ Cg Pb L x x' w w' ∧ RdB (OldF w.heap.size) w' bv b ∧ RPinAll p k p' b' c' ∧ Fin n i s s' p' code c' ∧ (code = c' → b = b')

theorem pq_pin (h : PM0 w0 w D L Pb s x p xr) (hi : PI n i s last p) (hs : i + 1 ≤ 3518437208882) (k : Int) : Calls Tryz.prog 15 #[.pointer (some ⟨Pb, 0, none⟩), .int .i64 k] w (PinQ w0 w D L Pb n (i + 1) s x p xr k) := by
  have hb := hi.base
  have hdk : p.dk.length = n := hi.lk.dkl.trans hb
  by_cases hr : 0 ≤ k ∧ k < s.dm.base.length
  · obtain ⟨kn, rfl⟩ : ∃ kn : Nat, k = (kn : Int) := ⟨k.toNat, by omega⟩
    have hkn : kn < n := by omega
    rcases h.there hi kn with ⟨hl, hf⟩ | ⟨fi, z, g, h0, hz, hp, hf, hg, hk, hfz⟩
    · -- not held
      have hf0 := hf (by omega)
      refine (pin_pl h.pl (by have := hi.opsb h; omega) kn (by omega) hl (h.pl.goodV hi.goodF)).mono ?_
      rintro e w' ⟨r, p1, v1, hfd, hres⟩
      obtain ⟨hdt, htr, hpn, hfr1⟩ := hfd.pm h.pl.rep.frs
      have hlf := Lk.found hi.lk (show s.unf.pm.fr = x.v.fs.map (·.1) from h.pl.rep.frs) hfd
      rcases hres with ⟨rfl, rfl, hto⟩ | ⟨fi, rfl, v', hto, hres⟩
      · obtain ⟨x', -, hm', hc⟩ := h.to hto
        rcases hlf with ⟨-, -, hj, hall⟩ | ⟨j, q, hj, -⟩
        · exact ⟨7, _, [], s, x', p, [], 7, rfl, hm', hc, RdB.nil _ _, .inr ⟨kn, rfl, by omega, .full hf0 hj hall⟩, Fin.of hi.alive ⟨last, hi.later hs⟩ 7, fun _ => rfl⟩
        · omega
      · rcases hlf with ⟨h9, -⟩ | ⟨j, q, hj, hlq, hq⟩
        · omega
        have hjf : j = fi := by omega
        subst hjf
        obtain ⟨s1, hs1⟩ : ∃ s1 : PX, ({ s with pm := p1 } : PX) = s1 := ⟨_, rfl⟩
        have hp1 : p1 = { s.pm with fr := p1.fr, hand := p1.hand } := by cases p1; simp only at hdt; rw [hdt]
        have hti : TI n s1.unf last := by
          rw [← hs1]
          show TI n { s.unf with pm := p1 } last
          rw [hp1]; exact hi.ti.frames htr
        have hlen1 : s1.pm.fr.length = s.pm.fr.length := by
          have := congrArg List.length htr
          rw [← hs1]
          simpa using this
        have hfi : j < s1.pm.fr.length := by
          rcases hfd.split with ⟨e, -⟩ | ⟨j', z, e, hz, -, -, -⟩
          · omega
          · have hj' : j = j' := by omega
            subst hj'
            rw [← hs1]
            show j < p1.fr.length
            rw [hfr1, List.length_map]
            exact (List.getElem?_eq_some_iff.1 hz).1
        have hno : ∀ g ∈ s1.pm.fr, g.pg ≠ (kn : Int) := fun g hg e => by
          have h1 : (g.pg, g.b, g.chg) ∈ p1.fr.map (fun f => (f.pg, f.b, f.chg)) := List.mem_map.2 ⟨g, by rw [← hs1] at hg; exact hg, rfl⟩
          rw [htr] at h1
          obtain ⟨f', hf', e'⟩ := List.mem_map.1 h1
          injection e' with e' _
          rw [h.pl.rep.frs] at hf'
          obtain ⟨z, hz, rfl⟩ := List.mem_map.1 hf'
          obtain ⟨a, ha, rfl⟩ := List.getElem_of_mem hz
          have h2 := h.pl.rep.mok.here a _ (List.getElem?_eq_getElem ha) (by omega)
          rw [e', e, hl] at h2
          cases h2
        rw [hs1] at hto hres
        have hlq1 : Lk s1.unf q := by rw [← hs1]; exact hlq
        obtain ⟨k0, hI, hbl, hfrn⟩ := hti.pin1 hfi hkn hno
        obtain ⟨o0, hO, -, -, -⟩ := hti.outI j
        -- the reference's pool behind the frame that was found
        obtain ⟨pr, hpr, hlr⟩ : ∃ pr, RFound p pr j ∧ Lk (s1.unf.out j).1 pr := by
          rcases hq with ⟨hj1, rfl, hpe, hneg⟩ | ⟨hj1, hex, kk, fr, hd, hcl, rfl⟩
          · refine ⟨q, .free hj1, ?_⟩
            have e : s1.unf.out j = (s1.unf, 0) := by
              unfold PX.out
              cases hfj : s1.unf.pm.fr[j]? with
              | none => rfl
              | some f =>
                simp only
                rw [if_pos (.inl (hneg f (by rw [← hs1, hpe] at hfj; exact hfj)))]
            rw [e]
            exact hlq1
          · exact ⟨_, .clock hj1 hex hcl, hlq1.out hti j⟩
        have hbse : (s1.unf.out j).1.dm.base.length = n := hO.base
        have hdkr := hlr.dk kn (by rw [hbse]; exact hkn)
        have hpin : RPinAll p kn { pr with fr := pr.fr.set j (rfNew kn ((s1.unf.out j).1.dm.page kn)) } ((s1.unf.out j).1.dm.page kn) 0 := .inr ⟨kn, rfl, by omega, .new hf0 hpr hdkr (hO.dchk kn hkn)⟩
        obtain ⟨x', -, hm', hc⟩ := h.to hto
        have hsim := pin1_sim hti hfi hkn hno
        have hlkn : Lk (s1.unf.pin1 kn j).1 { pr with fr := pr.fr.set j (rfNew kn ((s1.unf.out j).1.dm.page kn)) } := by
          rw [pin1_is hti hkn]
          exact Lk.setFr hlr ⟨rfl, rfl, rfl, rfl, rfl, fun e => by cases e⟩ (by show (-1 : Int) ≤ (kn : Int); omega) 0
        have hcost : (s1.unf.pin1 kn j).1.cost ≤ i + 1 + 3 * (s1.unf.pin1 kn j).1.nrec := by
          obtain ⟨c1, c2⟩ := hti.pin1C hfi hkn hno
          have h3 : s1.unf.cost = s.unf.cost := by
            rw [← hs1]
            show s.dm.ops + 2 * p1.fr.countP (·.chg) = s.dm.ops + 2 * s.pm.fr.countP (·.chg)
            rw [nchg_map htr]
          have h4 := hi.ops
          have h5 : s1.unf.nrec = s.unf.nrec := by rw [← hs1]; rfl
          omega
        have hpins1 : ∀ f ∈ s1.pm.fr, f.pins ≤ i := fun f hf => by
          have h1 : f.pins ∈ p1.fr.map (·.pins) := List.mem_map_of_mem (by rw [← hs1] at hf; exact hf)
          rw [hpn] at h1
          obtain ⟨f', hf', e'⟩ := List.mem_map.1 h1
          rw [← e']; exact hi.pins f' hf'
        have hfin : Fin n (i + 1) s (s1.pin1 kn j).1 { pr with fr := pr.fr.set j (rfNew kn ((s1.unf.out j).1.dm.page kn)) } (s1.pin1 kn j).2 0 := by
          rcases hsim with ⟨a1, a2, a3, a4⟩ | ⟨a1, a2, a3⟩
          · have hfre : (s1.pin1 kn j).1.pm.fr = (s1.unf.out j).1.pm.fr.set j ⟨(kn : Int), (s1.unf.out j).1.dm.page kn, 1, true, false⟩ := by rw [← hfrn, ← a2]; rfl
            refine .inl ⟨a3.trans k0, fun e => a4 (by rw [← hs1]; exact e), last, by rw [a2]; exact hI, by rw [a2]; exact hlkn, by rw [a2]; exact hcost, fun f hf => ?_, ?_, hi.n8, hs⟩
            · rw [hfre] at hf
              rcases List.mem_or_eq_of_mem_set hf with h9 | h9
              · obtain ⟨f0, h8, e8⟩ := out_pins s1.unf j f h9
                rw [e8]
                have := hpins1 f0 h8
                omega
              · rw [h9]; show 1 ≤ i + 1; omega
            · rw [hfre, List.length_set, out_len]
              show 1 ≤ s1.pm.fr.length ∧ s1.pm.fr.length ≤ 4
              rw [hlen1]; exact hi.frl
          · refine .inr ⟨fun e => a1 (by rw [← hs1]; exact e), ?_, a3⟩
            have htl := torn_live h.pl.disk.wf hi.alive
            refine a2.after (by rw [← hs1]) (fun q hq => .inl (by rw [← hs1] at hq; exact hq)) (by rw [← hs1]; exact htl) (fun kq hkq => ?_) hlen1 (fun f' hf' => ?_) ?_ (fun hd => by rw [← hs1]; show DtS p1.dt; rw [hdt]; exact hd)
            · rw [← hs1] at hkq
              have : dlook p1.dt kq ≠ none := hkq
              rw [hdt] at this; exact this
            · obtain ⟨a, ha, rfl⟩ := List.getElem_of_mem hf'
              have hla : a < s.pm.fr.length := by rw [← hlen1]; exact ha
              refine ⟨s.pm.fr[a], List.getElem_mem hla, ?_⟩
              have ha1 : p1.fr[a]? = some s1.pm.fr[a] := by
                have : s1.pm.fr[a]? = some s1.pm.fr[a] := List.getElem?_eq_getElem ha
                have e : p1.fr = s1.pm.fr := by rw [← hs1]
                rw [e]; exact this
              have t1 := congrArg (fun l => l[a]?) htr
              have t2 := congrArg (fun l => l[a]?) hpn
              simp only [List.getElem?_map, ha1, List.getElem?_eq_getElem hla, Option.map_some, Option.some.injEq, Prod.mk.injEq] at t1 t2
              exact ⟨t1.1, t1.2.1, t2, fun e => by rw [← t1.2.2]; exact e⟩
            · have := a2.ops
              rw [← hs1] at this ⊢
              exact this
        rcases hres with ⟨h9, rfl⟩ | ⟨h9, g, rfl, hown⟩
        · refine ⟨_, _, [], _, x', _, _, 0, rfl, hm', hc, RdB.nil _ _, hpin, hfin, fun e => absurd e h9⟩
        · refine ⟨0, _, (s1.out j).1.dm.page kn, _, x', _, _, 0, rfl, hm', hc, hown.rd (fun k hk (e : k < w.heap.size) => by omega), hpin, by rw [h9] at hfin; exact hfin, fun _ => ?_⟩
          rcases outP_sim hti j with ⟨a1, a2, -⟩ | ⟨-, -, a3⟩
          · rw [← a2]; rfl
          · exfalso
            have : s1.pin1 kn j = s1.out j := by unfold PX.pin1; rw [if_pos (by rw [a3]; decide)]
            rw [this, a3] at h9
            cases h9
    · -- held
      have hm := List.mem_of_getElem? hfz
      have hlen := hi.flen z.1 hm (by omega)
      have hpb := hi.pins z.1 hm
      have hsm := hi.small
      refine (pin_held_pl h.pl kn (by omega) fi z hz hp (by omega) (by omega)).mono ?_
      rintro e w' ⟨gb, rfl, hown, hto⟩
      obtain ⟨x', -, hm', hc⟩ := h.to hto
      refine ⟨0, _, z.1.b, _, x', _, _, 0, rfl, hm', hc, hown.rd (fun k hk (e : k < w.heap.size) => by omega), .inr ⟨kn, rfl, by omega, .held hf hg⟩, .inl ⟨rfl, fun e => e, last, hi.setF (f' := z.1.pin) (g' := g.pin) hs hfz rfl rfl rfl ⟨hk.pg, ?_, rfl, hk.b, hk.chg, hk.lsn⟩ ?_⟩, fun _ => hk.b.symm⟩
      · show g.pins + 1 = z.1.pins + 1
        rw [hk.pins]
      · show z.1.pins + 1 ≤ i + 1
        omega
  · refine (pin_arg (h.pl.pool hi.alive) k hr).mono ?_
    rintro e w' ⟨rfl, rfl⟩
    exact ⟨1, _, [], s, x, p, [], 1, rfl, h, Cg.refl _ _ _ _, RdB.nil _ _, .inl ⟨by rw [hdk]; omega, rfl, rfl, rfl⟩, Fin.of hi.alive ⟨last, hi.later hs⟩ 1, fun _ => rfl⟩
end
end Mun
end
