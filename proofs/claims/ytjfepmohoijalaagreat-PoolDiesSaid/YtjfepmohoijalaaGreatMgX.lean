/- Texts of mine, one behind the other: TeL, TeT, TeU. -/
import Derived.Test.YtjfepmohoijalaaGreatMgY
import Derived.Test.YtjfepmohoijalaaGreatMgW
section
/- The LSN of a page's bytes, as the law reads it. -/
set_option maxRecDepth 100000
set_option linter.unusedVariables false
set_option linter.unusedSimpArgs false
namespace Mun
open Go Go.RowKit
open Go.Proofs

end Mun
end

section
/- The state of PoolTells' walk, and what each deed makes of it. -/
set_option maxRecDepth 100000
set_option linter.unusedVariables false
set_option linter.unusedSimpArgs false
namespace Mun
open Go Go.RowKit
open Go.Proofs

/-- the law's own blocks -/
abbrev OF (Bx Lr : Nat) : Foot := fun k => k = Bx ∨ k = Lr

structure TS (w0 w : World) (D L Pb Bx Lr n i : Nat) (s : PX) (x : PZ) (last : List Bytes) (vals : List Value) : Prop where
  pl : PL w D L Pb s x
  ti : TI n s last
  box : w.heap[Bx]? = some (.cells (bcells D L Pb) 28 (0, 0))
  row : w.heap[Lr]? = some (.cells vals.toArray 41 (0, 0))
  rd : ∀ (j : Nat) (b : Bytes), last[j]? = some b → ∃ u, vals[j]? = some u ∧ RdB (x.af Pb L) w u b
  vlen : vals.length = n
  below : Below w0.heap.size w0 w
  af0 : ∀ k, x.tf Pb L k → w0.heap.size ≤ k
  hz : x.Z = OF Bx Lr
  bx0 : w0.heap.size ≤ Bx
  lr0 : w0.heap.size ≤ Lr
  nB : ¬ x.tf Pb L Bx
  nL : ¬ x.tf Pb L Lr
  ops : s.cost ≤ i + 3 * s.nrec
  frl : 1 ≤ s.pm.fr.length ∧ s.pm.fr.length ≤ 4
  n8 : 1 ≤ n ∧ n ≤ 8

/-- no frame is pinned -/
def Pin0 (s : PX) : Prop := ∀ f ∈ s.pm.fr, f.pins = 0
/-- the page k alone is pinned, once -/
def Pin1 (s : PX) (k : Nat) : Prop := ∃ (i : Nat) (f : FM), s.pm.fr[i]? = some f ∧ f.pg = (k : Int) ∧ f.pins = 1 ∧ ∀ (j : Nat) (g : FM), s.pm.fr[j]? = some g → j ≠ i → g.pins = 0

section
variable {w0 w w' : World} {D L Pb Bx Lr n i : Nat} {s s' : PX} {x x' : PZ} {last : List Bytes} {vals : List Value} {v' : PLV}

theorem TS.more (h : TS w0 w D L Pb Bx Lr n i s x last vals) (hb : Below w.heap.size w w') : TS w0 w' D L Pb Bx Lr n i s x last vals :=
  ⟨h.pl.below hb, h.ti, (hb.block _ (Array.getElem?_eq_some_iff.1 h.box).1).trans h.box, (hb.block _ (Array.getElem?_eq_some_iff.1 h.row).1).trans h.row,
    fun j b hj => by obtain ⟨u, h1, h2⟩ := h.rd j b hj; exact ⟨u, h1, h2.below hb⟩, h.vlen, h.below.trans (hb.mono h.below.size), h.af0, h.hz, h.bx0, h.lr0, h.nB, h.nL, h.ops, h.frl, h.n8⟩
theorem TS.drewN (h : TS w0 w D L Pb Bx Lr n i s x last vals) (k : Nat) : TS w0 (w.drewN k) D L Pb Bx Lr n i s x last vals := h.more (below_drewN (Below.refl _ _) k)

/-- the pool, the log or the device has turned -/
theorem TS.to (h : TS w0 w D L Pb Bx Lr n i s x last vals) (hp : PTo w D L Pb x s' v' w') (hs : TI n s' last) {i' : Nat} (ho : s'.cost ≤ i' + 3 * s'.nrec) (hf : s'.pm.fr.length = s.pm.fr.length) :
    ∃ x', x'.v = v' ∧ TS w0 w' D L Pb Bx Lr n i' s' x' last vals ∧ Chg (x.tf Pb L) (x'.tf Pb L) w w' := by
  obtain ⟨x', hv, hzz, hpl, hc⟩ := hp
  have lB := (Array.getElem?_eq_some_iff.1 h.box).1
  have lL := (Array.getElem?_eq_some_iff.1 h.row).1
  refine ⟨x', hv, ⟨hpl, hs, (hc.block _ lB h.nB).trans h.box, (hc.block _ lL h.nL).trans h.row, fun j b hj => ?_, h.vlen, h.below.trans (hc.below h.below.size (fun k hk hf => by have := h.af0 k hf; omega)), fun k hk => ?_, hzz.trans h.hz, h.bx0, h.lr0, fun hk => ?_, fun hk => ?_, ho, by rw [hf]; exact h.frl, h.n8⟩, hc⟩
  · obtain ⟨u, h1, h2⟩ := h.rd j b hj
    exact ⟨u, h1, RdV.keep h2 (fun k hk hn => hc.block k hk (fun e => hn (x.tf_af Pb L k e))) (fun k hk e => af_back hzz hc k hk e)⟩
  · rcases hc.foot k hk with h1 | h1
    · exact h.af0 k h1
    · have := h.below.size; omega
  · rcases hc.foot _ hk with h1 | h1
    · exact h.nB h1
    · omega
  · rcases hc.foot _ hk with h1 | h1
    · exact h.nL h1
    · omega
theorem TS.cells (h : TS w0 w D L Pb Bx Lr n i s x last vals) : w.cell? ⟨Bx, 0, none⟩ = some (.pointer (some ⟨D, 0, none⟩)) ∧ w.cell? ⟨Bx, 1, none⟩ = some (.pointer (some ⟨L, 0, none⟩)) ∧ w.cell? ⟨Bx, 2, none⟩ = some (.pointer (some ⟨Pb, 0, none⟩)) :=
  ⟨cell_of_row _ _ 0 _ _ _ h.box, cell_of_row _ _ 1 _ _ _ h.box, cell_of_row _ _ 2 _ _ _ h.box⟩
/-- a block beside all that is turned -/
theorem keepD {x x' : PZ} {Dx : Nat} (hl : Dx < w.heap.size) (hn : ¬ x.tf Pb L Dx) (hc : Chg (x.tf Pb L) (x'.tf Pb L) w w') : w'.heap[Dx]? = w.heap[Dx]? ∧ ¬ x'.tf Pb L Dx :=
  ⟨hc.block _ hl hn, fun hk => by
    rcases hc.foot _ hk with h1 | h1
    · exact hn h1
    · omega⟩
theorem TS.later (h : TS w0 w D L Pb Bx Lr n i s x last vals) {i' : Nat} (hi : i ≤ i') : TS w0 w D L Pb Bx Lr n i' s x last vals := { h with ops := by have := h.ops; omega }

theorem TS.opsb (h : TS w0 w D L Pb Bx Lr n i s x last vals) (hi : i ≤ 3518437208882) : s.dm.ops < 4398045000000 := by
  have h1 := h.ops
  have h2 := h.pl.mem.wf.len
  have h3 := lenL_len s.lm.recs
  unfold PX.cost PX.nrec at h1
  omega

theorem FoundIs.pm {p p1 : PM} {v v1 : PLV} {r : Int} (h : FoundIs p v r p1 v1) (hfr : p.fr = v.fs.map (·.1)) :
    p1.dt = p.dt ∧ p1.fr.map (fun f => (f.pg, f.b, f.chg)) = p.fr.map (fun f => (f.pg, f.b, f.chg)) ∧ p1.fr.map (·.pins) = p.fr.map (·.pins) ∧ p1.fr = v1.fs.map (·.1) := by
  cases h with
  | free _ _ _ => exact ⟨rfl, rfl, rfl, hfr⟩
  | full _ _ => exact ⟨rfl, rfl, rfl, hfr⟩
  | @clock kk fs hh ii ha hc =>
    obtain ⟨h1, -, -⟩ := hc.facts
    have hpt : ∀ {β : Type} (q : FM → β), (∀ f g : FM, g.pg = f.pg → g.b = f.b → g.pins = f.pins → g.chg = f.chg → q g = q f) → (fs.map (·.1)).map q = p.fr.map q := fun q hq => by
      rw [hfr]
      apply List.ext_getElem?
      intro j
      rw [List.getElem?_map, List.getElem?_map, List.getElem?_map, List.getElem?_map]
      cases hj : v.fs[j]? with
      | none =>
        rw [List.getElem?_eq_none_iff] at hj
        rw [List.getElem?_eq_none (by rw [h1.1]; exact hj)]
      | some z =>
        obtain ⟨y, hy, e1, e2, e3, e4, e5⟩ := h1.2 j z hj
        rw [hy]
        simp only [Option.map_some]
        rw [hq z.1 y.1 e1 e2 e3 e4]
    exact ⟨rfl, hpt _ (fun f g a b c d => by rw [a, b, d]), hpt _ (fun f g a b c d => c), rfl⟩

theorem Pin0.out (h : Pin0 s) (j : Nat) : Pin0 (s.out j).1 := by
  rcases out_fr s j with e | ⟨f, hf, e⟩
  · unfold Pin0; rw [e]; exact h
  · unfold Pin0
    rw [e]
    intro g hg
    rcases List.mem_or_eq_of_mem_set hg with h1 | h1
    · exact h g h1
    · rw [h1]; exact h f (List.mem_of_getElem? hf)
theorem TI.len (h : TI n s last) {k : Nat} {b : Bytes} (hb : last[k]? = some b) : b.length = 512 := (h.chk b (List.mem_of_getElem? hb)).2
theorem TI.goodF (h : TI n s last) : s.GoodF := fun f hf hc => (h.chg f hf hc).2.1
theorem set_trip {fr : List FM} {j : Nat} {f g : FM} (hf : fr[j]? = some f) (h1 : g.pg = f.pg) (h2 : g.b = f.b) (h3 : g.chg = f.chg) : (fr.set j g).map (fun f => (f.pg, f.b, f.chg)) = fr.map (fun f => (f.pg, f.b, f.chg)) := by
  rw [List.map_set]
  apply List.ext_getElem?
  intro a
  rw [List.getElem?_set]
  by_cases hja : j = a
  · subst hja
    have hl := (List.getElem?_eq_some_iff.1 hf).1
    simp [hl, hf, h1, h2, h3]
    rw [List.getElem?_eq_getElem hl] at hf
    injection hf with hf
    rw [hf]
    exact ⟨rfl, rfl, rfl⟩
  · simp [hja]

/-- Pin of a page: its bytes are what was put last -/
def PinT (w0 w : World) (D L Pb Bx Lr n i k : Nat) (x : PZ) (last : List Bytes) (vals : List Value) (e : Ending) (w' : World) : Prop :=
  ∃ (g : Nat) (s' : PX) (x' : PZ) (b : Bytes), e = .returned (.tuple #[.slice (some ⟨g, 0, none⟩) 512 512, .int .i64 0]) ∧ last[k]? = some b ∧ OwnB w' w.heap.size 5 (.slice (some ⟨g, 0, none⟩) 512 512) b ∧
    TS w0 w' D L Pb Bx Lr n i s' x' last vals ∧ Pin1 s' k ∧ Chg (x.tf Pb L) (x'.tf Pb L) w w'

end
end Mun
end

section
/- More deeds of PoolTells: Put and what was put last; Write, WriteAll, Sync. -/
set_option maxRecDepth 100000
set_option linter.unusedVariables false
set_option linter.unusedSimpArgs false
namespace Mun
open Go Go.RowKit
open Go.Proofs

/-- the memory alone -/
structure TM (w0 w : World) (D L Pb Bx Lr n : Nat) (s : PX) (x : PZ) (last : List Bytes) (vals : List Value) : Prop where
  pl : PL w D L Pb s x
  box : w.heap[Bx]? = some (.cells (bcells D L Pb) 28 (0, 0))
  row : w.heap[Lr]? = some (.cells vals.toArray 41 (0, 0))
  rd : ∀ (j : Nat) (b : Bytes), last[j]? = some b → ∃ u, vals[j]? = some u ∧ RdB (x.af Pb L) w u b
  vlen : vals.length = n
  below : Below w0.heap.size w0 w
  af0 : ∀ k, x.tf Pb L k → w0.heap.size ≤ k
  hz : x.Z = OF Bx Lr
  bx0 : w0.heap.size ≤ Bx
  lr0 : w0.heap.size ≤ Lr
  nB : ¬ x.tf Pb L Bx
  nL : ¬ x.tf Pb L Lr

section
variable {w0 w w' : World} {D L Pb Bx Lr n i : Nat} {s s' : PX} {x x' : PZ} {last : List Bytes} {vals : List Value} {v' : PLV}

theorem TS.tm (h : TS w0 w D L Pb Bx Lr n i s x last vals) : TM w0 w D L Pb Bx Lr n s x last vals := ⟨h.pl, h.box, h.row, h.rd, h.vlen, h.below, h.af0, h.hz, h.bx0, h.lr0, h.nB, h.nL⟩
theorem TM.ts (h : TM w0 w D L Pb Bx Lr n s x last vals) (ht : TI n s last) (ho : s.cost ≤ i + 3 * s.nrec) (hf : 1 ≤ s.pm.fr.length ∧ s.pm.fr.length ≤ 4) (h8 : 1 ≤ n ∧ n ≤ 8) : TS w0 w D L Pb Bx Lr n i s x last vals := ⟨h.pl, ht, h.box, h.row, h.rd, h.vlen, h.below, h.af0, h.hz, h.bx0, h.lr0, h.nB, h.nL, ho, hf, h8⟩
theorem TM.more (h : TM w0 w D L Pb Bx Lr n s x last vals) (hb : Below w.heap.size w w') : TM w0 w' D L Pb Bx Lr n s x last vals :=
  ⟨h.pl.below hb, (hb.block _ (Array.getElem?_eq_some_iff.1 h.box).1).trans h.box, (hb.block _ (Array.getElem?_eq_some_iff.1 h.row).1).trans h.row,
    fun j b hj => by obtain ⟨u, h1, h2⟩ := h.rd j b hj; exact ⟨u, h1, h2.below hb⟩, h.vlen, h.below.trans (hb.mono h.below.size), h.af0, h.hz, h.bx0, h.lr0, h.nB, h.nL⟩
theorem TM.to (h : TM w0 w D L Pb Bx Lr n s x last vals) (hp : PTo w D L Pb x s' v' w') : ∃ x', x'.v = v' ∧ TM w0 w' D L Pb Bx Lr n s' x' last vals ∧ Chg (x.tf Pb L) (x'.tf Pb L) w w' := by
  obtain ⟨x', hv, hzz, hpl, hc⟩ := hp
  have lB := (Array.getElem?_eq_some_iff.1 h.box).1
  have lL := (Array.getElem?_eq_some_iff.1 h.row).1
  refine ⟨x', hv, ⟨hpl, (hc.block _ lB h.nB).trans h.box, (hc.block _ lL h.nL).trans h.row, fun j b hj => ?_, h.vlen, h.below.trans (hc.below h.below.size (fun k hk hf => by have := h.af0 k hf; omega)), fun k hk => ?_, hzz.trans h.hz, h.bx0, h.lr0, fun hk => ?_, fun hk => ?_⟩, hc⟩
  · obtain ⟨u, h1, h2⟩ := h.rd j b hj
    exact ⟨u, h1, RdV.keep h2 (fun k hk hn => hc.block k hk (fun e => hn (x.tf_af Pb L k e))) (fun k hk e => af_back hzz hc k hk e)⟩
  · rcases hc.foot k hk with h1 | h1
    · exact h.af0 k h1
    · have := h.below.size; omega
  · rcases hc.foot _ hk with h1 | h1
    · exact h.nB h1
    · omega
  · rcases hc.foot _ hk with h1 | h1
    · exact h.nL h1
    · omega

/-- what was put last is laid into the law's row -/
theorem TM.store (h : TM w0 w D L Pb Bx Lr n s x last vals) {k : Nat} (hk : k < n) (hln : last.length = n) {u : Value} {c : Bytes} (hu : RdB (x.af Pb L) w u c) : TM w0 (w.setCell ⟨Lr, k, none⟩ u) D L Pb Bx Lr n s x (last.set k c) (vals.set k u) := by
  have hZL : x.Z Lr := by rw [h.hz]; exact .inr rfl
  have ho : ∀ j, j ≠ Lr → (w.setCell ⟨Lr, k, none⟩ u).heap[j]? = w.heap[j]? := fun j hj => setCell_heap _ _ _ _ hj
  have hne : Bx ≠ Lr := blk_ne h.box h.row (by decide)
  have hrk : ∀ {v : Value} {b : Bytes}, RdB (x.af Pb L) w v b → RdB (x.af Pb L) (w.setCell ⟨Lr, k, none⟩ u) v b := fun hr => RdV.keep hr (fun j _ hn => ho j (fun e => hn (by rw [e]; exact .inl (.inr (.inr hZL))))) (fun _ _ e => e)
  refine ⟨⟨?_, ?_, ?_, h.pl.apart⟩, (ho Bx hne).trans h.box, ?_, fun j b hj => ?_, by rw [List.length_set]; exact h.vlen, h.below.setCell h.lr0 _, h.af0, h.hz, h.bx0, h.lr0, h.nB, h.nL⟩
  · exact h.pl.disk.frame (fun j _ hn => ho j (fun e => hn (by rw [e]; exact .inr (.inr hZL)))) (by rw [setCell_size]; exact Nat.le_refl _) (fun j hj => .inl hj)
  · refine h.pl.rep.keep (fun j _ hj => ho j (fun e => ?_)) (fun _ _ e => e)
    rw [e] at hj
    rcases hj with hj | hj
    · exact h.nL (.inl (.inl hj))
    · exact hj (.inl (.inr (.inr hZL)))
  · exact h.pl.mem.keep (fun j hj => ho j (fun e => h.nL (by rw [← e]; exact .inl (.inr hj))))
  · refine (setCell_blk h.row u).trans ?_
    simp
  · rw [List.getElem?_set] at hj
    by_cases hjk : k = j
    · subst hjk
      rw [if_pos rfl, if_pos (by omega)] at hj
      injection hj with hj
      subst hj
      exact ⟨u, List.getElem?_set_self (by rw [h.vlen]; exact hk), hrk hu⟩
    · rw [if_neg hjk] at hj
      obtain ⟨u', h1, h2⟩ := h.rd j b hj
      exact ⟨u', by rw [List.getElem?_set_ne hjk]; exact h1, hrk h2⟩

theorem Pin0.outs : ∀ (l : List Int) {s : PX}, Pin0 s → Pin0 (s.outs l).1
  | [], s, h => h
  | k :: l, s, h => by
    have h1 : Pin0 (s.wr k).1 := by
      unfold PX.wr
      split
      · exact h
      · split
        · exact h
        · exact h.out _
    unfold PX.outs
    split
    · exact h1
    · exact Pin0.outs l h1

end
end Mun
end
