/- Contract of Cells. -/
import Derived.Test.YtjfepmohoijalaaP12
import Derived.Test.YtjfepmohoijalaaRowB
set_option maxRecDepth 100000
set_option linter.unusedVariables false
set_option linter.unusedSimpArgs false
namespace Mun
open Go Go.RowKit
open Go.Proofs

def cval (g : Nat) (c : PBytes) : Value := .slice (some ⟨g, 0, none⟩) c.length c.length

/-- cells in new memory, a block each, and a row of them -/
structure CellsAt (B : Nat) (wr : World) (v : Value) (cs : List PBytes) (gs : List Nat) : Prop where
  row : OwnV wr B v (List.zipWith cval gs cs)
  len : gs.length = cs.length
  blk : ∀ i (h : i < cs.length), ∃ g, gs[i]? = some g ∧ wr.heap[g]? = some (bobj cs[i])
  new : ∀ g ∈ gs, B ≤ g ∧ g < wr.heap.size
  nodup : gs.Nodup

theorem CellsAt.below {B : Nat} {wr w' : World} {v : Value} {cs : List PBytes} {gs : List Nat} (h : CellsAt B wr v cs gs) (hb : Below wr.heap.size wr w') : CellsAt B w' v cs gs := by
  refine ⟨?_, h.len, fun i hi => ?_, fun g hg => ?_, h.nodup⟩
  · refine ⟨h.row.1, ?_⟩
    rcases h.row.2 with hn | ⟨g, cap, cur, e, hbg, hg, rest⟩
    · exact .inl hn
    · exact .inr ⟨g, cap, cur, e, hbg, (hb.block g (Array.getElem?_eq_some_iff.1 hg).1).trans hg, rest⟩
  · obtain ⟨g, h1, h2⟩ := h.blk i hi
    exact ⟨g, h1, (hb.block g (Array.getElem?_eq_some_iff.1 h2).1).trans h2⟩
  · have := h.new g hg
    have := hb.size
    omega

theorem zip_snoc (gs : List Nat) (cs : List PBytes) (h : gs.length = cs.length) (g : Nat) (c : PBytes) : List.zipWith cval (gs ++ [g]) (cs ++ [c]) = List.zipWith cval gs cs ++ [cval g c] := by
  rw [List.zipWith_append h]
  rfl

/-- one cell more -/
theorem CellsAt.push {B : Nat} {wr : World} {v : Value} {cs : List PBytes} {gs : List Nat} {ty : TypeId} (h : CellsAt B wr v cs gs) (hB : B ≤ wr.heap.size) (hn : cs.length < 1000000) (c : PBytes) :
    ∃ v' w', (Builtin.append_ #[80, 80] ty #[v, .slice (some ⟨wr.heap.size + 1, 0, none⟩) 1 1]).run Try.prog ((wr.alloc (bobj c)).alloc (.cells #[cval wr.heap.size c] 31)) = .ok v' w' ∧
      CellsAt B w' v' (cs ++ [c]) (gs ++ [wr.heap.size]) ∧ (∃ g cp, v' = .slice (some ⟨g, 0, none⟩) (cs.length + 1) cp) ∧
      wr.heap.size ≤ w'.heap.size ∧ w'.os = wr.os ∧ w'.tape = wr.tape ∧ w'.output = wr.output ∧ (∀ k, k < wr.heap.size → (∀ cur, wr.heap[k]? ≠ some (.cells cur 31 (0, 0))) → w'.heap[k]? = wr.heap[k]?) ∧ Below B wr w' := by
  have h1 := h.below (w' := wr.alloc (bobj c)) ((Below.refl _ _).alloc (Nat.le_refl _) _)
  have hzl : (List.zipWith cval gs cs).length = cs.length := by rw [List.length_zipWith, h.len, Nat.min_self]
  obtain ⟨v', w', hr, h2, h3, h4, g', cp, h5⟩ := append_one (ty := ty) (x := cval wr.heap.size c) (by rfl) h1.row (by rw [hzl]; exact hn) (by simp; omega)
  rw [World.size_alloc] at hr
  have hrow : ∀ k cur, v.ownBlock = some k → wr.heap[k]? = some cur → ∃ cc, cur = .cells cc 31 (0, 0) := by
    intro k cur hk hc
    obtain ⟨cc, hcc⟩ := (show ∃ cc, wr.heap[k]? = some (.cells cc 31 (0, 0)) from by
      rcases h.row.2 with ⟨rfl, _⟩ | ⟨g, cap, cc, rfl, _, hg, _⟩
      · simp [Value.ownBlock] at hk
      · simp only [Value.ownBlock, Option.some.injEq] at hk
        subst hk
        exact ⟨cc, hg⟩)
    rw [hcc] at hc
    injection hc with hc
    exact ⟨cc, hc.symm⟩
  have hne : ∀ g o, wr.heap[g]? = some o → (∀ cc, o ≠ .cells cc 31 (0, 0)) → some g ≠ v.ownBlock := by
    intro g o hg ho he
    obtain ⟨cc, hcc⟩ := hrow g o he.symm hg
    exact ho cc hcc
  have hbt : ∀ b : PBytes, ∀ cc, bobj b ≠ .cells cc 31 (0, 0) := by
    intro b cc hh
    unfold bobj at hh
    injection hh with _ hh _
    exact absurd hh (by decide)
  have hsz : wr.heap.size + 2 ≤ w'.heap.size := by have := h3.size; simp at this; omega
  have hrl : ∀ k, v.ownBlock = some k → k < wr.heap.size := fun k hk => (h.row.lt k hk).2
  have hkeep : ∀ k, k < wr.heap.size → some k ≠ v.ownBlock → w'.heap[k]? = wr.heap[k]? := by
    intro k hk hkr
    rw [h3.block k (by simp; omega) hkr, heap_alloc_old _ _ (by simp; omega), heap_alloc_old _ _ hk]
  refine ⟨v', w', hr, ⟨by rw [zip_snoc _ _ h.len]; exact h2, by simp [h.len], fun i hi => ?_, fun g hg => ?_, ?_⟩, ⟨g', cp, by rw [h5, hzl]⟩, by omega, ?_, ?_, ?_, fun k hk hh => ?_, ?_⟩
  · rw [List.length_append, List.length_singleton] at hi
    by_cases hic : i < cs.length
    · obtain ⟨g, hg1, hg2⟩ := h.blk i hic
      have hgl := (Array.getElem?_eq_some_iff.1 hg2).1
      refine ⟨g, by rw [List.getElem?_append_left (by rw [h.len]; exact hic)]; exact hg1, ?_⟩
      rw [hkeep g hgl (hne g _ hg2 (hbt _)), List.getElem_append_left hic]
      exact hg2
    · obtain rfl : i = cs.length := by omega
      refine ⟨wr.heap.size, by rw [List.getElem?_append_right (by rw [h.len]; exact Nat.le_refl _), h.len]; simp, ?_⟩
      rw [h3.block _ (by simp; omega) (fun he => by have := hrl _ he.symm; omega), heap_alloc_old _ _ (by simp), List.getElem_append_right (Nat.le_refl _)]
      simp only [Nat.sub_self, List.getElem_cons_zero]
      exact heap_alloc_new wr _
  · rw [List.mem_append, List.mem_singleton] at hg
    rcases hg with hg | rfl
    · have := h.new g hg; omega
    · omega
  · rw [List.nodup_append]
    refine ⟨h.nodup, by simp, ?_⟩
    intro a ha b hb
    rw [List.mem_singleton] at hb
    have := h.new a ha
    omega
  · exact h3.os
  · exact h3.tape
  · exact h3.output
  · refine hkeep k hk (fun he => ?_)
    have hlt := hk
    obtain ⟨o, ho⟩ : ∃ o, wr.heap[k]? = some o := ⟨_, Array.getElem?_eq_getElem hk⟩
    obtain ⟨cc, hcc⟩ := hrow k o he.symm ho
    exact hh cc (by rw [ho, hcc])
  · exact (((Below.refl _ _).alloc hB _).alloc (by simp; omega) _).grown h3 (by simp; omega) (fun k hk => (h.row.lt k hk).1)

def cellsP (p : PBytes) (k : Nat) : List PBytes := (List.range k).map (cellP p)
theorem cellsP_length (p : PBytes) (k : Nat) : (cellsP p k).length = k := by simp [cellsP]
theorem cellsP_succ (p : PBytes) (k : Nat) : cellsP p (k + 1) = cellsP p k ++ [cellP p k] := by simp [cellsP, List.range_succ]

/-- a round of Cells -/
structure CellsR (w0 wr : World) (b : Nat) (vs v : Value) (cs : List PBytes) (gs : List Nat) : Prop where
  bl : Below w0.heap.size w0 wr
  box : wr.heap[b]? = some (.cells #[vs] 96 (0, 0))
  at_ : CellsAt w0.heap.size wr v cs gs
theorem CellsR.below {w0 wr w' : World} {b : Nat} {vs v : Value} {cs : List PBytes} {gs : List Nat} (h : CellsR w0 wr b vs v cs gs) (hb : Below wr.heap.size wr w') : CellsR w0 w' b vs v cs gs :=
  ⟨h.bl.trans (hb.mono h.bl.size), one_below h.box hb, h.at_.below hb⟩

end Mun
