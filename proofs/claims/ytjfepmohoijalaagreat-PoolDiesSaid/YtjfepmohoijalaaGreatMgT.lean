/- Texts of mine, one behind the other: RowB, P13, ListsW, P14. -/
import Derived.Test.YtjfepmohoijalaaGreatMgA
import Derived.Test.YtjfepmohoijalaaGreatMgM
import Derived.Test.YtjfepmohoijalaaGreatMgF
section
/- Rows of rows of bytes. -/
set_option maxRecDepth 100000
set_option linter.unusedVariables false
set_option linter.unusedSimpArgs false
namespace Mun
open Go Go.RowKit
open Go.Proofs

theorem rinfo_bs : (Tryz.prog.info? 41).map (fun i => (i.zero, i.size, i.bytes)) = some (some (.slice none 0 0), 1, 24) := by kernel_rfl

/-- a row of values of one cell each, of a type -/
abbrev OwnV (w : World) (B : Nat) (v : Value) (vs : List Value) : Prop := w.ownsRow B 41 1 v vs.length vs

/-- an append of one to a row -/
theorem append_one {w : World} {B : Nat} {ty : TypeId} {v x : Value} {vs : List Value} (hx : x.oneCell' = true) (hown : OwnV w B v vs) (hbytes : vs.length < 1000000) (hbase : B ≤ w.heap.size) :
    ∃ v' w', (Builtin.append_ #[33, 33] ty #[v, .slice (some ⟨w.heap.size, 0, none⟩) 1 1]).run Tryz.prog (w.alloc (.cells #[x] 41)) = .ok v' w' ∧
      OwnV w' B v' (vs ++ [x]) ∧ (w.alloc (.cells #[x] 41)).grownBy w' v.ownBlock ∧ (v'.ownBlock = v.ownBlock ∨ v'.ownBlock = some (w.heap.size + 1)) ∧ ∃ g c, v' = .slice (some ⟨g, 0, none⟩) (vs.length + 1) c := by
  obtain ⟨i, hi, hz, h1, h2⟩ := info_of rinfo_bs
  have hx' : RdV (fun _ => False) (w.alloc (.cells #[x] 41)) 1 (.slice (some ⟨w.heap.size, 0, none⟩) 1 1) 1 [x] :=
    ⟨rfl, _, _, rfl, Nat.le_refl _, by decide, by simp, fun _ => ⟨_, 0, _, _, _, rfl, fun h => h, heap_alloc_new w _, rfl⟩⟩
  obtain ⟨v', w', hr, h3, h4, h5, h6⟩ := run_append_rd (P := Tryz.prog) (ty := ty) Tryz.underlying33 hi hz h1 h2 (by rfl) (by omega) (World.ownsRow.alloc hown _) hx' (by intro u hu; simp at hu; subst hu; exact hx) (by omega) (by omega) (by simp; omega)
  have h3' : OwnV w' B v' (vs ++ [x]) := by unfold OwnV; rw [List.length_append]; exact h3
  refine ⟨v', w', hr, h3', h4, by simpa using h5, ?_⟩
  rcases h3.2 with ⟨_, h0⟩ | ⟨g, cap, cur, hv, _⟩
  · omega
  · exact ⟨g, cap, hv⟩

/-- rows that read: each element reads as its bytes -/
structure ListsAt (F : Foot) (w : World) (v : Value) (cs : List (List UInt8)) (vs : List Value) : Prop where
  row : RdV F w 1 v cs.length vs
  rd : ∀ i (h : i < cs.length), ∃ u, vs[i]? = some u ∧ RdB F w u cs[i]

theorem ListsAt.below {F : Foot} {w w' : World} {v : Value} {cs : List (List UInt8)} {vs : List Value} (h : ListsAt F w v cs vs) (hb : Below w.heap.size w w') : ListsAt F w' v cs vs :=
  ⟨h.row.below hb, fun i hi => by obtain ⟨u, h1, h2⟩ := h.rd i hi; exact ⟨u, h1, RdB.below h2 hb⟩⟩
end Mun
end

section
/- Contract of Cells. -/
set_option maxRecDepth 100000
set_option linter.unusedVariables false
set_option linter.unusedSimpArgs false
namespace Mun
open Go Go.RowKit
open Go.Proofs

def cval (g : Nat) (c : PBytes) : Value := .slice (some ⟨g, 0, none⟩) c.length c.length

/-- cells in new memory, a block each, and a row of them -/
structure CellsAt (B : Nat) (wr : World) (v : Value) (cs : List PBytes) (gs : List Nat) : Prop where
  row : OwnV wr B v (List.zipWith cval gs cs)
  len : gs.length = cs.length
  blk : ∀ i (h : i < cs.length), ∃ g, gs[i]? = some g ∧ wr.heap[g]? = some (bobj cs[i])
  new : ∀ g ∈ gs, B ≤ g ∧ g < wr.heap.size
  nodup : gs.Nodup

theorem CellsAt.below {B : Nat} {wr w' : World} {v : Value} {cs : List PBytes} {gs : List Nat} (h : CellsAt B wr v cs gs) (hb : Below wr.heap.size wr w') : CellsAt B w' v cs gs := by
  refine ⟨?_, h.len, fun i hi => ?_, fun g hg => ?_, h.nodup⟩
  · refine ⟨h.row.1, ?_⟩
    rcases h.row.2 with hn | ⟨g, cap, cur, e, hbg, hg, rest⟩
    · exact .inl hn
    · exact .inr ⟨g, cap, cur, e, hbg, (hb.block g (Array.getElem?_eq_some_iff.1 hg).1).trans hg, rest⟩
  · obtain ⟨g, h1, h2⟩ := h.blk i hi
    exact ⟨g, h1, (hb.block g (Array.getElem?_eq_some_iff.1 h2).1).trans h2⟩
  · have := h.new g hg
    have := hb.size
    omega

theorem zip_snoc (gs : List Nat) (cs : List PBytes) (h : gs.length = cs.length) (g : Nat) (c : PBytes) : List.zipWith cval (gs ++ [g]) (cs ++ [c]) = List.zipWith cval gs cs ++ [cval g c] := by
  rw [List.zipWith_append h]
  rfl

/-- one cell more -/
theorem CellsAt.push {B : Nat} {wr : World} {v : Value} {cs : List PBytes} {gs : List Nat} {ty : TypeId} (h : CellsAt B wr v cs gs) (hB : B ≤ wr.heap.size) (hn : cs.length < 1000000) (c : PBytes) :
    ∃ v' w', (Builtin.append_ #[33, 33] ty #[v, .slice (some ⟨wr.heap.size + 1, 0, none⟩) 1 1]).run Tryz.prog ((wr.alloc (bobj c)).alloc (.cells #[cval wr.heap.size c] 41)) = .ok v' w' ∧
      CellsAt B w' v' (cs ++ [c]) (gs ++ [wr.heap.size]) ∧ (∃ g cp, v' = .slice (some ⟨g, 0, none⟩) (cs.length + 1) cp) ∧
      wr.heap.size ≤ w'.heap.size ∧ w'.os = wr.os ∧ w'.tape = wr.tape ∧ w'.output = wr.output ∧ (∀ k, k < wr.heap.size → (∀ cur, wr.heap[k]? ≠ some (.cells cur 41 (0, 0))) → w'.heap[k]? = wr.heap[k]?) ∧ Below B wr w' := by
  have h1 := h.below (w' := wr.alloc (bobj c)) ((Below.refl _ _).alloc (Nat.le_refl _) _)
  have hzl : (List.zipWith cval gs cs).length = cs.length := by rw [List.length_zipWith, h.len, Nat.min_self]
  obtain ⟨v', w', hr, h2, h3, h4, g', cp, h5⟩ := append_one (ty := ty) (x := cval wr.heap.size c) (by rfl) h1.row (by rw [hzl]; exact hn) (by simp; omega)
  rw [World.size_alloc] at hr
  have hrow : ∀ k cur, v.ownBlock = some k → wr.heap[k]? = some cur → ∃ cc, cur = .cells cc 41 (0, 0) := by
    intro k cur hk hc
    obtain ⟨cc, hcc⟩ := (show ∃ cc, wr.heap[k]? = some (.cells cc 41 (0, 0)) from by
      rcases h.row.2 with ⟨rfl, _⟩ | ⟨g, cap, cc, rfl, _, hg, _⟩
      · simp [Value.ownBlock] at hk
      · simp only [Value.ownBlock, Option.some.injEq] at hk
        subst hk
        exact ⟨cc, hg⟩)
    rw [hcc] at hc
    injection hc with hc
    exact ⟨cc, hc.symm⟩
  have hne : ∀ g o, wr.heap[g]? = some o → (∀ cc, o ≠ .cells cc 41 (0, 0)) → some g ≠ v.ownBlock := by
    intro g o hg ho he
    obtain ⟨cc, hcc⟩ := hrow g o he.symm hg
    exact ho cc hcc
  have hbt : ∀ b : PBytes, ∀ cc, bobj b ≠ .cells cc 41 (0, 0) := by
    intro b cc hh
    unfold bobj at hh
    injection hh with _ hh _
    exact absurd hh (by decide)
  have hsz : wr.heap.size + 2 ≤ w'.heap.size := by have := h3.size; simp at this; omega
  have hrl : ∀ k, v.ownBlock = some k → k < wr.heap.size := fun k hk => (h.row.lt k hk).2
  have hkeep : ∀ k, k < wr.heap.size → some k ≠ v.ownBlock → w'.heap[k]? = wr.heap[k]? := by
    intro k hk hkr
    rw [h3.block k (by simp; omega) hkr, heap_alloc_old _ _ (by simp; omega), heap_alloc_old _ _ hk]
  refine ⟨v', w', hr, ⟨by rw [zip_snoc _ _ h.len]; exact h2, by simp [h.len], fun i hi => ?_, fun g hg => ?_, ?_⟩, ⟨g', cp, by rw [h5, hzl]⟩, by omega, ?_, ?_, ?_, fun k hk hh => ?_, ?_⟩
  · rw [List.length_append, List.length_singleton] at hi
    by_cases hic : i < cs.length
    · obtain ⟨g, hg1, hg2⟩ := h.blk i hic
      have hgl := (Array.getElem?_eq_some_iff.1 hg2).1
      refine ⟨g, by rw [List.getElem?_append_left (by rw [h.len]; exact hic)]; exact hg1, ?_⟩
      rw [hkeep g hgl (hne g _ hg2 (hbt _)), List.getElem_append_left hic]
      exact hg2
    · obtain rfl : i = cs.length := by omega
      refine ⟨wr.heap.size, by rw [List.getElem?_append_right (by rw [h.len]; exact Nat.le_refl _), h.len]; simp, ?_⟩
      rw [h3.block _ (by simp; omega) (fun he => by have := hrl _ he.symm; omega), heap_alloc_old _ _ (by simp), List.getElem_append_right (Nat.le_refl _)]
      simp only [Nat.sub_self, List.getElem_cons_zero]
      exact heap_alloc_new wr _
  · rw [List.mem_append, List.mem_singleton] at hg
    rcases hg with hg | rfl
    · have := h.new g hg; omega
    · omega
  · rw [List.nodup_append]
    refine ⟨h.nodup, by simp, ?_⟩
    intro a ha b hb
    rw [List.mem_singleton] at hb
    have := h.new a ha
    omega
  · exact h3.os
  · exact h3.tape
  · exact h3.output
  · refine hkeep k hk (fun he => ?_)
    have hlt := hk
    obtain ⟨o, ho⟩ : ∃ o, wr.heap[k]? = some o := ⟨_, Array.getElem?_eq_getElem hk⟩
    obtain ⟨cc, hcc⟩ := hrow k o he.symm ho
    exact hh cc (by rw [ho, hcc])
  · exact (((Below.refl _ _).alloc hB _).alloc (by simp; omega) _).grown h3 (by simp; omega) (fun k hk => (h.row.lt k hk).1)

def cellsP (p : PBytes) (k : Nat) : List PBytes := (List.range k).map (cellP p)
/-- a round of Cells -/
structure CellsR (w0 wr : World) (b : Nat) (vs v : Value) (cs : List PBytes) (gs : List Nat) : Prop where
  bl : Below w0.heap.size w0 wr
  box : wr.heap[b]? = some (.cells #[vs] 149 (0, 0))
  at_ : CellsAt w0.heap.size wr v cs gs
theorem CellsR.below {w0 wr w' : World} {b : Nat} {vs v : Value} {cs : List PBytes} {gs : List Nat} (h : CellsR w0 wr b vs v cs gs) (hb : Below wr.heap.size wr w') : CellsR w0 w' b vs v cs gs :=
  ⟨h.bl.trans (hb.mono h.bl.size), one_below h.box hb, h.at_.below hb⟩

end Mun
end

section
/- Contracts of munimentref5.Lists, Low. -/
set_option maxRecDepth 100000
set_option linter.unusedVariables false
set_option linter.unusedSimpArgs false
namespace Mun
open Go Go.RowKit
open Go.Proofs

theorem ListsAt.form {F : Foot} {w : World} {v : Value} {cs : List (List UInt8)} {vs : List Value} (h : ListsAt F w v cs vs) : ∃ a n c, v = .slice a n c ∧ Hid (n = cs.length) ∧ n ≤ c ∧ c ≤ maxLen := by
  obtain ⟨a, c, h1, h2, h3⟩ := h.row.form
  exact ⟨a, _, c, h1, rfl, h2, h3⟩

theorem ListsAt.cellAt {F : Foot} {w : World} {v : Value} {cs : List (List UInt8)} {vs : List Value} (h : ListsAt F w v cs vs) (i : Nat) (hi : i < cs.length) :
    ∃ g off c a n c2, v = .slice (some ⟨g, off, none⟩) cs.length c ∧ w.cell? ⟨g, off + i, none⟩ = some (.slice a n c2) ∧ RdB F w (.slice a n c2) cs[i] ∧ cs.length ≤ c ∧ c ≤ maxLen := by
  obtain ⟨g, off, c, hv, h1, h2, h3, h4, h5⟩ := RdV.at_ h.row (by omega)
  obtain ⟨u, hu1, hu2⟩ := h.rd i hi
  obtain ⟨a, c2, rfl, -, -⟩ := hu2.form
  exact ⟨g, off, c, a, _, c2, hv, h5 i _ hu1, hu2, h1, h2⟩

theorem reflow_any {F : Foot} (w : World) (v : Value) (p : List UInt8) (hv : RdB F w v p) (hp : 18 ≤ p.length) : Calls Tryz.prog 56 #[v] w fun e w' => e = .returned (.int .i64 (lowP p)) ∧ w = w' := by
  have hb : lowP p < 65536 := gt2_lt p 16
  have hg := refget_any w _ p 16 2 16 2 (lowP p : Int) rfl rfl rfl hv (by omega) (by decide)
  obtain ⟨a, n, c, rfl, -, -, -⟩ := hv.formN
  obtain ⟨z, hz⟩ : ∃ z, lowP p = z := ⟨_, rfl⟩
  rw [hz] at hg hb ⊢
  have HG := Lib.hid hg
  clear hg hz hv
  have hget : Calls Tryz.prog 66 #[.slice a n c, .int .i64 16, .int .i64 2] w fun e w' => e = .returned (.int .i64 (z : Int)) ∧ w = w' := by
    go_enter Tryz.func66, Tryz.ntmps66
    go_wp2_with fail
    refine HG.out.mono ?_
    rintro e w2 ⟨rfl, rfl⟩
    go_wp2
    go_ret
    exact ⟨rfl, rfl⟩
  have HGT := Lib.hid hget
  clear hget
  go_enter Tryz.func56, Tryz.ntmps56
  go_wp2_with fail
  refine HGT.out.mono ?_
  rintro e w2 ⟨rfl, rfl⟩
  go_wp2
  go_ret
  exact ⟨rfl, rfl⟩
end Mun
end

section
/- Contract of Insert. -/
set_option maxRecDepth 100000
set_option linter.unusedVariables false
set_option linter.unusedSimpArgs false
namespace Mun
open Go Go.RowKit
open Go.Proofs

end Mun
end
