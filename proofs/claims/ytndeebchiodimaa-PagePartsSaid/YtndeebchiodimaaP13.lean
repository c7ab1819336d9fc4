/- Contract of Cells. -/
import Derived.Test.YtndeebchiodimaaP12
import Derived.Test.YtndeebchiodimaaRowB
set_option maxRecDepth 100000
set_option linter.unusedVariables false
set_option linter.unusedSimpArgs false
namespace Mun
open Go Go.RowKit
open Go.Proofs

def cval (g : Nat) (c : PBytes) : Value := .slice (some ⟨g, 0, none⟩) c.length c.length

/-- cells in new memory, a block each, and a row of them -/
structure CellsAt (B : Nat) (wr : World) (v : Value) (cs : List PBytes) (gs : List Nat) : Prop where
  row : OwnV wr B v (List.zipWith cval gs cs)
  len : gs.length = cs.length
  blk : ∀ i (h : i < cs.length), ∃ g, gs[i]? = some g ∧ wr.heap[g]? = some (bobj cs[i])
  new : ∀ g ∈ gs, B ≤ g ∧ g < wr.heap.size
  nodup : gs.Nodup

theorem CellsAt.below {B : Nat} {wr w' : World} {v : Value} {cs : List PBytes} {gs : List Nat} (h : CellsAt B wr v cs gs) (hb : Below wr.heap.size wr w') : CellsAt B w' v cs gs := by
  refine ⟨?_, h.len, fun i hi => ?_, fun g hg => ?_, h.nodup⟩
  · refine ⟨h.row.1, ?_⟩
    rcases h.row.2 with hn | ⟨g, cap, cur, e, hbg, hg, rest⟩
    · exact .inl hn
    · exact .inr ⟨g, cap, cur, e, hbg, (hb.block g (Array.getElem?_eq_some_iff.1 hg).1).trans hg, rest⟩
  · obtain ⟨g, h1, h2⟩ := h.blk i hi
    exact ⟨g, h1, (hb.block g (Array.getElem?_eq_some_iff.1 h2).1).trans h2⟩
  · have := h.new g hg
    have := hb.size
    omega

theorem zip_snoc (gs : List Nat) (cs : List PBytes) (h : gs.length = cs.length) (g : Nat) (c : PBytes) : List.zipWith cval (gs ++ [g]) (cs ++ [c]) = List.zipWith cval gs cs ++ [cval g c] := by
  rw [List.zipWith_append h]
  rfl

/-- one cell more -/
theorem CellsAt.push {B : Nat} {wr : World} {v : Value} {cs : List PBytes} {gs : List Nat} {ty : TypeId} (h : CellsAt B wr v cs gs) (hB : B ≤ wr.heap.size) (hn : cs.length < 1000000) (c : PBytes) :
    ∃ v' w', (Builtin.append_ #[28, 28] ty #[v, .slice (some ⟨wr.heap.size + 1, 0, none⟩) 1 1]).run Try.prog ((wr.alloc (bobj c)).alloc (.cells #[cval wr.heap.size c] 22)) = .ok v' w' ∧
      CellsAt B w' v' (cs ++ [c]) (gs ++ [wr.heap.size]) ∧ (∃ g cp, v' = .slice (some ⟨g, 0, none⟩) (cs.length + 1) cp) ∧
      wr.heap.size ≤ w'.heap.size ∧ w'.os = wr.os ∧ w'.tape = wr.tape ∧ w'.output = wr.output ∧ (∀ k, k < wr.heap.size → (∀ cur, wr.heap[k]? ≠ some (.cells cur 22 (0, 0))) → w'.heap[k]? = wr.heap[k]?) ∧ Below B wr w' := by
  have h1 := h.below (w' := wr.alloc (bobj c)) ((Below.refl _ _).alloc (Nat.le_refl _) _)
  have hzl : (List.zipWith cval gs cs).length = cs.length := by rw [List.length_zipWith, h.len, Nat.min_self]
  obtain ⟨v', w', hr, h2, h3, h4, g', cp, h5⟩ := append_one (ty := ty) (x := cval wr.heap.size c) (by rfl) h1.row (by rw [hzl]; exact hn) (by simp; omega)
  rw [World.size_alloc] at hr
  have hrow : ∀ k cur, v.ownBlock = some k → wr.heap[k]? = some cur → ∃ cc, cur = .cells cc 22 (0, 0) := by
    intro k cur hk hc
    obtain ⟨cc, hcc⟩ := (show ∃ cc, wr.heap[k]? = some (.cells cc 22 (0, 0)) from by
      rcases h.row.2 with ⟨rfl, _⟩ | ⟨g, cap, cc, rfl, _, hg, _⟩
      · simp [Value.ownBlock] at hk
      · simp only [Value.ownBlock, Option.some.injEq] at hk
        subst hk
        exact ⟨cc, hg⟩)
    rw [hcc] at hc
    injection hc with hc
    exact ⟨cc, hc.symm⟩
  have hne : ∀ g o, wr.heap[g]? = some o → (∀ cc, o ≠ .cells cc 22 (0, 0)) → some g ≠ v.ownBlock := by
    intro g o hg ho he
    obtain ⟨cc, hcc⟩ := hrow g o he.symm hg
    exact ho cc hcc
  have hbt : ∀ b : PBytes, ∀ cc, bobj b ≠ .cells cc 22 (0, 0) := by
    intro b cc hh
    unfold bobj at hh
    injection hh with _ hh _
    exact absurd hh (by decide)
  have hsz : wr.heap.size + 2 ≤ w'.heap.size := by have := h3.size; simp at this; omega
  have hrl : ∀ k, v.ownBlock = some k → k < wr.heap.size := fun k hk => (h.row.lt k hk).2
  have hkeep : ∀ k, k < wr.heap.size → some k ≠ v.ownBlock → w'.heap[k]? = wr.heap[k]? := by
    intro k hk hkr
    rw [h3.block k (by simp; omega) hkr, heap_alloc_old _ _ (by simp; omega), heap_alloc_old _ _ hk]
  refine ⟨v', w', hr, ⟨by rw [zip_snoc _ _ h.len]; exact h2, by simp [h.len], fun i hi => ?_, fun g hg => ?_, ?_⟩, ⟨g', cp, by rw [h5, hzl]⟩, by omega, ?_, ?_, ?_, fun k hk hh => ?_, ?_⟩
  · rw [List.length_append, List.length_singleton] at hi
    by_cases hic : i < cs.length
    · obtain ⟨g, hg1, hg2⟩ := h.blk i hic
      have hgl := (Array.getElem?_eq_some_iff.1 hg2).1
      refine ⟨g, by rw [List.getElem?_append_left (by rw [h.len]; exact hic)]; exact hg1, ?_⟩
      rw [hkeep g hgl (hne g _ hg2 (hbt _)), List.getElem_append_left hic]
      exact hg2
    · obtain rfl : i = cs.length := by omega
      refine ⟨wr.heap.size, by rw [List.getElem?_append_right (by rw [h.len]; exact Nat.le_refl _), h.len]; simp, ?_⟩
      rw [h3.block _ (by simp; omega) (fun he => by have := hrl _ he.symm; omega), heap_alloc_old _ _ (by simp), List.getElem_append_right (Nat.le_refl _)]
      simp only [Nat.sub_self, List.getElem_cons_zero]
      exact heap_alloc_new wr _
  · rw [List.mem_append, List.mem_singleton] at hg
    rcases hg with hg | rfl
    · have := h.new g hg; omega
    · omega
  · rw [List.nodup_append]
    refine ⟨h.nodup, by simp, ?_⟩
    intro a ha b hb
    rw [List.mem_singleton] at hb
    have := h.new a ha
    omega
  · exact h3.os
  · exact h3.tape
  · exact h3.output
  · refine hkeep k hk (fun he => ?_)
    have hlt := hk
    obtain ⟨o, ho⟩ : ∃ o, wr.heap[k]? = some o := ⟨_, Array.getElem?_eq_getElem hk⟩
    obtain ⟨cc, hcc⟩ := hrow k o he.symm ho
    exact hh cc (by rw [ho, hcc])
  · exact (((Below.refl _ _).alloc hB _).alloc (by simp; omega) _).grown h3 (by simp; omega) (fun k hk => (h.row.lt k hk).1)

def cellsP (p : PBytes) (k : Nat) : List PBytes := (List.range k).map (cellP p)
theorem cellsP_length (p : PBytes) (k : Nat) : (cellsP p k).length = k := by simp [cellsP]
theorem cellsP_succ (p : PBytes) (k : Nat) : cellsP p (k + 1) = cellsP p k ++ [cellP p k] := by simp [cellsP, List.range_succ]

theorem cells_no {F : Foot} (w : World) (v : Value) (p : List UInt8) (hv : RdB F w v p) (hg : ¬ GoodP p) : Calls Try.prog 14 #[v] w (PageNo w 4) := by
  have hgo := pof_no w v p hv hg
  obtain ⟨a, n, c, rfl, HN, -, -⟩ := hv.formN
  have HG := Lib.hid hgo
  clear hgo hv hg HN
  go_enter Try.func14, Try.ntmps14
  go_wp2_with fail
  refine HG.out.mono ?_
  rintro e w2 ⟨rfl, hb⟩
  have HB := Lib.hid hb
  clear hb
  go_wp2
  go_ret2
  exact ⟨rfl, HB.out.alloc HB.out.size _⟩

/-- a round of Cells -/
structure CellsR (w0 wr : World) (b : Nat) (vs v : Value) (cs : List PBytes) (gs : List Nat) : Prop where
  bl : Below w0.heap.size w0 wr
  box : wr.heap[b]? = some (.cells #[vs] 65 (0, 0))
  at_ : CellsAt w0.heap.size wr v cs gs
theorem CellsR.below {w0 wr w' : World} {b : Nat} {vs v : Value} {cs : List PBytes} {gs : List Nat} (h : CellsR w0 wr b vs v cs gs) (hb : Below wr.heap.size wr w') : CellsR w0 w' b vs v cs gs :=
  ⟨h.bl.trans (hb.mono h.bl.size), one_below h.box hb, h.at_.below hb⟩

set_option maxHeartbeats 1000000 in
theorem cells_yes {F : Foot} (w : World) (v : Value) (p : List UInt8) (hv : RdB F w v p) (hg : GoodP p) :
    Calls Try.prog 14 #[v] w fun e w' => ∃ u gs, e = .returned (.tuple #[u, .int .i64 0]) ∧ CellsAt w.heap.size w' u (cellsP p (cnt p)) gs ∧ Below w.heap.size w w' := by
  have hgo := pof_yes w v p hv hg
  have HV := Lib.hid hv
  have HP := Lib.hid hg
  obtain ⟨a, n, c, rfl, HN, -, -⟩ := hv.formN
  have hmb : cnt p ≤ 121 := by have := hg.fit; have := hg.low; omega
  obtain ⟨m, hm⟩ : ∃ m, cnt p = m := ⟨_, rfl⟩
  rw [hm] at hmb ⊢
  have HM := Lib.hid hm
  have HG := Lib.hid hgo
  clear hgo hv hg HN hm
  go_enter Try.func14, Try.ntmps14
  go_wp2_with fail
  refine HG.out.mono ?_
  rintro e w2 ⟨rfl, hb⟩
  have hB3 : Below w.heap.size w (w2.alloc (.cells #[.slice a n c] 65)) := hb.alloc hb.size _
  have hx3 := heap_alloc_new w2 (.cells #[.slice a n c] 65)
  have hc3 := one_cell hx3
  have hcn := count_any _ _ p (RdB.below HV.out hB3) HP.out.len
  rw [HM.out] at hcn
  have HC := Lib.hid hcn
  have HX3 := Lib.hid (And.intro hB3 hx3)
  clear hb hB3 hx3 hcn
  go_wp2_with fail
  refine HC.out.mono ?_
  rintro e w4 ⟨rfl, hb4⟩
  have hx4 := one_below HX3.out.2 hb4
  have hB4 := HX3.out.1.trans (hb4.mono HX3.out.1.size)
  obtain ⟨w5, hmk, ho5, hb5, hs5⟩ := make_row m (by omega) w4
  have hx5 := one_below hx4 hb5
  have hB5 := hB4.trans (hb5.mono hB4.size)
  have hc5 := one_cell hx5
  have hcn5 := count_any _ _ p (RdB.below HV.out hB5) HP.out.len
  rw [HM.out] at hcn5
  have ho5' : CellsAt w.heap.size w5 (.slice (some ⟨w4.heap.size, 0, none⟩) 0 m) [] [] :=
    ⟨⟨rfl, by
      rcases ho5.2 with ⟨h, _⟩ | ⟨g, cap, cur, e, hbg, rest⟩
      · cases h
      · exact .inr ⟨g, cap, cur, e, Nat.le_trans hB4.size hbg, rest⟩⟩, rfl, fun i h => by simp at h, fun g h => by simp at h, by simp⟩
  have HR5 := Lib.hid (CellsR.mk hB5 hx5 ho5')
  have HC5 := Lib.hid hcn5
  clear hc3 hx4 hb4 hB4 ho5 hb5 hs5 hx5 hB5 hcn5 ho5'
  go_wp2_with fail
  refine HC5.out.mono ?_
  rintro e w6 ⟨rfl, hb6⟩
  have HR6 := Lib.hid (HR5.out.below hb6)
  clear hb6 hc5 hmk
  go_wp2
  go_loopw [6, 21] (fun u i wr => ∃ (k : Nat) (gs : List Nat), k ≤ m ∧ i = .int .i64 (k : Int) ∧ (∃ g cp, u = .slice (some ⟨g, 0, none⟩) k cp) ∧ CellsR w wr w2.heap.size (.slice a n c) u (cellsP p k) gs) (fun _ i _ => m - (intOf i).toNat)
  case atStart => exact ⟨0, [], by omega, rfl, ⟨_, _, rfl⟩, HR6.out⟩
  case round =>
    obtain ⟨k, gs, hk, rfl, ⟨g, cp, rfl⟩, hR⟩ := hrel
    rcases Nat.lt_or_eq_of_le hk with hlt | heq
    · have hcl := cell_any wr _ p k (RdB.below HV.out hR.bl) HP.out.len (by omega) (HP.out.cell k (by rw [HM.out]; exact hlt)).2
      have hxr := one_cell hR.box
      have hki : (k : Int) < (m : Int) := by omega
      have HR := Lib.hid (And.intro hR hlt)
      have HCL := Lib.hid hcl
      clear hR hcl hlt hk
      go_wp2_with fail
      refine HCL.out.mono ?_
      rintro e w7 ⟨v7, rfl, hv7, hb7⟩
      have hv77 := RdB.below hv7 hb7
      obtain ⟨a7, n7, c7, rfl, HN7, -, -⟩ := hv7.formN
      have HR7 := Lib.hid (HR.out.1.below hb7)
      have HV7 := Lib.hid hv77
      have hle : (cellP p k).length ≤ 140737488355328 := by unfold cellP; rw [List.length_take, List.length_drop]; have := HP.out.len; omega
      have HLE := Lib.hid hle
      clear hb7 hv7 hv77 hxr hle
      go_wp2_with fail
      refine (clone5 _ _ (cellP p k) HV7.out HLE.out).mono ?_
      rintro e w8 ⟨rfl, hw8⟩
      have hs8 : w8.heap.size = w7.heap.size + 1 := by rw [← hw8, World.size_alloc]
      obtain ⟨v', w', hr, h1, ⟨g', cp', h2⟩, -, -, -, -, h3, h4⟩ := HR7.out.at_.push (ty := 28) HR7.out.bl.size (by rw [cellsP_length]; have := HR.out.2; omega) (cellP p k)
      rw [hw8] at hr
      rw [cellsP_length] at h2
      subst h2
      have HR9 : Hid (CellsR w w' w2.heap.size (.slice a n c) (.slice (some ⟨g', 0, none⟩) (k + 1) cp') (cellsP p (k + 1)) (gs ++ [w7.heap.size])) := by
        have hx := HR7.out.box
        refine ⟨HR7.out.bl.trans h4, (h3 _ (Array.getElem?_eq_some_iff.1 hx).1 (fun cur hh => ?_)).trans hx, by rw [cellsP_succ]; exact h1⟩
        rw [hx] at hh
        injection hh with hh
        injection hh with _ hh _
        exact absurd hh (by decide)
      obtain ⟨L, hL⟩ : ∃ L, (cellP p k).length = L := ⟨_, rfl⟩
      unfold cval at hr
      rw [hL] at hr
      have HRR := Lib.hid hr
      rw [hL]
      clear hr h1 h3 h4 hw8
      go_wp2_with ((at_builtin; refine wpList_append_eq rfl rfl HRR.out rfl rfl ?_; clear HRR))
      go_roundw
      case rel => exact ⟨k + 1, _, by have := HR.out.2; omega, by go_num, ⟨_, _, rfl⟩, HR9.out⟩
      case measure => have := HR.out.2; simp [intOf]; omega
    · subst heq
      have HR := Lib.hid hR
      clear hR hk
      go_wp2
      go_ret2
      exact ⟨_, gs, rfl, HR.out.at_, HR.out.bl⟩
end Mun
