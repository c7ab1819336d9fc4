/- Free, over a whole table. -/
import Derived.Test.YtbdkhegfmnladaaMgJ
set_option maxRecDepth 100000
set_option linter.unusedVariables false
set_option linter.unusedSimpArgs false
namespace Mun
open Go Go.RowKit
open Go.Proofs

set_option maxHeartbeats 4000000 in
theorem free_any {w : World} {t : TV} {A : AS} (h : TabR w t) (hr : RepA t A) {c : Nat} (hsz : SzOk t c) (hc : c ≤ 8796093022199) (hqn : ∀ s, ((A.Q s).map (·.1)).Nodup) (o : Int) :
    Calls Try.prog 19 #[.pointer (some ⟨t.T, 0, none⟩), .int .u64 o] w (FreePost w t A o c) := by
  obtain ⟨wA, hwA⟩ : ∃ wA, w.alloc (.cells #[.int .u64 o] 29) = wA := ⟨_, rfl⟩
  obtain ⟨b0, hb0⟩ : ∃ b0, w.heap.size = b0 := ⟨_, rfl⟩
  have hA : FrA w t b0 o wA t := by
    have hb : Below w.heap.size w wA := by rw [← hwA]; exact (Below.refl _ _).alloc (Nat.le_refl _) _
    exact ⟨(Stp.refl h).below hb, by rw [← hwA, ← hb0]; exact heap_alloc_new w _, h.nfoot_new (by omega)⟩
  have c1 := hA.cT 1 _ rfl
  have c2 := hA.cT 2 _ rfl
  have cb := hA.cO
  have hhl : glook (nmV t.nm) o = (klook t.nm o).map (fun y => Value.map (some y.1)) := glook_map (fun y : Nat × List ByteArray => Value.map (some y.1)) t.nm o
  have hlk : ∀ n, (Instr.lookup 64 (.map (some t.N)) (.int .u64 o) false).run Try.prog (wA.drewN n) = .ok (.map ((klook t.nm o).map (·.1))) (wA.drewN n) := fun n => by
    have h9 := gmap_lookup1 (P := Try.prog) Try.underlying64 Try.underlying29 (z80 (wA.drewN n)) (hA.below (below_drewN (Below.refl _ _) n)).stp.rep.tab.nm o
    rw [hhl] at h9
    cases hk : klook t.nm o with
    | none => rw [hk] at h9; exact h9
    | some y => rw [hk] at h9; exact h9
  obtain ⟨mb, hmb⟩ : ∃ mb, (klook t.nm o).map (·.1) = mb := ⟨_, rfl⟩
  rw [hmb] at hlk
  have HA := Lib.hid hA
  have HR := Lib.hid (And.intro h (And.intro hr hmb))
  have HSZ := Lib.hid hsz
  have HC := Lib.hid (And.intro hc hqn)
  have hb0' := hb0
  clear hA hhl h hr hmb hsz hc hqn
  go_enter Try.func19, Try.ntmps19
  go_upto_region 1 with (fail)
  clear hwA
  go_quiet (fail)
  obtain ⟨wB, hwB⟩ : ∃ wB, wA.drewN nq = wB := ⟨_, rfl⟩
  have HB : Hid (FrA w t b0 o wB t) := by
    show FrA _ _ _ _ _ _
    rw [← hwB]; exact HA.out.below (below_drewN (Below.refl _ _) nq)
  rw [hwB]
  clear hwB hlk c1 c2 cb HA
  obtain ⟨nb, hnb⟩ : ∃ nb : Bool, mb.isNone = nb := ⟨_, rfl⟩
  have hnil : (binOp .eql 80 (.map mb) (.map none)).run Try.prog wB = .ok (.bool nb) wB := by
    rw [← hnb]
    cases mb with
    | none => exact nilM wB
    | some M => exact nil80s M wB
  go_upto_if 24 with (fail)
  clear hnil
  go_cut [5] (fun v5 wx => ∃ (M : Nat) (es : List ByteArray), v5 = .map (some M) ∧ FrA w t b0 o wx t ∧ GMap wx M (setV es) ∧ ((∃ j : Nat, t.nm[j]? = some (o, (M, es))) ∨ (klook t.nm o = none ∧ es = [] ∧ ¬ tfoot t M ∧ w.heap.size ≤ M)))
  case first =>
    cases mb with
    | none =>
      obtain rfl : nb = true := hnb.symm
      have hmm := run_makeMap (P := Try.prog) 80
      have hkn : Hid (klook t.nm o = none) := by
        show _ = _
        have h9 := HR.out.2.2
        cases hk : klook t.nm o with
        | none => rfl
        | some y => rw [hk] at h9; cases h9
      go_wp2
      go_meet
      exact ⟨wB.heap.size, [], rfl, HB.out.below ((Below.refl _ _).alloc (Nat.le_refl _) _), gmap_new (α := ByteArray) wB, .inr ⟨hkn.out, rfl, HB.out.stp.rep.nfoot_new (Nat.le_refl _), HB.out.stp.chg.size⟩⟩
    | some M =>
      obtain rfl : nb = false := hnb.symm
      go_wp2
      go_meet
      have h9 := HR.out.2.2
      cases hk : klook t.nm o with
      | none => rw [hk] at h9; cases h9
      | some y =>
        rw [hk] at h9
        injection h9 with h9
        obtain ⟨j, hj, -⟩ := klook_set hk
        exact ⟨M, y.2, rfl, HB.out, by rw [← h9]; exact HB.out.stp.rep.nms j _ hj, .inl ⟨j, by rw [← h9]; exact hj⟩⟩
  case rest =>
    obtain ⟨M, es, rfl, hfr, hgm, hsrc⟩ := hcut
    obtain ⟨wx, hwx⟩ : ∃ wx, wc = wx := ⟨_, rfl⟩
    rw [hwx] at hfr hgm ⊢
    clear hwx HB
    -- where the owner waits
    obtain ⟨gs, gm, gw, hl2, hgw⟩ : ∃ (gs : ByteArray) (gm : Int) (gw : Bool), (∀ W : World, TabR W t → (Instr.lookup 63 (.map (some t.W)) (.int .u64 o) true).run Try.prog W = .ok (.tuple #[.agg #[.string gs, .int .i64 gm], .bool gw]) W) ∧
        ((gw = true ∧ klook t.ws o = some (gs, gm)) ∨ (gw = false ∧ klook t.ws o = none)) := by
      have hhl : glook (wsV t.ws) o = (klook t.ws o).map (fun y => Value.agg #[.string y.1, .int .i64 y.2]) := glook_map (fun y : ByteArray × Int => Value.agg #[.string y.1, .int .i64 y.2]) t.ws o
      cases hk : klook t.ws o with
      | none =>
        refine ⟨⟨#[]⟩, 0, false, fun W hW => ?_, .inr ⟨rfl, rfl⟩⟩
        have h9 := gmap_lookup (P := Try.prog) Try.underlying63 Try.underlying29 (z33 W) hW.tab.wt o
        rw [hhl, hk] at h9
        exact h9
      | some y =>
        refine ⟨y.1, y.2, true, fun W hW => ?_, .inl ⟨rfl, rfl⟩⟩
        have h9 := gmap_lookup (P := Try.prog) Try.underlying63 Try.underlying29 (z33 W) hW.tab.wt o
        rw [hhl, hk] at h9
        exact h9
    obtain ⟨sz, hsz⟩ : ∃ sz, wx.heap.size = sz := ⟨_, rfl⟩
    obtain ⟨wC, hwC⟩ : ∃ wC, (wx.alloc (.cells #[.string ⟨#[]⟩, .int .i64 0] 33)).drew = wC := ⟨_, rfl⟩
    have hbC : Below wx.heap.size wx wC := by rw [← hwC]; exact below_drewN ((Below.refl _ _).alloc (Nat.le_refl _) _) 1
    have kC : wC.heap[sz]? = some (.cells #[.string ⟨#[]⟩, .int .i64 0] 33 (0, 0)) := by rw [← hwC, ← hsz]; exact heap_alloc_new wx _
    obtain ⟨wD, hwD⟩ : ∃ wD, wC.setRow sz #[.string gs, .int .i64 gm] = wD := ⟨_, rfl⟩
    have kD : wD.heap[sz]? = some (.cells #[.string gs, .int .i64 gm] 33 (0, 0)) := by rw [← hwD]; exact setRow_heap wC sz _ _ _ _ kC
    have hbD : Below wx.heap.size wx wD := by
      rw [← hwD]
      exact ⟨hbC.os, hbC.tape, hbC.output, by simp only [World.setRow, Array.size_modify]; exact hbC.size, fun k hk => by rw [setRow_otherL _ _ _ _ (by omega)]; exact hbC.block k hk⟩
    have hfD := hfr.below hbD
    have hgD : GMap wD M (setV es) := hgm.keep (hbD.block _ hgm.lt)
    have hS0 : wx.drew.cell? ⟨t.T, 1, none⟩ = some (.map (some t.W)) ∧ wx.drew.cell? ⟨b0, 0, none⟩ = some (.int .u64 o) ∧ (Instr.lookup 63 (.map (some t.W)) (.int .u64 o) true).run Try.prog wx.drew = .ok (.tuple #[.agg #[.string gs, .int .i64 gm], .bool gw]) wx.drew :=
      ⟨hfr.drew.cT 1 _ rfl, hfr.drew.cO, hl2 _ hfr.drew.stp.rep⟩
    have hS1 : wC.cell? ⟨t.T, 1, none⟩ = some (.map (some t.W)) ∧ wC.cell? ⟨b0, 0, none⟩ = some (.int .u64 o) ∧ (Instr.lookup 63 (.map (some t.W)) (.int .u64 o) true).run Try.prog wC = .ok (.tuple #[.agg #[.string gs, .int .i64 gm], .bool gw]) wC :=
      ⟨(hfr.below hbC).cT 1 _ rfl, (hfr.below hbC).cO, hl2 _ (hfr.below hbC).stp.rep⟩
    have hS2 : wD.cell? ⟨t.T, 1, none⟩ = some (.map (some t.W)) ∧ wD.cell? ⟨b0, 0, none⟩ = some (.int .u64 o) ∧ (Instr.lookup 63 (.map (some t.W)) (.int .u64 o) true).run Try.prog wD = .ok (.tuple #[.agg #[.string gs, .int .i64 gm], .bool gw]) wD :=
      ⟨hfD.cT 1 _ rfl, hfD.cO, hl2 _ hfD.stp.rep⟩
    have HX := Lib.hid (And.intro hfD (And.intro hgD (And.intro hsrc hgw)))
    have HKC := Lib.hid kC
    have hg0 : wD.cell? ⟨sz, 0, none⟩ = some (.string gs) := cell_of_row wD sz 0 _ _ _ kD
    clear hfr hgm hsrc hl2 hgw hbC kC kD hbD hfD hgD
    go_upto_region 4 with (fail)
    refine wp_region_U (fun W => W.cell? ⟨t.T, 1, none⟩ = some (.map (some t.W)) ∧ W.cell? ⟨b0, 0, none⟩ = some (.int .u64 o) ∧ (Instr.lookup 63 (.map (some t.W)) (.int .u64 o) true).run Try.prog W = .ok (.tuple #[.agg #[.string gs, .int .i64 gm], .bool gw]) W) [] (by kernel_rfl) ?_
    refine wpAnyU_take (i := 0) [1, 2, 3, 5, 6, 7, 8, 10, 11] rfl (by as_aux_lemma => kernel_rfl) (by as_aux_lemma => kernel_rfl) (by as_aux_lemma => kernel_rfl) (by as_aux_lemma => kernel_rfl) (by as_aux_lemma => kernel_rfl) (by as_aux_lemma => kernel_rfl) (fun _ _ _ h => h) (Or.inl ⟨by rfl, (by intro W hSW; (try dsimp only at hSW); (try go_split_ands); go_simp <;> with_reducible rfl)⟩) hS0 ?_
    try simp only [Act.put, List.getElem_toArray, List.getElem_cons_succ, List.getElem_cons_zero, List.setIfInBounds_toArray, List.set_cons_zero, List.set_cons_succ]
    refine wpAnyU_take (i := 1) [2, 3, 5, 6, 7, 8, 10, 11] rfl (by as_aux_lemma => kernel_rfl) (by as_aux_lemma => kernel_rfl) (by as_aux_lemma => kernel_rfl) (by as_aux_lemma => kernel_rfl) (by as_aux_lemma => kernel_rfl) (by as_aux_lemma => kernel_rfl) (fun _ _ _ h => h) (Or.inl ⟨by rfl, (by intro W hSW; (try dsimp only at hSW); (try go_split_ands); go_simp <;> with_reducible rfl)⟩) hS0 ?_
    try simp only [Act.put, List.getElem_toArray, List.getElem_cons_succ, List.getElem_cons_zero, List.setIfInBounds_toArray, List.set_cons_zero, List.set_cons_succ]
    refine wpAnyU_take (i := 2) [3, 5, 6, 7, 8, 10, 11] rfl (by as_aux_lemma => kernel_rfl) (by as_aux_lemma => kernel_rfl) (by as_aux_lemma => kernel_rfl) (by as_aux_lemma => kernel_rfl) (by as_aux_lemma => kernel_rfl) (by as_aux_lemma => kernel_rfl) (fun _ _ _ h => h) (Or.inl ⟨by rfl, (by intro W hSW; (try dsimp only at hSW); (try go_split_ands); go_simp <;> with_reducible rfl)⟩) hS0 ?_
    try simp only [Act.put, List.getElem_toArray, List.getElem_cons_succ, List.getElem_cons_zero, List.setIfInBounds_toArray, List.set_cons_zero, List.set_cons_succ]
    refine wpAnyU_take (i := 3) [5, 6, 7, 8, 10, 11] rfl (by as_aux_lemma => kernel_rfl) (by as_aux_lemma => kernel_rfl) (by as_aux_lemma => kernel_rfl) (by as_aux_lemma => kernel_rfl) (by as_aux_lemma => kernel_rfl) (by as_aux_lemma => kernel_rfl) (fun _ _ _ h => h) (Or.inl ⟨by rfl, (by intro W hSW; (try dsimp only at hSW); (try go_split_ands); go_simp <;> with_reducible rfl)⟩) hS0 ?_
    try simp only [Act.put, List.getElem_toArray, List.getElem_cons_succ, List.getElem_cons_zero, List.setIfInBounds_toArray, List.set_cons_zero, List.set_cons_succ]
    refine wpAnyU_take (i := 4) [5, 6, 7, 8, 10, 11] rfl (by as_aux_lemma => kernel_rfl) (by as_aux_lemma => kernel_rfl) (by as_aux_lemma => kernel_rfl) (by as_aux_lemma => kernel_rfl) (by as_aux_lemma => kernel_rfl) (by as_aux_lemma => kernel_rfl) (fun _ _ _ h => h) (Or.inl ⟨by rfl, (by intro W hSW; (try dsimp only at hSW); (try go_split_ands); go_simp <;> with_reducible rfl)⟩) hS0 ?_
    try simp only [Act.put, List.getElem_toArray, List.getElem_cons_succ, List.getElem_cons_zero, List.setIfInBounds_toArray, List.set_cons_zero, List.set_cons_succ]
    refine wpAnyU_take (i := 5) [6, 7, 8, 10, 11] rfl (by as_aux_lemma => kernel_rfl) (by as_aux_lemma => kernel_rfl) (by as_aux_lemma => kernel_rfl) (by as_aux_lemma => kernel_rfl) (by as_aux_lemma => kernel_rfl) (by as_aux_lemma => kernel_rfl) (fun _ _ _ h => h) (Or.inl ⟨by rfl, (by intro W hSW; (try dsimp only at hSW); (try go_split_ands); go_simp <;> with_reducible rfl)⟩) hS0 ?_
    try simp only [Act.put, List.getElem_toArray, List.getElem_cons_succ, List.getElem_cons_zero, List.setIfInBounds_toArray, List.set_cons_zero, List.set_cons_succ]
    refine wpAnyU_take (i := 6) [7, 8, 10, 11] rfl (by as_aux_lemma => kernel_rfl) (by as_aux_lemma => kernel_rfl) (by as_aux_lemma => kernel_rfl) (by as_aux_lemma => kernel_rfl) (by as_aux_lemma => kernel_rfl) (by as_aux_lemma => kernel_rfl) (fun _ _ _ h => h) (Or.inl ⟨by rfl, (by intro W hSW; (try dsimp only at hSW); (try go_split_ands); go_simp <;> with_reducible rfl)⟩) hS0 ?_
    try simp only [Act.put, List.getElem_toArray, List.getElem_cons_succ, List.getElem_cons_zero, List.setIfInBounds_toArray, List.set_cons_zero, List.set_cons_succ]
    refine wpAnyU_take (i := 7) [10, 11] rfl (by as_aux_lemma => kernel_rfl) (by as_aux_lemma => kernel_rfl) (by as_aux_lemma => kernel_rfl) (by as_aux_lemma => kernel_rfl) (by as_aux_lemma => kernel_rfl) (by as_aux_lemma => kernel_rfl) (fun _ _ _ h => h) (Or.inl ⟨by rfl, (by intro W hSW; (try dsimp only at hSW); (try go_split_ands); go_simp <;> with_reducible rfl)⟩) hS0 ?_
    try simp only [Act.put, List.getElem_toArray, List.getElem_cons_succ, List.getElem_cons_zero, List.setIfInBounds_toArray, List.set_cons_zero, List.set_cons_succ]
    refine wpAnyU_take (i := 8) [11] rfl (by as_aux_lemma => kernel_rfl) (by as_aux_lemma => kernel_rfl) (by as_aux_lemma => kernel_rfl) (by as_aux_lemma => kernel_rfl) (by as_aux_lemma => kernel_rfl) (by as_aux_lemma => kernel_rfl) (fun _ _ _ h => h) (Or.inl ⟨by rfl, (by intro W hSW; (try dsimp only at hSW); (try go_split_ands); go_simp <;> with_reducible rfl)⟩) hS0 ?_
    try simp only [Act.put, List.getElem_toArray, List.getElem_cons_succ, List.getElem_cons_zero, List.setIfInBounds_toArray, List.set_cons_zero, List.set_cons_succ]
    refine wpAnyU_one (i := 9) (by kernel_rfl) rfl (fun K hK => ?_)
    go_simp
    try rw [hwC]
    refine hK.out _ _ (fun _ => hS1) (fun _ => ?_)
    clear hK K
    try simp only [Act.put, List.getElem_toArray, List.getElem_cons_succ, List.getElem_cons_zero, List.setIfInBounds_toArray, List.set_cons_zero, List.set_cons_succ]
    refine wpAnyU_one (i := 10) (by kernel_rfl) rfl (fun K hK => ?_)
    refine step_store_is2 rfl _ _ _ rfl sz #[.string gs, .int .i64 gm] (by simp [Act.eval, Act.put, hsz]) (by simp [Act.eval, Act.put]) _ _ HKC.out infoG rfl (by simp [Value.oneCell']) ?_
    rw [hwD]
    refine hK.out _ _ (fun _ => hS2) (fun _ => ?_)
    clear hK K
    try simp only [Act.put, List.getElem_toArray, List.getElem_cons_succ, List.getElem_cons_zero, List.setIfInBounds_toArray, List.set_cons_zero, List.set_cons_succ]
    refine wpAnyU_take (i := 11) [] rfl (by as_aux_lemma => kernel_rfl) (by as_aux_lemma => kernel_rfl) (by as_aux_lemma => kernel_rfl) (by as_aux_lemma => kernel_rfl) (by as_aux_lemma => kernel_rfl) (by as_aux_lemma => kernel_rfl) (fun _ _ _ h => h) (Or.inl ⟨by rfl, (by intro W hSW; (try dsimp only at hSW); (try go_split_ands); go_simp <;> with_reducible rfl)⟩) hS2 ?_
    try simp only [Act.put, List.getElem_toArray, List.getElem_cons_succ, List.getElem_cons_zero, List.setIfInBounds_toArray, List.set_cons_zero, List.set_cons_succ]
    refine wpAnyU_done (by kernel_rfl) ?_ _
    clear hS0 hS1 hS2 hwC hwD HKC
    go_upto_if 35 with (fail)
    go_cut [5] (fun v5 wx => ∃ (M : Nat) (es : List ByteArray) (t1 : TV), v5 = .map (some M) ∧ FrB w t A b0 o wx t1 M es)
    case first =>
      have hne : Hid (M ≠ t.N ∧ M ≠ t.W) := by
        show _ ∧ _
        rcases HX.out.2.2.1 with ⟨j, hj⟩ | ⟨-, -, hnf, -⟩
        · obtain ⟨d1, d2, d3⟩ := HR.out.1.dM j _ hj
          exact ⟨d3, d2⟩
        · exact ⟨fun e => hnf (.inr (.inr (.inr (.inl e)))), fun e => hnf (.inr (.inr (.inl e)))⟩
      have hes : Hid (∀ s, s ∈ es ↔ A.H s o ≠ none) := by
        show ∀ _, _
        intro s
        have h9 := HR.out.2.1.nm o s
        unfold nmGet at h9
        rcases HX.out.2.2.1 with ⟨j, hj⟩ | ⟨hk, he, -, -⟩
        · rw [klook_mem HR.out.1.nmNodup (List.mem_of_getElem? hj)] at h9
          exact h9
        · rw [hk] at h9
          rw [he]
          exact h9
      cases gw with
      | false =>
        go_wp2
        go_meet
        have hwn : klook t.ws o = none := by
          rcases HX.out.2.2.2 with ⟨h9, -⟩ | ⟨-, h9⟩
          · cases h9
          · exact h9
        refine ⟨M, es, t, rfl, HX.out.1, HX.out.2.1, hne.out, ⟨_, HR.out.2.1, fun u s _ => Iff.rfl⟩, fun s => ?_, rfl, rfl⟩
        rw [hes.out s]
        unfold AS.touched
        refine ⟨.inl, fun h9 => h9.elim id (fun ⟨m, hm⟩ => ?_)⟩
        have h8 := (HR.out.2.1.ws o s m).2 hm
        rw [hwn] at h8
        cases h8
      | true =>
        have hwn : klook t.ws o = some (gs, gm) := by
          rcases HX.out.2.2.2 with ⟨-, h9⟩ | ⟨h9, -⟩
          · exact h9
          · cases h9
        obtain ⟨ob, huM, hgM⟩ := gmap_update (P := Try.prog) Try.underlying80 Try.underlying9 HX.out.2.1 gs (.agg #[])
        change (Instr.mapUpdate 80 (.map (some M)) (.string gs) (.agg #[])).run Try.prog wD = _ at huM
        rw [gset_setV] at hgM
        have hfin : ∃ t1, FrB w t A b0 o (setObjW wD M ob) t1 M (sadd es gs) := by
          have hes2 : ∀ s, s ∈ sadd es gs ↔ A.touched o s := fun s => by
            rw [mem_sadd, hes.out s]
            unfold AS.touched
            refine ⟨fun h9 => h9.elim .inl (fun h8 => .inr ⟨gm, by rw [h8]; exact (HR.out.2.1.ws o gs gm).1 hwn⟩), fun h9 => h9.elim .inl (fun ⟨m, hm⟩ => .inr ?_)⟩
            have h8 := (HR.out.2.1.ws o s m).2 hm
            rw [hwn] at h8
            injection h8 with h8
            injection h8 with h8 _
            exact h8.symm
          rcases HX.out.2.2.1 with ⟨j, hj⟩ | ⟨hk, he, hnf, hlo⟩
          · refine ⟨{ t with nm := t.nm.set j (o, (M, sadd es gs)) }, HX.out.1.step (HX.out.1.stp.rep.names_r hj hgM), hgM, hne.out, ⟨_, HR.out.2.1.names HR.out.1.nmNodup hj _, fun u s hu => by rw [if_neg hu]⟩, hes2, rfl, rfl⟩
          · have hst : Stp w t (setObjW wD M ob) t := HX.out.1.stp.other (by rw [setObjW_size]; exact Nat.le_refl _) rfl rfl rfl hnf hlo (fun k _ hk => setObjW_other _ _ _ _ hk)
            exact ⟨t, ⟨hst, (setObjW_other _ _ _ _ (cells_ne_map HX.out.2.1 HX.out.1.own)).trans HX.out.1.own, HX.out.1.nb⟩, hgM, hne.out, ⟨_, HR.out.2.1, fun u s _ => Iff.rfl⟩, hes2, rfl, rfl⟩
        have HFIN := Lib.hid hfin
        clear hfin hgM
        go_wp2
        go_meet
        obtain ⟨t1, h1⟩ := HFIN.out
        exact ⟨M, _, t1, rfl, h1⟩
    case rest =>
      obtain ⟨M, es, t1, rfl, hB⟩ := hcut
      obtain ⟨w1, hw1⟩ : ∃ w1, wc = w1 := ⟨_, rfl⟩
      rw [hw1] at hB ⊢
      clear hw1 HX
      obtain ⟨N', hN', hN2⟩ := hB.rp
      -- the owner's names are taken out
      obtain ⟨w2, hr2, ht2, hs2⟩ := hB.fr.drew.stp.rep.nameDel_r o
      have hf2 := hB.fr.drew.step hs2
      have hp2 := hN'.nameDel hB.fr.stp.rep.nmNodup o
      have hg2 : GMap w2 M (setV es) := hB.gm.keep ((ht2.2.2.2.2 M hB.ne.1).trans rfl)
      have hS0 : w1.drew.cell? ⟨t.T, 2, none⟩ = some (.map (some t1.N)) ∧ w1.drew.cell? ⟨b0, 0, none⟩ = some (.int .u64 o) := ⟨hB.fr.drew.cT 2 _ rfl, hB.fr.drew.cO⟩
      have hS1 : w2.cell? ⟨t.T, 2, none⟩ = some (.map (some t1.N)) ∧ w2.cell? ⟨b0, 0, none⟩ = some (.int .u64 o) := ⟨hf2.cT 2 _ rfl, hf2.cO⟩
      have H2 := Lib.hid (And.intro hf2 (And.intro hp2 (And.intro hg2 (And.intro hN2 (And.intro hB.es (And.intro hB.ne (And.intro hB.pl hB.ws)))))))
      clear hB hN' hN2 hs2 hf2 hp2 hg2 ht2
      go_upto_region 7 with (fail)
      refine wp_region_U (fun W => W.cell? ⟨t.T, 2, none⟩ = some (.map (some t1.N)) ∧ W.cell? ⟨b0, 0, none⟩ = some (.int .u64 o)) [] (by kernel_rfl) ?_
      refine wpAnyU_take (i := 0) [1, 2, 3, 5] rfl (by as_aux_lemma => kernel_rfl) (by as_aux_lemma => kernel_rfl) (by as_aux_lemma => kernel_rfl) (by as_aux_lemma => kernel_rfl) (by as_aux_lemma => kernel_rfl) (by as_aux_lemma => kernel_rfl) (fun _ _ _ h => h) (Or.inl ⟨by rfl, (by intro W hSW; (try dsimp only at hSW); (try go_split_ands); go_simp <;> with_reducible rfl)⟩) hS0 ?_
      try simp only [Act.put, List.getElem_toArray, List.getElem_cons_succ, List.getElem_cons_zero, List.setIfInBounds_toArray, List.set_cons_zero, List.set_cons_succ]
      refine wpAnyU_take (i := 1) [2, 3, 5] rfl (by as_aux_lemma => kernel_rfl) (by as_aux_lemma => kernel_rfl) (by as_aux_lemma => kernel_rfl) (by as_aux_lemma => kernel_rfl) (by as_aux_lemma => kernel_rfl) (by as_aux_lemma => kernel_rfl) (fun _ _ _ h => h) (Or.inl ⟨by rfl, (by intro W hSW; (try dsimp only at hSW); (try go_split_ands); go_simp <;> with_reducible rfl)⟩) hS0 ?_
      try simp only [Act.put, List.getElem_toArray, List.getElem_cons_succ, List.getElem_cons_zero, List.setIfInBounds_toArray, List.set_cons_zero, List.set_cons_succ]
      refine wpAnyU_take (i := 2) [3, 5] rfl (by as_aux_lemma => kernel_rfl) (by as_aux_lemma => kernel_rfl) (by as_aux_lemma => kernel_rfl) (by as_aux_lemma => kernel_rfl) (by as_aux_lemma => kernel_rfl) (by as_aux_lemma => kernel_rfl) (fun _ _ _ h => h) (Or.inl ⟨by rfl, (by intro W hSW; (try dsimp only at hSW); (try go_split_ands); go_simp <;> with_reducible rfl)⟩) hS0 ?_
      try simp only [Act.put, List.getElem_toArray, List.getElem_cons_succ, List.getElem_cons_zero, List.setIfInBounds_toArray, List.set_cons_zero, List.set_cons_succ]
      refine wpAnyU_take (i := 3) [5] rfl (by as_aux_lemma => kernel_rfl) (by as_aux_lemma => kernel_rfl) (by as_aux_lemma => kernel_rfl) (by as_aux_lemma => kernel_rfl) (by as_aux_lemma => kernel_rfl) (by as_aux_lemma => kernel_rfl) (fun _ _ _ h => h) (Or.inl ⟨by rfl, (by intro W hSW; (try dsimp only at hSW); (try go_split_ands); go_simp <;> with_reducible rfl)⟩) hS0 ?_
      try simp only [Act.put, List.getElem_toArray, List.getElem_cons_succ, List.getElem_cons_zero, List.setIfInBounds_toArray, List.set_cons_zero, List.set_cons_succ]
      refine wpAnyU_take (i := 4) [5] rfl (by as_aux_lemma => kernel_rfl) (by as_aux_lemma => kernel_rfl) (by as_aux_lemma => kernel_rfl) (by as_aux_lemma => kernel_rfl) (by as_aux_lemma => kernel_rfl) (by as_aux_lemma => kernel_rfl) (fun _ _ _ h => h) (Or.inl ⟨by rfl, (by intro W hSW; (try dsimp only at hSW); (try go_split_ands); go_simp <;> with_reducible rfl)⟩) hS0 ?_
      try simp only [Act.put, List.getElem_toArray, List.getElem_cons_succ, List.getElem_cons_zero, List.setIfInBounds_toArray, List.set_cons_zero, List.set_cons_succ]
      refine wpAnyU_one (i := 5) (by kernel_rfl) rfl (fun K hK => ?_)
      go_simp
      refine hK.out _ _ (fun _ => hS1) (fun _ => ?_)
      clear hK K
      try simp only [Act.put, List.getElem_toArray, List.getElem_cons_succ, List.getElem_cons_zero, List.setIfInBounds_toArray, List.set_cons_zero, List.set_cons_succ]
      refine wpAnyU_done (by kernel_rfl) ?_ _
      clear hS0 hS1 hr2
      -- and that it waits
      obtain ⟨w3, hr3, ht3, hs3⟩ := H2.out.1.drew.stp.rep.waitsDel_r o
      have hf3 := H2.out.1.drew.step hs3
      have hp3 := H2.out.2.1.waitsDel H2.out.1.stp.rep.wsNodup o
      have hg3 : GMap w3 M (setV es) := H2.out.2.2.1.keep ((ht3.2.2.2.2 M H2.out.2.2.2.2.2.1.2).trans rfl)
      have hS0 : w2.drew.cell? ⟨t.T, 1, none⟩ = some (.map (some t1.W)) ∧ w2.drew.cell? ⟨b0, 0, none⟩ = some (.int .u64 o) := ⟨H2.out.1.drew.cT 1 _ rfl, H2.out.1.drew.cO⟩
      have hS1 : w3.cell? ⟨t.T, 1, none⟩ = some (.map (some t1.W)) ∧ w3.cell? ⟨b0, 0, none⟩ = some (.int .u64 o) := ⟨hf3.cT 1 _ rfl, hf3.cO⟩
      have H3 := Lib.hid (And.intro hf3 (And.intro hp3 hg3))
      clear hf3 hp3 hg3 hs3 ht3
      go_upto_region 8 with (fail)
      refine wp_region_U (fun W => W.cell? ⟨t.T, 1, none⟩ = some (.map (some t1.W)) ∧ W.cell? ⟨b0, 0, none⟩ = some (.int .u64 o)) [] (by kernel_rfl) ?_
      refine wpAnyU_take (i := 0) [1, 2, 3, 5] rfl (by as_aux_lemma => kernel_rfl) (by as_aux_lemma => kernel_rfl) (by as_aux_lemma => kernel_rfl) (by as_aux_lemma => kernel_rfl) (by as_aux_lemma => kernel_rfl) (by as_aux_lemma => kernel_rfl) (fun _ _ _ h => h) (Or.inl ⟨by rfl, (by intro W hSW; (try dsimp only at hSW); (try go_split_ands); go_simp <;> with_reducible rfl)⟩) hS0 ?_
      try simp only [Act.put, List.getElem_toArray, List.getElem_cons_succ, List.getElem_cons_zero, List.setIfInBounds_toArray, List.set_cons_zero, List.set_cons_succ]
      refine wpAnyU_take (i := 1) [2, 3, 5] rfl (by as_aux_lemma => kernel_rfl) (by as_aux_lemma => kernel_rfl) (by as_aux_lemma => kernel_rfl) (by as_aux_lemma => kernel_rfl) (by as_aux_lemma => kernel_rfl) (by as_aux_lemma => kernel_rfl) (fun _ _ _ h => h) (Or.inl ⟨by rfl, (by intro W hSW; (try dsimp only at hSW); (try go_split_ands); go_simp <;> with_reducible rfl)⟩) hS0 ?_
      try simp only [Act.put, List.getElem_toArray, List.getElem_cons_succ, List.getElem_cons_zero, List.setIfInBounds_toArray, List.set_cons_zero, List.set_cons_succ]
      refine wpAnyU_take (i := 2) [3, 5] rfl (by as_aux_lemma => kernel_rfl) (by as_aux_lemma => kernel_rfl) (by as_aux_lemma => kernel_rfl) (by as_aux_lemma => kernel_rfl) (by as_aux_lemma => kernel_rfl) (by as_aux_lemma => kernel_rfl) (fun _ _ _ h => h) (Or.inl ⟨by rfl, (by intro W hSW; (try dsimp only at hSW); (try go_split_ands); go_simp <;> with_reducible rfl)⟩) hS0 ?_
      try simp only [Act.put, List.getElem_toArray, List.getElem_cons_succ, List.getElem_cons_zero, List.setIfInBounds_toArray, List.set_cons_zero, List.set_cons_succ]
      refine wpAnyU_take (i := 3) [5] rfl (by as_aux_lemma => kernel_rfl) (by as_aux_lemma => kernel_rfl) (by as_aux_lemma => kernel_rfl) (by as_aux_lemma => kernel_rfl) (by as_aux_lemma => kernel_rfl) (by as_aux_lemma => kernel_rfl) (fun _ _ _ h => h) (Or.inl ⟨by rfl, (by intro W hSW; (try dsimp only at hSW); (try go_split_ands); go_simp <;> with_reducible rfl)⟩) hS0 ?_
      try simp only [Act.put, List.getElem_toArray, List.getElem_cons_succ, List.getElem_cons_zero, List.setIfInBounds_toArray, List.set_cons_zero, List.set_cons_succ]
      refine wpAnyU_take (i := 4) [5] rfl (by as_aux_lemma => kernel_rfl) (by as_aux_lemma => kernel_rfl) (by as_aux_lemma => kernel_rfl) (by as_aux_lemma => kernel_rfl) (by as_aux_lemma => kernel_rfl) (by as_aux_lemma => kernel_rfl) (fun _ _ _ h => h) (Or.inl ⟨by rfl, (by intro W hSW; (try dsimp only at hSW); (try go_split_ands); go_simp <;> with_reducible rfl)⟩) hS0 ?_
      try simp only [Act.put, List.getElem_toArray, List.getElem_cons_succ, List.getElem_cons_zero, List.setIfInBounds_toArray, List.set_cons_zero, List.set_cons_succ]
      refine wpAnyU_one (i := 5) (by kernel_rfl) rfl (fun K hK => ?_)
      go_simp
      refine hK.out _ _ (fun _ => hS1) (fun _ => ?_)
      clear hK K
      try simp only [Act.put, List.getElem_toArray, List.getElem_cons_succ, List.getElem_cons_zero, List.setIfInBounds_toArray, List.set_cons_zero, List.set_cons_succ]
      refine wpAnyU_done (by kernel_rfl) ?_ _
      clear hS0 hS1 hr3
      -- the names, sorted
      have htp : ∀ s, s ∈ es → klook t.pl s ≠ none := fun s hs hk => by
        obtain ⟨h8, h9⟩ := HR.out.2.1.pn s hk
        rcases (H2.out.2.2.2.2.1 s).1 hs with h7 | ⟨m, h7⟩
        · exact h7 (h8 o)
        · rw [h9] at h7; cases h7
      have hesn : es.Nodup := by
        have h9 := gmap_nodup2 H3.out.2.2
        simpa [setV, List.map_map, Function.comp_def] using h9
      have hesl : es.length ≤ 8796093022200 := by
        have h9 := nodup_len (b := t.pl.map (·.1)) hesn (fun s hs => (klook_isSome _ _).1 (htp s hs))
        rw [List.length_map] at h9
        have := HSZ.out.pl
        have := HC.out.1
        omega
      have hke := keys_any (some M) w3
      have hso := names_sorted w3 M es (fun s hs => HSZ.out.nm s (htp s hs)) hesl H3.out.2.2
      have HKE := Lib.hid hke
      have HSO := Lib.hid hso
      have HES := Lib.hid (And.intro htp (And.intro hesn hesl))
      clear hke hso htp hesn hesl
      go_wp2_with fail
      refine HKE.out.mono ?_
      rintro e w4 ⟨rfl, rfl⟩
      go_wp2_with fail
      refine HSO.out.mono ?_
      rintro e w5 ⟨v, ns, rfl, hperm, hpw, hrow, hb5⟩
      obtain ⟨n, hn⟩ : ∃ n, ns.length = n := ⟨_, rfl⟩
      have hrd : RdV (tfoot { t1 with nm := kdel t1.nm o, ws := kdel t1.ws o }) w5 1 v n (ns.map Value.string) := by
        rw [← hn]
        exact RdV.of_own hrow (fun k hk => H3.out.1.stp.rep.nfoot_new hk)
      obtain ⟨va, vc, rfl, -⟩ := hrd.form
      have hla : LpA w t A b0 o ns (.slice va n vc) n [] w5 { t1 with nm := kdel t1.nm o, ws := kdel t1.ws o } := by
        refine ⟨H3.out.1.below hb5, H3.out.2.1.cong (fun s u => by unfold H1; simp) (fun s => by unfold Q1; simp) (fun u s m => Iff.rfl) (fun u s => and_congr_right (fun hu => H2.out.2.2.2.1 u s hu)), fun s hs => by show klook t1.pl s ≠ none; rw [H2.out.2.2.2.2.2.2.1]; exact hs, ⟨fun s hs => by have h9 : klook t1.pl s ≠ none := hs; rw [H2.out.2.2.2.2.2.2.1] at h9; exact h9, by show t1.pl.length ≤ _; rw [H2.out.2.2.2.2.2.2.1]; exact Nat.le_refl _⟩, ?_, hrd⟩
        show (kdel t1.ws o).length ≤ _
        rw [H2.out.2.2.2.2.2.2.2]
        have h9 := congrArg List.length (kdel_keys t.ws o)
        simp only [List.length_map] at h9
        rw [h9]
        have h8 := List.length_erase_le (a := o) (l := t.ws.map (·.1))
        rw [List.length_map] at h8
        exact h8
      have hnsm : ∀ s, s ∈ ns ↔ A.touched o s := fun s => (hperm.mem_iff).trans (H2.out.2.2.2.2.1 s)
      have hnsn : ns.Nodup := hperm.symm.nodup HES.out.2.1
      have hnl : n ≤ 8796093022200 := by rw [← hn, hperm.length_eq]; exact HES.out.2.2
      have hdom : ∀ s, s ∈ ns → klook t.pl s ≠ none := fun s hs => HES.out.1 s ((hperm.mem_iff).1 hs)
      have HLA := Lib.hid hla
      have HNS := Lib.hid (And.intro hn (And.intro hnsm (And.intro hnsn (And.intro hdom (And.intro hpw hnl)))))
      have hn0 : (0 : Int) ≤ (n : Int) := by omega
      clear hla hnsm hnsn hnl hdom hpw hperm hrow hrd hb5 HKE HSO HES H2 H3 hn
      go_wp2_with fail
      go_loopw [55] (fun iv wr => ∃ (j : Nat) (tj : TV), iv = .int .i64 j ∧ j ≤ n ∧ LpA w t A b0 o ns (.slice va n vc) n (ns.take j) wr tj) (fun iv _ => n - (Go.RowKit.intOf iv).toNat)
      case atStart => exact ⟨0, _, rfl, Nat.zero_le _, HLA.out⟩
      case round =>
        clear HLA
        obtain ⟨j, tj, rfl, hjn, hl⟩ := hrel
        by_cases hj : j < n
        · have hjl : j < ns.length := by rw [HNS.out.1]; exact hj
          obtain ⟨s, hs⟩ : ∃ s, ns[j] = s := ⟨_, rfl⟩
          have hsm : s ∈ ns := by rw [← hs]; exact List.getElem_mem hjl
          have htk : ns.take (j + 1) = ns.take j ++ [s] := by rw [List.take_add_one, List.getElem?_eq_getElem hjl, hs]; rfl
          have hsnot : s ∉ ns.take j := fun h9 => by
            have h8 := HNS.out.2.2.1
            have h7 : (ns.take (j + 1)).Nodup := h8.sublist (List.take_sublist _ _)
            rw [htk, List.nodup_append] at h7
            exact h7.2.2 s h9 s (by simp) rfl
          obtain ⟨g, off, c', hv, -, -, -, -, hcell⟩ := RdV.at_ hl.row (by omega)
          injection hv with e1 e2 e3
          subst e1
          have cg : wr.cell? ⟨g, off + j, none⟩ = some (.string s) := hcell j _ (by rw [List.getElem?_map, List.getElem?_eq_getElem hjl, hs]; rfl)
          have hex := hl.dom s (HNS.out.2.2.2.1 s hsm)
          obtain ⟨x, hx⟩ : ∃ x, klook tj.pl s = some x := by
            cases hk : klook tj.pl s with
            | none => exact absurd hk hex
            | some x => exact ⟨x, rfl⟩
          obtain ⟨i, hi, -⟩ := klook_set hx
          have c0 := hl.fr.cT 0 _ rfl
          have hl3 : (Instr.lookup 62 (.map (some tj.P)) (.string s) false).run Try.prog wr = .ok (.pointer (some ⟨x.p, 0, none⟩)) wr := by
            have h9 := gmap_lookup1 (P := Try.prog) Try.underlying62 Try.underlying9 (z67 wr) hl.fr.stp.rep.tab.pl s
            have h8 : glook (plV tj.pl) s = (klook tj.pl s).map (fun y => Value.pointer (some ⟨y.p, 0, none⟩)) := glook_map (fun y : PV => Value.pointer (some ⟨y.p, 0, none⟩)) tj.pl s
            rw [h8, hx] at h9
            exact h9
          obtain ⟨wF, hrF, htF, hsF⟩ := hl.fr.drew.stp.rep.heldDel_r hi o
          have hfF := hl.fr.drew.step hsF
          have hiF : (tj.pl.set i (s, { x with hs := kdel x.hs o }))[i]? = some (s, { x with hs := kdel x.hs o }) := by
            rw [List.getElem?_set]; simp [(List.getElem?_eq_some_iff.1 hi).1]
          obtain ⟨hpF, hqF⟩ := hsF.rep.pls i _ hiF
          have hpj := (hl.fr.stp.rep.pls i _ hi).1
          have hS0 : wr.drew.cell? ⟨x.p, 0, none⟩ = some (.map (some x.H)) ∧ wr.drew.cell? ⟨b0, 0, none⟩ = some (.int .u64 o) := ⟨cell_of_row wr.drew x.p 0 _ _ _ hpj.blk, hl.fr.drew.cO⟩
          have hS1 : wF.cell? ⟨x.p, 0, none⟩ = some (.map (some x.H)) ∧ wF.cell? ⟨b0, 0, none⟩ = some (.int .u64 o) := ⟨cell_of_row wF x.p 0 _ _ _ hpF.blk, hfF.cO⟩
          obtain ⟨hkx, hqx⟩ := hl.rp.pl s x hx
          have hqnew : Q1 A o (ns.take j) s = A.Q s := by unfold Q1; rw [if_neg hsnot]
          have hhnew : H1 A o (ns.take j) s = A.H s := by unfold H1; rw [if_neg hsnot]
          rw [hqnew] at hqx
          rw [hhnew] at hkx
          have hql : x.qs.length ≤ 8796093022199 := by
            have h9 : ∃ x0, klook t.pl s = some x0 := by
              cases hk : klook t.pl s with
              | none => exact absurd hk (HNS.out.2.2.2.1 s hsm)
              | some x0 => exact ⟨x0, rfl⟩
            obtain ⟨x0, h9⟩ := h9
            rw [hqx, ← (HR.out.2.1.pl s x0 h9).2]
            have h7 := HSZ.out.qs s x0 h9
            have h6 := HC.out.1
            omega
          have hdf := deleteFunc_any hqF (by show x.qs.length ≤ _; omega) b0 o hS1.2 (fun g2 hg2 => by obtain ⟨cur, hc⟩ := hqF.blk hg2; exact cells_ty_ne hfF.own hc (by decide))
          have HDF := Lib.hid hdf
          have cq : wF.cell? ⟨x.p, 1, none⟩ = some x.q := cell_of_row wF x.p 1 _ _ _ hpF.blk
          obtain ⟨qa, qn, qc, hqe⟩ : ∃ qa qn qc, x.q = .slice qa qn qc := by
            rcases hqF with ⟨e, e2⟩ | ⟨g, off, c, cur, e, -⟩
            · exact ⟨none, 0, 0, e⟩
            · exact ⟨some ⟨g, off, none⟩, _, c, e⟩
          have HL := Lib.hid (And.intro hl (And.intro hfF (And.intro hsF (And.intro hiF (And.intro hi (And.intro hpF hqF))))))
          have HX := Lib.hid (And.intro hkx (And.intro hqx (And.intro hx (And.intro htk (And.intro hsm hjl)))))
          have hji : (j : Int) < (n : Int) := by omega
          have hj0 : (0 : Int) ≤ (j : Int) := by omega
          have hj9 : (j : Int) < 8796093022200 := by have h9 := HNS.out.2.2.2.2.2; omega
          simp only [hqe] at HDF cq
          clear hl hfF hsF hiF hi hpF hqF hpj hkx hqx hx htk hsm hjl hs hsnot hcell hex hqnew hhnew hql hdf htF e2 e3
          go_upto_region 14 with (fail)
          refine wp_region_U (fun W => W.cell? ⟨x.p, 0, none⟩ = some (.map (some x.H)) ∧ W.cell? ⟨b0, 0, none⟩ = some (.int .u64 o)) [] (by kernel_rfl) ?_
          refine wpAnyU_take (i := 0) [1, 2, 3, 5] rfl (by as_aux_lemma => kernel_rfl) (by as_aux_lemma => kernel_rfl) (by as_aux_lemma => kernel_rfl) (by as_aux_lemma => kernel_rfl) (by as_aux_lemma => kernel_rfl) (by as_aux_lemma => kernel_rfl) (fun _ _ _ h => h) (Or.inl ⟨by rfl, (by intro W hSW; (try dsimp only at hSW); (try go_split_ands); go_simp <;> with_reducible rfl)⟩) hS0 ?_
          try simp only [Act.put, List.getElem_toArray, List.getElem_cons_succ, List.getElem_cons_zero, List.setIfInBounds_toArray, List.set_cons_zero, List.set_cons_succ]
          refine wpAnyU_take (i := 1) [2, 3, 5] rfl (by as_aux_lemma => kernel_rfl) (by as_aux_lemma => kernel_rfl) (by as_aux_lemma => kernel_rfl) (by as_aux_lemma => kernel_rfl) (by as_aux_lemma => kernel_rfl) (by as_aux_lemma => kernel_rfl) (fun _ _ _ h => h) (Or.inl ⟨by rfl, (by intro W hSW; (try dsimp only at hSW); (try go_split_ands); go_simp <;> with_reducible rfl)⟩) hS0 ?_
          try simp only [Act.put, List.getElem_toArray, List.getElem_cons_succ, List.getElem_cons_zero, List.setIfInBounds_toArray, List.set_cons_zero, List.set_cons_succ]
          refine wpAnyU_take (i := 2) [3, 5] rfl (by as_aux_lemma => kernel_rfl) (by as_aux_lemma => kernel_rfl) (by as_aux_lemma => kernel_rfl) (by as_aux_lemma => kernel_rfl) (by as_aux_lemma => kernel_rfl) (by as_aux_lemma => kernel_rfl) (fun _ _ _ h => h) (Or.inl ⟨by rfl, (by intro W hSW; (try dsimp only at hSW); (try go_split_ands); go_simp <;> with_reducible rfl)⟩) hS0 ?_
          try simp only [Act.put, List.getElem_toArray, List.getElem_cons_succ, List.getElem_cons_zero, List.setIfInBounds_toArray, List.set_cons_zero, List.set_cons_succ]
          refine wpAnyU_take (i := 3) [5] rfl (by as_aux_lemma => kernel_rfl) (by as_aux_lemma => kernel_rfl) (by as_aux_lemma => kernel_rfl) (by as_aux_lemma => kernel_rfl) (by as_aux_lemma => kernel_rfl) (by as_aux_lemma => kernel_rfl) (fun _ _ _ h => h) (Or.inl ⟨by rfl, (by intro W hSW; (try dsimp only at hSW); (try go_split_ands); go_simp <;> with_reducible rfl)⟩) hS0 ?_
          try simp only [Act.put, List.getElem_toArray, List.getElem_cons_succ, List.getElem_cons_zero, List.setIfInBounds_toArray, List.set_cons_zero, List.set_cons_succ]
          refine wpAnyU_take (i := 4) [5] rfl (by as_aux_lemma => kernel_rfl) (by as_aux_lemma => kernel_rfl) (by as_aux_lemma => kernel_rfl) (by as_aux_lemma => kernel_rfl) (by as_aux_lemma => kernel_rfl) (by as_aux_lemma => kernel_rfl) (fun _ _ _ h => h) (Or.inl ⟨by rfl, (by intro W hSW; (try dsimp only at hSW); (try go_split_ands); go_simp <;> with_reducible rfl)⟩) hS0 ?_
          try simp only [Act.put, List.getElem_toArray, List.getElem_cons_succ, List.getElem_cons_zero, List.setIfInBounds_toArray, List.set_cons_zero, List.set_cons_succ]
          refine wpAnyU_one (i := 5) (by kernel_rfl) rfl (fun K hK => ?_)
          go_simp
          refine hK.out _ _ (fun _ => hS1) (fun _ => ?_)
          clear hK K
          try simp only [Act.put, List.getElem_toArray, List.getElem_cons_succ, List.getElem_cons_zero, List.setIfInBounds_toArray, List.set_cons_zero, List.set_cons_succ]
          refine wpAnyU_done (by kernel_rfl) ?_ _
          clear hS0 hS1 hrF hl3
          go_wp2_with fail
          refine HDF.out.mono ?_
          rintro e wG ⟨q', rfl, hqG, hqb, hkG, hszG, ⟨x1, x2, x3⟩, a', n', c', rfl⟩
          have hpG : wG.heap[x.p]? = some (.cells #[.map (some x.H), x.q] 71 (0, 0)) := by
            have hpF := HL.out.2.2.2.2.2.1
            refine (hkG x.p (lt_of_block hpF.blk) (fun g2 hg2 => ?_)).trans hpF.blk
            obtain ⟨cur, hc⟩ := HL.out.2.2.2.2.2.2.blk (by show qblk x.q = some g2; rw [hqe]; exact hg2)
            exact cells_ty_ne hpF.blk hc (by decide)
          have fG : wG.frozen? ⟨x.p, 1, none⟩ = false := by simp [World.frozen?, hpG]
          have cG : wG.cell? ⟨x.p, 1, none⟩ = some x.q := cell_of_row wG x.p 1 _ _ _ hpG
          rw [hqe] at cG
          have hst := TabR.queueTurn_r HL.out.2.2.1.rep HL.out.2.2.2.1 (q := .slice a' n' c') (qs := x.qs.filter (neO o)) hqG (fun g2 hg2 => by show qblk x.q = some g2; rw [hqe]; exact hqb g2 hg2) (fun k hk hkg => hkG k hk (fun g2 hg2 => hkg g2 (by show qblk x.q = some g2; rw [hqe]; exact hg2))) hszG x1 x2 x3
          simp only at hst
          have hfin : ∃ tj', LpA w t A b0 o ns (.slice (some ⟨g, off, none⟩) n vc) n (ns.take (j + 1)) (wG.setCell ⟨x.p, 1, none⟩ (.slice a' n' c')) tj' := by
            have hl := HL.out.1
            have hn0 := hl.fr.stp.rep.plNodup
            have hn1 := HL.out.2.2.1.rep.plNodup
            have hr1 := hl.rp.place hn0 HL.out.2.2.2.2.1 (x' := { x with hs := kdel x.hs o }) (hf := upd (A.H s) o none) (q := A.Q s) (by rw [klook_kdel_upd (hl.fr.stp.rep.hsNodup HL.out.2.2.2.2.1), HX.out.1]) HX.out.2.1
            have hr2 := hr1.place hn1 HL.out.2.2.2.1 (x' := { x with hs := kdel x.hs o, q := .slice a' n' c', qs := x.qs.filter (neO o) }) (hf := upd (A.H s) o none) (q := (A.Q s).filter (neO o)) (by rw [klook_kdel_upd (hl.fr.stp.rep.hsNodup HL.out.2.2.2.2.1), HX.out.1]) (by show x.qs.filter _ = _; rw [HX.out.2.1])
            refine ⟨_, HL.out.2.1.step hst, ?_, ?_, ⟨fun s' hs' => ?_, ?_⟩, ?_, ?_⟩
            · rw [HX.out.2.2.2.1, ← H1_step, ← Q1_step]
              refine hr2.cong (fun s' u => ?_) (fun s' => ?_) (fun u s m => Iff.rfl) (fun u s => Iff.rfl)
              · unfold updS; split <;> rfl
              · unfold updS; split <;> rfl
            · intro s' hs'
              have h9 := hl.dom s' hs'
              show klook ((tj.pl.set i _).set i _) s' ≠ none
              rw [klook_setAt hn1 HL.out.2.2.2.1]
              split
              · simp
              · rw [klook_setAt hn0 HL.out.2.2.2.2.1]
                split
                · simp
                · exact h9
            · have h9 : klook ((tj.pl.set i _).set i _) s' ≠ none := hs'
              rw [klook_setAt hn1 HL.out.2.2.2.1] at h9
              refine hl.sz.dom s' ?_
              split at h9
              · rename_i e
                subst e
                rw [HX.out.2.2.1]; simp
              · rw [klook_setAt hn0 HL.out.2.2.2.2.1] at h9
                split at h9
                · rename_i e
                  subst e
                  rw [HX.out.2.2.1]; simp
                · exact h9
            · show ((tj.pl.set i _).set i _).length ≤ _
              rw [List.length_set, List.length_set]
              exact hl.sz.pl
            · exact hl.ln
            · exact (((hl.row.chg (Chg.of_below (below_drewN (Below.refl _ _) 1) _)).chg HL.out.2.2.1.chg).chg hst.chg)
          have HF := Lib.hid hfin
          clear hqG hqb hkG hszG x1 x2 x3 hpG hst hfin HDF
          go_wp2
          go_roundw
          case rel =>
            obtain ⟨tj', h9⟩ := HF.out
            exact ⟨j + 1, tj', by go_num, by omega, h9⟩
          case measure => simp [Go.RowKit.intOf]; omega
        · obtain rfl : j = n := by omega
          have hnd : ¬ ((j : Int) < (j : Int)) := by omega
          have htn : ns.take j = ns := List.take_of_length_le (by have h9 := HNS.out.1; omega)
          rw [htn] at hl
          obtain ⟨B, hB⟩ : ∃ B, wr.heap.size = B := ⟨_, rfl⟩
          have hlb : LpB w t A b0 o ns va B 0 wr tj (.slice none 0 0) := by
            refine ⟨hl.fr, hl.rp.cong (fun s u => by unfold H2; simp) (fun s => by unfold Q2; simp) (fun u s m => by unfold W2 popped; simp) (fun u s => by unfold N2; simp), fun s hs => hl.dom s (HNS.out.2.2.2.1 s (by simpa using hs)), hl.sz, by unfold popped; simpa using hl.ln, fun i s hi => ?_, by omega, ⟨World.ownsRow_nil _ _ _ _, fun k hk => by simp [Value.ownBlock] at hk⟩⟩
            obtain ⟨hil, his⟩ := List.getElem?_eq_some_iff.1 hi
            obtain ⟨g, off, c', hv, -, -, hgf, hgl, hcell⟩ := RdV.at_ hl.row (by have h9 := HNS.out.1; omega)
            injection hv with e1 e2 e3
            exact ⟨g, off, e1, by omega, hgf, hcell i _ (by rw [List.getElem?_map, hi]; rfl)⟩
          have HLB := Lib.hid hlb
          have HBB : Hid (w.heap.size ≤ B ∧ b0 < B) := ⟨by rw [← hB]; exact hl.fr.stp.chg.size, by rw [← hB]; exact lt_of_block hl.fr.own⟩
          clear hl hlb hB htn hj hjn
          go_wp2_with fail
          go_loopw [12, 82] (fun ov_ iv wr => ∃ (j2 : Nat) (tj : TV) (oa : Option Addr) (on oc : Nat), iv = .int .i64 j2 ∧ j2 ≤ j ∧ ov_ = .slice oa on oc ∧ LpB w t A b0 o ns va B j2 wr tj (.slice oa on oc)) (fun _ iv _ => j - (Go.RowKit.intOf iv).toNat)
          case atStart => exact ⟨0, tj, none, 0, 0, rfl, Nat.zero_le _, rfl, HLB.out⟩
          case round =>
            clear HLB
            obtain ⟨j2, tj, oa, on, oc, rfl, hj2, rfl, hl⟩ := hrel
            by_cases hj : j2 < j
            · have hjl : j2 < ns.length := by rw [HNS.out.1]; exact hj
              obtain ⟨s, hs⟩ : ∃ s, ns[j2] = s := ⟨_, rfl⟩
              have hsj : ns[j2]? = some s := by rw [List.getElem?_eq_getElem hjl, hs]
              obtain ⟨i, x, hlc⟩ := hl.start hsj HNS.out.2.2.1
              obtain ⟨g, off, rfl, hgB, hgf, cg⟩ := hl.nr j2 s hsj
              obtain ⟨p, hp⟩ : ∃ p, x.p = p := ⟨_, rfl⟩
              rw [hp] at hlc
              have hx := klook_mem hl.fr.stp.rep.plNodup (List.mem_of_getElem? hlc.hx)
              have c0 := hl.fr.cT 0 _ rfl
              have hl3 : (Instr.lookup 62 (.map (some tj.P)) (.string s) false).run Try.prog wr = .ok (.pointer (some ⟨p, 0, none⟩)) wr := by
                have h9 := gmap_lookup1 (P := Try.prog) Try.underlying62 Try.underlying9 (z67 wr) hl.fr.stp.rep.tab.pl s
                have h8 : glook (plV tj.pl) s = (klook tj.pl s).map (fun y => Value.pointer (some ⟨y.p, 0, none⟩)) := glook_map (fun y : PV => Value.pointer (some ⟨y.p, 0, none⟩)) tj.pl s
                rw [h8, hx] at h9
                rw [← hp]
                exact h9
              have HL := Lib.hid (And.intro hlc (And.intro hl.out (And.intro hsj hjl)))
              have hji : (j2 : Int) < (j : Int) := by omega
              have hj0 : (0 : Int) ≤ (j2 : Int) := by omega
              have hj9 : (j2 : Int) < 8796093022200 := by have h9 := HNS.out.2.2.2.2.2; omega
              have hjd : decide (j2 < j) = true := by simp; omega
              obtain ⟨pz, hpz⟩ : ∃ pz, popped A o (ns.take j2) = pz := ⟨_, rfl⟩
              clear hl hlc hsj hjl hs hx hp hgB hgf hj hj2
              obtain ⟨w7, rfl⟩ : ∃ w7 : World, w7 = wr := ⟨_, rfl⟩
              go_wp2_with fail
              go_loopw [12] (fun ov_ wr => ∃ (oa : Option Addr) (on oc : Nat) (pre cur : List (Int × Int)) (i : Nat) (x : PV) (t' : TV), ov_ = .slice oa on oc ∧ (popped A o (ns.take j2) ++ pre).length = on ∧
                LpC w t A b0 o ns (some ⟨g, off, none⟩) B j2 s p pre cur i x wr t' ∧ OutRow B (popped A o (ns.take j2) ++ pre) wr t' (.slice oa on oc)) (fun ov_ _ => t.ws.length - slen ov_)
              case atStart => exact ⟨oa, on, oc, [], _, i, x, tj, rfl, by
                rw [List.append_nil]
                have h9 := HL.out.2.1.row
                obtain ⟨a9, c9, e9, -⟩ := (RdV.of_own (F := NoF) h9 (fun _ _ => noF _)).form
                injection e9 with _ e9 _
                exact e9.symm, HL.out.1, by rw [List.append_nil]; exact HL.out.2.1⟩
              case round =>
                obtain ⟨oa, on, oc, pre, cur, i, x, t', rfl, hon, hm, hout⟩ := hrel
                obtain ⟨hp, hq⟩ := hm.fr.stp.rep.pls i _ hm.hx
                simp only at hp hq
                have hqs := hm.qs
                rw [hqs] at hq
                obtain ⟨qa, qn, qc, hqe, hqn⟩ : ∃ qa qn qc, x.q = .slice qa qn qc ∧ cur.length = qn := by
                  rcases hq with ⟨e, e2⟩ | ⟨g, off, c, cur2, e, -⟩
                  · exact ⟨none, 0, 0, e, by rw [e2]; rfl⟩
                  · exact ⟨some ⟨g, off, none⟩, _, c, e, rfl⟩
                rw [hqe] at hp hq
                rw [hm.p] at hp
                have HM := Lib.hid (And.intro hm (And.intro hout (And.intro hon hqe)))
                clear hm hout hon hqs hqe
                go_upto_region 22 with fail
                go_cut [115] (fun sv wx => ∃ b, sv = .bool b ∧ LpC w t A b0 o ns (some ⟨g, off, none⟩) B j2 s p pre cur i x wx t' ∧ OutRow B (popped A o (ns.take j2) ++ pre) wx t' (.slice oa on oc) ∧ (b = true → ∃ a rest, cur = a :: rest ∧ GoesF (klook x.hs) a.1 a.2) ∧ (b = false → popF (klook x.hs) cur = (klook x.hs, cur, [])))
                case first =>
                  have cq : wr.cell? ⟨p, 1, none⟩ = some (.slice qa qn qc) := cell_of_row wr p 1 _ _ _ hp.blk
                  cases cur with
                  | nil =>
                    obtain rfl : qn = 0 := hqn.symm
                    clear hp hq
                    go_quiet (fail)
                    go_wp2
                    go_meet
                    exact ⟨false, rfl, HM.out.1.below (below_drewN (Below.refl _ _) _), HM.out.2.1.below (below_drewN (Below.refl _ _) _), (fun h => by cases h), fun _ => rfl⟩
                  | cons a rest =>
                    obtain ⟨qg, qo, qc2, e, ca, cb⟩ := hq.at_ 0 (by simp)
                    injection e with e1 e2 e3
                    subst e1 e3
                    simp only [Nat.zero_mul, Nat.add_zero, List.getElem_cons_zero] at ca cb
                    have hmo : ModesAt (hsV x.hs) := fun q hq => by obtain ⟨y, -, rfl⟩ := List.mem_map.1 hq; exact ⟨y.2, rfl⟩
                    have hgo : Calls Try.prog 29 #[.pointer (some ⟨p, 0, none⟩), .int .u64 a.1, .int .i64 a.2] wr.drew fun e w' => e = .returned (.bool (goesP (hsV x.hs) a.1 a.2)) ∧ Below wr.drew.heap.size wr.drew w' :=
                      goes_any wr.drew p x.H _ (hsV x.hs) a.1 a.2 ⟨hp.blk, hp.hl⟩ hmo
                    obtain ⟨gb, hgb⟩ : ∃ gb, goesP (hsV x.hs) a.1 a.2 = gb := ⟨_, rfl⟩
                    rw [hgb] at hgo
                    have hS0 : wr.drew.cell? ⟨p, 1, none⟩ = some (.slice (some ⟨qg, qo, none⟩) qn qc) ∧ wr.drew.cell? ⟨qg, qo, none⟩ = some (.int .u64 a.1) ∧ wr.drew.cell? ⟨qg, qo + 1, none⟩ = some (.int .i64 a.2) := ⟨cq, ca, cb⟩
                    have hqn0 : (0 : Int) < (qn : Int) := by have h9 : rest.length + 1 = qn := hqn; omega
                    have hqn1 : decide (0 < qn) = true := by simp; omega
                    have hqn2 : 0 < qn := by omega
                    have HGO := Lib.hid hgo
                    have HGB := Lib.hid hgb
                    clear hp hq hmo hgo hgb cq ca cb hqn e2
                    refine wp_region_U (fun W => W.cell? ⟨p, 1, none⟩ = some (.slice (some ⟨qg, qo, none⟩) qn qc) ∧ W.cell? ⟨qg, qo, none⟩ = some (.int .u64 a.1) ∧ W.cell? ⟨qg, qo + 1, none⟩ = some (.int .i64 a.2)) [] (by kernel_rfl) ?_
                    refine wpAnyU_take (i := 0) [1, 2, 3, 4, 5, 6, 7, 8, 9, 10, 11, 12, 13, 14, 15, 16, 17, 18, 19, 20, 21, 22, 23] rfl (by as_aux_lemma => kernel_rfl) (by as_aux_lemma => kernel_rfl) (by as_aux_lemma => kernel_rfl) (by as_aux_lemma => kernel_rfl) (by as_aux_lemma => kernel_rfl) (by as_aux_lemma => kernel_rfl) (fun _ _ _ h => h) (Or.inl ⟨by rfl, (by intro W hSW; (try dsimp only at hSW); (try go_split_ands); go_simp <;> with_reducible rfl)⟩) hS0 ?_
                    try simp only [Act.put, List.getElem_toArray, List.getElem_cons_succ, List.getElem_cons_zero, List.setIfInBounds_toArray, List.set_cons_zero, List.set_cons_succ]
                    refine wpAnyU_take (i := 1) [2, 3, 4, 5, 6, 7, 8, 9, 10, 11, 12, 13, 14, 15, 16, 17, 18, 19, 20, 21, 22, 23] rfl (by as_aux_lemma => kernel_rfl) (by as_aux_lemma => kernel_rfl) (by as_aux_lemma => kernel_rfl) (by as_aux_lemma => kernel_rfl) (by as_aux_lemma => kernel_rfl) (by as_aux_lemma => kernel_rfl) (fun _ _ _ h => h) (Or.inl ⟨by rfl, (by intro W hSW; (try dsimp only at hSW); (try go_split_ands); go_simp <;> with_reducible rfl)⟩) hS0 ?_
                    try simp only [Act.put, List.getElem_toArray, List.getElem_cons_succ, List.getElem_cons_zero, List.setIfInBounds_toArray, List.set_cons_zero, List.set_cons_succ]
                    refine wpAnyU_take (i := 2) [3, 4, 5, 6, 7, 8, 9, 10, 11, 12, 13, 14, 15, 16, 17, 18, 19, 20, 21, 22, 23] rfl (by as_aux_lemma => kernel_rfl) (by as_aux_lemma => kernel_rfl) (by as_aux_lemma => kernel_rfl) (by as_aux_lemma => kernel_rfl) (by as_aux_lemma => kernel_rfl) (by as_aux_lemma => kernel_rfl) (fun _ _ _ h => h) (Or.inl ⟨by rfl, (by intro W hSW; (try dsimp only at hSW); (try go_split_ands); go_simp <;> with_reducible rfl)⟩) hS0 ?_
                    try simp only [Act.put, List.getElem_toArray, List.getElem_cons_succ, List.getElem_cons_zero, List.setIfInBounds_toArray, List.set_cons_zero, List.set_cons_succ]
                    refine wpAnyU_take (i := 3) [4, 5, 6, 7, 8, 9, 10, 11, 12, 13, 14, 15, 16, 17, 18, 19, 20, 21, 22, 23] rfl (by as_aux_lemma => kernel_rfl) (by as_aux_lemma => kernel_rfl) (by as_aux_lemma => kernel_rfl) (by as_aux_lemma => kernel_rfl) (by as_aux_lemma => kernel_rfl) (by as_aux_lemma => kernel_rfl) (fun _ _ _ h => h) (Or.inl ⟨by rfl, (by intro W hSW; (try dsimp only at hSW); (try go_split_ands); go_simp <;> with_reducible rfl)⟩) hS0 ?_
                    try simp only [Act.put, List.getElem_toArray, List.getElem_cons_succ, List.getElem_cons_zero, List.setIfInBounds_toArray, List.set_cons_zero, List.set_cons_succ]
                    refine wpAnyU_take (i := 4) [5, 6, 7, 8, 9, 10, 11, 12, 13, 14, 15, 16, 17, 18, 19, 20, 21, 22, 23] rfl (by as_aux_lemma => kernel_rfl) (by as_aux_lemma => kernel_rfl) (by as_aux_lemma => kernel_rfl) (by as_aux_lemma => kernel_rfl) (by as_aux_lemma => kernel_rfl) (by as_aux_lemma => kernel_rfl) (fun _ _ _ h => h) (Or.inl ⟨by rfl, (by intro W hSW; (try dsimp only at hSW); (try go_split_ands); go_simp <;> with_reducible rfl)⟩) hS0 ?_
                    try simp only [Act.put, List.getElem_toArray, List.getElem_cons_succ, List.getElem_cons_zero, List.setIfInBounds_toArray, List.set_cons_zero, List.set_cons_succ]
                    refine wpAnyU_take (i := 5) [6, 7, 8, 9, 10, 11, 12, 13, 14, 15, 16, 17, 18, 19, 20, 21, 22, 23] rfl (by as_aux_lemma => kernel_rfl) (by as_aux_lemma => kernel_rfl) (by as_aux_lemma => kernel_rfl) (by as_aux_lemma => kernel_rfl) (by as_aux_lemma => kernel_rfl) (by as_aux_lemma => kernel_rfl) (fun _ _ _ h => h) (Or.inl ⟨by rfl, (by intro W hSW; (try dsimp only at hSW); (try go_split_ands); go_simp <;> with_reducible rfl)⟩) hS0 ?_
                    try simp only [Act.put, List.getElem_toArray, List.getElem_cons_succ, List.getElem_cons_zero, List.setIfInBounds_toArray, List.set_cons_zero, List.set_cons_succ]
                    refine wpAnyU_take (i := 6) [7, 8, 9, 10, 11, 12, 13, 14, 15, 16, 17, 18, 19, 20, 21, 22, 23] rfl (by as_aux_lemma => kernel_rfl) (by as_aux_lemma => kernel_rfl) (by as_aux_lemma => kernel_rfl) (by as_aux_lemma => kernel_rfl) (by as_aux_lemma => kernel_rfl) (by as_aux_lemma => kernel_rfl) (fun _ _ _ h => h) (Or.inl ⟨by rfl, (by intro W hSW; (try dsimp only at hSW); (try go_split_ands); go_simp <;> with_reducible rfl)⟩) hS0 ?_
                    try simp only [Act.put, List.getElem_toArray, List.getElem_cons_succ, List.getElem_cons_zero, List.setIfInBounds_toArray, List.set_cons_zero, List.set_cons_succ]
                    refine wpAnyU_take (i := 7) [22, 23] rfl (by as_aux_lemma => kernel_rfl) (by as_aux_lemma => kernel_rfl) (by as_aux_lemma => kernel_rfl) (by as_aux_lemma => kernel_rfl) (by as_aux_lemma => kernel_rfl) (by as_aux_lemma => kernel_rfl) (fun _ _ _ h => h) (by first | exact Or.inl ⟨by rfl, (by intro W hSW; (try dsimp only at hSW); (try go_split_ands); go_simp <;> with_reducible rfl)⟩ | exact Or.inr ⟨by rfl, rfl⟩) hS0 ?_
                    try simp only [Act.put, List.getElem_toArray, List.getElem_cons_succ, List.getElem_cons_zero, List.setIfInBounds_toArray, List.set_cons_zero, List.set_cons_succ]
                    refine wpAnyU_take (i := 8) [9, 10, 11, 12, 13, 14, 22, 23] rfl (by as_aux_lemma => kernel_rfl) (by as_aux_lemma => kernel_rfl) (by as_aux_lemma => kernel_rfl) (by as_aux_lemma => kernel_rfl) (by as_aux_lemma => kernel_rfl) (by as_aux_lemma => kernel_rfl) (fun _ _ _ h => h) (by first | exact Or.inl ⟨by rfl, (by intro W hSW; (try dsimp only at hSW); (try go_split_ands); go_simp <;> with_reducible rfl)⟩ | exact Or.inr ⟨by rfl, rfl⟩) hS0 ?_
                    try simp only [Act.put, List.getElem_toArray, List.getElem_cons_succ, List.getElem_cons_zero, List.setIfInBounds_toArray, List.set_cons_zero, List.set_cons_succ]
                    refine wpAnyU_take (i := 9) [10, 11, 12, 13, 14, 22, 23] rfl (by as_aux_lemma => kernel_rfl) (by as_aux_lemma => kernel_rfl) (by as_aux_lemma => kernel_rfl) (by as_aux_lemma => kernel_rfl) (by as_aux_lemma => kernel_rfl) (by as_aux_lemma => kernel_rfl) (fun _ _ _ h => h) (by first | exact Or.inl ⟨by rfl, (by intro W hSW; (try dsimp only at hSW); (try go_split_ands); go_simp <;> with_reducible rfl)⟩ | exact Or.inr ⟨by rfl, rfl⟩) hS0 ?_
                    try simp only [Act.put, List.getElem_toArray, List.getElem_cons_succ, List.getElem_cons_zero, List.setIfInBounds_toArray, List.set_cons_zero, List.set_cons_succ]
                    refine wpAnyU_take (i := 10) [11, 12, 13, 14, 22, 23] rfl (by as_aux_lemma => kernel_rfl) (by as_aux_lemma => kernel_rfl) (by as_aux_lemma => kernel_rfl) (by as_aux_lemma => kernel_rfl) (by as_aux_lemma => kernel_rfl) (by as_aux_lemma => kernel_rfl) (fun _ _ _ h => h) (by first | exact Or.inl ⟨by rfl, (by intro W hSW; (try dsimp only at hSW); (try go_split_ands); go_simp <;> with_reducible rfl)⟩ | exact Or.inr ⟨by rfl, rfl⟩) hS0 ?_
                    try simp only [Act.put, List.getElem_toArray, List.getElem_cons_succ, List.getElem_cons_zero, List.setIfInBounds_toArray, List.set_cons_zero, List.set_cons_succ]
                    refine wpAnyU_take (i := 11) [12, 13, 14, 22, 23] rfl (by as_aux_lemma => kernel_rfl) (by as_aux_lemma => kernel_rfl) (by as_aux_lemma => kernel_rfl) (by as_aux_lemma => kernel_rfl) (by as_aux_lemma => kernel_rfl) (by as_aux_lemma => kernel_rfl) (fun _ _ _ h => h) (by first | exact Or.inl ⟨by rfl, (by intro W hSW; (try dsimp only at hSW); (try go_split_ands); go_simp <;> with_reducible rfl)⟩ | exact Or.inr ⟨by rfl, rfl⟩) hS0 ?_
                    try simp only [Act.put, List.getElem_toArray, List.getElem_cons_succ, List.getElem_cons_zero, List.setIfInBounds_toArray, List.set_cons_zero, List.set_cons_succ]
                    refine wpAnyU_take (i := 12) [13, 14, 22, 23] rfl (by as_aux_lemma => kernel_rfl) (by as_aux_lemma => kernel_rfl) (by as_aux_lemma => kernel_rfl) (by as_aux_lemma => kernel_rfl) (by as_aux_lemma => kernel_rfl) (by as_aux_lemma => kernel_rfl) (fun _ _ _ h => h) (by first | exact Or.inl ⟨by rfl, (by intro W hSW; (try dsimp only at hSW); (try go_split_ands); go_simp <;> with_reducible rfl)⟩ | exact Or.inr ⟨by rfl, rfl⟩) hS0 ?_
                    try simp only [Act.put, List.getElem_toArray, List.getElem_cons_succ, List.getElem_cons_zero, List.setIfInBounds_toArray, List.set_cons_zero, List.set_cons_succ]
                    refine wpAnyU_take (i := 13) [14, 22, 23] rfl (by as_aux_lemma => kernel_rfl) (by as_aux_lemma => kernel_rfl) (by as_aux_lemma => kernel_rfl) (by as_aux_lemma => kernel_rfl) (by as_aux_lemma => kernel_rfl) (by as_aux_lemma => kernel_rfl) (fun _ _ _ h => h) (by first | exact Or.inl ⟨by rfl, (by intro W hSW; (try dsimp only at hSW); (try go_split_ands); go_simp <;> with_reducible rfl)⟩ | exact Or.inr ⟨by rfl, rfl⟩) hS0 ?_
                    try simp only [Act.put, List.getElem_toArray, List.getElem_cons_succ, List.getElem_cons_zero, List.setIfInBounds_toArray, List.set_cons_zero, List.set_cons_succ]
                    refine wpAnyU_take (i := 14) [22, 23] rfl (by as_aux_lemma => kernel_rfl) (by as_aux_lemma => kernel_rfl) (by as_aux_lemma => kernel_rfl) (by as_aux_lemma => kernel_rfl) (by as_aux_lemma => kernel_rfl) (by as_aux_lemma => kernel_rfl) (fun _ _ _ h => h) (by first | exact Or.inl ⟨by rfl, (by intro W hSW; (try dsimp only at hSW); (try go_split_ands); go_simp <;> with_reducible rfl)⟩ | exact Or.inr ⟨by rfl, rfl⟩) hS0 ?_
                    try simp only [Act.put, List.getElem_toArray, List.getElem_cons_succ, List.getElem_cons_zero, List.setIfInBounds_toArray, List.set_cons_zero, List.set_cons_succ]
                    refine wpAnyU_take (i := 15) [16, 17, 18, 19, 20, 21, 22, 23] rfl (by as_aux_lemma => kernel_rfl) (by as_aux_lemma => kernel_rfl) (by as_aux_lemma => kernel_rfl) (by as_aux_lemma => kernel_rfl) (by as_aux_lemma => kernel_rfl) (by as_aux_lemma => kernel_rfl) (fun _ _ _ h => h) (by first | exact Or.inl ⟨by rfl, (by intro W hSW; (try dsimp only at hSW); (try go_split_ands); go_simp <;> with_reducible rfl)⟩ | exact Or.inr ⟨by rfl, rfl⟩) hS0 ?_
                    try simp only [Act.put, List.getElem_toArray, List.getElem_cons_succ, List.getElem_cons_zero, List.setIfInBounds_toArray, List.set_cons_zero, List.set_cons_succ]
                    refine wpAnyU_take (i := 16) [17, 18, 19, 20, 21, 22, 23] rfl (by as_aux_lemma => kernel_rfl) (by as_aux_lemma => kernel_rfl) (by as_aux_lemma => kernel_rfl) (by as_aux_lemma => kernel_rfl) (by as_aux_lemma => kernel_rfl) (by as_aux_lemma => kernel_rfl) (fun _ _ _ h => h) (by first | exact Or.inl ⟨by rfl, (by intro W hSW; (try dsimp only at hSW); (try go_split_ands); go_simp <;> with_reducible rfl)⟩ | exact Or.inr ⟨by rfl, rfl⟩) hS0 ?_
                    try simp only [Act.put, List.getElem_toArray, List.getElem_cons_succ, List.getElem_cons_zero, List.setIfInBounds_toArray, List.set_cons_zero, List.set_cons_succ]
                    refine wpAnyU_take (i := 17) [18, 19, 20, 21, 22, 23] rfl (by as_aux_lemma => kernel_rfl) (by as_aux_lemma => kernel_rfl) (by as_aux_lemma => kernel_rfl) (by as_aux_lemma => kernel_rfl) (by as_aux_lemma => kernel_rfl) (by as_aux_lemma => kernel_rfl) (fun _ _ _ h => h) (by first | exact Or.inl ⟨by rfl, (by intro W hSW; (try dsimp only at hSW); (try go_split_ands); go_simp <;> with_reducible rfl)⟩ | exact Or.inr ⟨by rfl, rfl⟩) hS0 ?_
                    try simp only [Act.put, List.getElem_toArray, List.getElem_cons_succ, List.getElem_cons_zero, List.setIfInBounds_toArray, List.set_cons_zero, List.set_cons_succ]
                    refine wpAnyU_take (i := 18) [19, 20, 21, 22, 23] rfl (by as_aux_lemma => kernel_rfl) (by as_aux_lemma => kernel_rfl) (by as_aux_lemma => kernel_rfl) (by as_aux_lemma => kernel_rfl) (by as_aux_lemma => kernel_rfl) (by as_aux_lemma => kernel_rfl) (fun _ _ _ h => h) (by first | exact Or.inl ⟨by rfl, (by intro W hSW; (try dsimp only at hSW); (try go_split_ands); go_simp <;> with_reducible rfl)⟩ | exact Or.inr ⟨by rfl, rfl⟩) hS0 ?_
                    try simp only [Act.put, List.getElem_toArray, List.getElem_cons_succ, List.getElem_cons_zero, List.setIfInBounds_toArray, List.set_cons_zero, List.set_cons_succ]
                    refine wpAnyU_take (i := 19) [20, 21, 22, 23] rfl (by as_aux_lemma => kernel_rfl) (by as_aux_lemma => kernel_rfl) (by as_aux_lemma => kernel_rfl) (by as_aux_lemma => kernel_rfl) (by as_aux_lemma => kernel_rfl) (by as_aux_lemma => kernel_rfl) (fun _ _ _ h => h) (by first | exact Or.inl ⟨by rfl, (by intro W hSW; (try dsimp only at hSW); (try go_split_ands); go_simp <;> with_reducible rfl)⟩ | exact Or.inr ⟨by rfl, rfl⟩) hS0 ?_
                    try simp only [Act.put, List.getElem_toArray, List.getElem_cons_succ, List.getElem_cons_zero, List.setIfInBounds_toArray, List.set_cons_zero, List.set_cons_succ]
                    refine wpAnyU_take (i := 20) [21, 22, 23] rfl (by as_aux_lemma => kernel_rfl) (by as_aux_lemma => kernel_rfl) (by as_aux_lemma => kernel_rfl) (by as_aux_lemma => kernel_rfl) (by as_aux_lemma => kernel_rfl) (by as_aux_lemma => kernel_rfl) (fun _ _ _ h => h) (by first | exact Or.inl ⟨by rfl, (by intro W hSW; (try dsimp only at hSW); (try go_split_ands); go_simp <;> with_reducible rfl)⟩ | exact Or.inr ⟨by rfl, rfl⟩) hS0 ?_
                    try simp only [Act.put, List.getElem_toArray, List.getElem_cons_succ, List.getElem_cons_zero, List.setIfInBounds_toArray, List.set_cons_zero, List.set_cons_succ]
                    refine wpAnyU_take (i := 21) [22, 23] rfl (by as_aux_lemma => kernel_rfl) (by as_aux_lemma => kernel_rfl) (by as_aux_lemma => kernel_rfl) (by as_aux_lemma => kernel_rfl) (by as_aux_lemma => kernel_rfl) (by as_aux_lemma => kernel_rfl) (fun _ _ _ h => h) (by first | exact Or.inl ⟨by rfl, (by intro W hSW; (try dsimp only at hSW); (try go_split_ands); go_simp <;> with_reducible rfl)⟩ | exact Or.inr ⟨by rfl, rfl⟩) hS0 ?_
                    try simp only [Act.put, List.getElem_toArray, List.getElem_cons_succ, List.getElem_cons_zero, List.setIfInBounds_toArray, List.set_cons_zero, List.set_cons_succ]
                    refine wpAnyU_one (i := 22) (by kernel_rfl) rfl (fun K hK => ?_)
                    go_simp
                    go_at_call 29
                    (with_reducible refine HGO.out.mono ?_)
                    rintro e w8 ⟨rfl, hb8⟩
                    have hb8' : Below wr.heap.size wr w8 := (below_drewN (Below.refl _ _) 1).trans hb8
                    have hS1 : w8.cell? ⟨p, 1, none⟩ = some (.slice (some ⟨qg, qo, none⟩) qn qc) ∧ w8.cell? ⟨qg, qo, none⟩ = some (.int .u64 a.1) ∧ w8.cell? ⟨qg, qo + 1, none⟩ = some (.int .i64 a.2) := by
                      obtain ⟨y1, y2, y3⟩ := hS0
                      exact ⟨by rw [World.cell?_of_block (hb8.block _ (World.block_lt_of_cell? _ _ y1))]; exact y1, by rw [World.cell?_of_block (hb8.block _ (World.block_lt_of_cell? _ _ y2))]; exact y2, by rw [World.cell?_of_block (hb8.block _ (World.block_lt_of_cell? _ _ y3))]; exact y3⟩
                    have HB8 := Lib.hid hb8'
                    clear hb8 hb8'
                    refine hK.out _ _ (fun _ => hS1) (fun _ => ?_)
                    clear hK K
                    try simp only [Act.put, List.getElem_toArray, List.getElem_cons_succ, List.getElem_cons_zero, List.setIfInBounds_toArray, List.set_cons_zero, List.set_cons_succ]
                    refine wpAnyU_take (i := 23) [] rfl (by as_aux_lemma => kernel_rfl) (by as_aux_lemma => kernel_rfl) (by as_aux_lemma => kernel_rfl) (by as_aux_lemma => kernel_rfl) (by as_aux_lemma => kernel_rfl) (by as_aux_lemma => kernel_rfl) (fun _ _ _ h => h) (Or.inl ⟨by rfl, (by intro W hSW; (try dsimp only at hSW); (try go_split_ands); go_simp <;> with_reducible rfl)⟩) hS1 ?_
                    try simp only [Act.put, List.getElem_toArray, List.getElem_cons_succ, List.getElem_cons_zero, List.setIfInBounds_toArray, List.set_cons_zero, List.set_cons_succ]
                    refine wpAnyU_done (by kernel_rfl) ?_ _
                    clear hS0 hS1 HGO
                    go_wp2
                    go_meet
                    have hiff := goesP_F (HM.out.1.fr.stp.rep.hsNodup HM.out.1.hx) a.1 a.2
                    simp only at hiff
                    rw [HGB.out] at hiff
                    refine ⟨gb, rfl, HM.out.1.below HB8.out, HM.out.2.1.below HB8.out, (fun h => ⟨a, rest, rfl, hiff.1 h⟩), fun h => ?_⟩
                    exact popF_no (fun h9 => by rw [hiff.2 h9] at h; cases h) rest
                case rest =>
                  obtain ⟨b, rfl, hm8, hout8, hb1, hb2⟩ := hcut
                  have HON := Lib.hid (And.intro HM.out.2.2.1 HM.out.2.2.2)
                  clear HM hp hq
                  obtain ⟨w8, hw8⟩ : ∃ w8, wc = w8 := ⟨_, rfl⟩
                  rw [hw8] at hm8 hout8 ⊢
                  clear hw8
                  cases b with
                  | false =>
                    have hstop := hb2 rfl
                    obtain ⟨hp8, hq8⟩ := hm8.fr.stp.rep.pls i _ hm8.hx
                    simp only at hp8 hq8
                    rw [HON.out.2, hm8.p] at hp8
                    have cq : w8.cell? ⟨p, 1, none⟩ = some (.slice qa qn qc) := cell_of_row w8 p 1 _ _ _ hp8.blk
                    have ch : w8.cell? ⟨p, 0, none⟩ = some (.map (some x.H)) := cell_of_row w8 p 0 _ _ _ hp8.blk
                    have c00 := hm8.fr.cT 0 _ rfl
                    obtain ⟨hn9, hhn⟩ : ∃ hn9, x.hs.length = hn9 := ⟨_, rfl⟩
                    have hlen9 : ∀ ty, (Builtin.len_ #[68] ty #[.map (some x.H)]).run Try.prog w8 = .ok (.int .i64 hn9) w8 := fun ty => by
                      have h9 := gmap_len (P := Try.prog) (ty := ty) Try.underlying68 hp8.hl
                      rw [show (hsV x.hs).length = hn9 by rw [← hhn]; simp [hsV]] at h9
                      exact h9
                    by_cases hz : hn9 = 0 ∧ qn = 0
                    · obtain ⟨rfl, rfl⟩ := hz
                      have hhs : x.hs = [] := List.eq_nil_of_length_eq_zero hhn
                      have hcu : cur = [] := List.eq_nil_of_length_eq_zero hqn
                      obtain ⟨w9, hr9, ht9, hs9⟩ := hm8.fr.stp.rep.placeDel_r s
                      have hfin := hm8.fin hstop HL.out.2.2.1 HNS.out.2.2.1 hs9 (.inr ⟨rfl, hhs, hcu⟩) (hout8.step hs9)
                      have HST := Lib.hid hfin
                      clear hfin ht9 hs9 hp8 hq8 hstop hm8 hout8 hb1 hb2 hhn hqn hhs hcu
                      go_wp2
                      go_roundw
                      case rel => exact ⟨j2 + 1, _, oa, on, oc, by go_num, by omega, rfl, HST.out⟩
                      case measure => simp [Go.RowKit.intOf]; omega
                    · have hfin := hm8.fin hstop HL.out.2.2.1 HNS.out.2.2.1 (Stp.refl hm8.fr.stp.rep) (.inl rfl) hout8
                      have HST := Lib.hid hfin
                      clear hfin hp8 hq8 hstop hm8 hout8 hb1 hb2 hhn hqn
                      by_cases hh0 : hn9 = 0
                      · subst hh0
                        have hq1 : ((qn : Int) == 0) = false := by simp; omega
                        have hq2 : ¬ qn = 0 := by omega
                        clear hz
                        go_wp2
                        go_roundw
                        case rel => exact ⟨j2 + 1, _, oa, on, oc, by go_num, by omega, rfl, HST.out⟩
                        case measure => simp [Go.RowKit.intOf]; omega
                      · have hq1 : ((hn9 : Int) == 0) = false := by simp; omega
                        clear hz
                        go_wp2
                        go_roundw
                        case rel => exact ⟨j2 + 1, _, oa, on, oc, by go_num, by omega, rfl, HST.out⟩
                        case measure => simp [Go.RowKit.intOf]; omega
                  | true =>
                    obtain ⟨a, rest, rfl, hg⟩ := hb1 rfl
                    obtain ⟨hp8, hq8⟩ := hm8.fr.stp.rep.pls i _ hm8.hx
                    simp only at hp8 hq8
                    rw [HON.out.2, hm8.p] at hp8
                    rw [HON.out.2, hm8.qs] at hq8
                    obtain ⟨qg, qo, qc2, e, ca, cb⟩ := hq8.at_ 0 (by simp)
                    injection e with e1 e2 e3
                    subst e1 e3
                    simp only [Nat.zero_mul, Nat.add_zero, List.getElem_cons_zero] at ca cb
                    have cq : w8.cell? ⟨p, 1, none⟩ = some (.slice (some ⟨qg, qo, none⟩) qn qc) := cell_of_row w8 p 1 _ _ _ hp8.blk
                    obtain ⟨w9, hw9⟩ : ∃ w9, w8.alloc (.cells #[.int .u64 a.1, .int .i64 a.2] 77) = w9 := ⟨_, rfl⟩
                    have hb9 : Below w8.heap.size w8 w9 := by rw [← hw9]; exact (Below.refl _ _).alloc (Nat.le_refl _) _
                    have hs9 : Stp w8 t' w9 t' := (Stp.refl hm8.fr.stp.rep).below hb9
                    have k9 : w9.heap[w8.heap.size]? = some (.cells #[.int .u64 a.1, .int .i64 a.2] 77 (0, 0)) := by rw [← hw9]; exact heap_alloc_new w8 _
                    have nk9 : ¬ tfoot t' w8.heap.size := hm8.fr.stp.rep.nfoot_new (Nat.le_refl _)
                    obtain ⟨hp9, hq9⟩ := hs9.rep.pls i _ hm8.hx
                    simp only at hp9 hq9
                    rw [hm8.qs] at hq9
                    have hq9b := hq9
                    rw [HON.out.2] at hq9b
                    obtain ⟨q2, c2, hsl, hq9', hqb⟩ := hq9b.pop
                    obtain ⟨ht10, hs10⟩ := hs9.rep.queueSet_r hm8.hx hq9' (fun g2 hg2 => by rw [HON.out.2]; exact hqb g2 hg2)
                    have hce : w9.setCell ⟨x.p, 1, none⟩ (.slice (some q2) rest.length c2) = w9.setCell ⟨p, 1, none⟩ (.slice (some q2) rest.length c2) := by rw [hm8.p]
                    rw [hce] at hs10
                    rw [HON.out.2, hm8.p] at hp9
                    have cq9 : w9.cell? ⟨p, 1, none⟩ = some (.slice (some ⟨qg, qo, none⟩) qn qc) := cell_of_row w9 p 1 _ _ _ hp9.blk
                    have fq9 : w9.frozen? ⟨p, 1, none⟩ = false := by simp [World.frozen?, hp9.blk]
                    obtain ⟨w10, hw10⟩ : ∃ w10, w9.setCell ⟨p, 1, none⟩ (.slice (some q2) rest.length c2) = w10 := ⟨_, rfl⟩
                    rw [hw10] at hs10
                    have k10 := hs10.block k9 nk9
                    have nk10 := hs10.nfoot (lt_of_block k9) nk9
                    have d0 : w10.cell? ⟨w8.heap.size, 0, none⟩ = some (.int .u64 a.1) := cell_of_row w10 _ 0 _ _ _ k10
                    have d1 : w10.cell? ⟨w8.heap.size, 1, none⟩ = some (.int .i64 a.2) := cell_of_row w10 _ 1 _ _ _ k10
                    have hil : i < t'.pl.length := (List.getElem?_eq_some_iff.1 hm8.hx).1
                    have hx10 : (t'.pl.set i (s, { x with q := .slice (some q2) rest.length c2, qs := rest }))[i]? = some (s, { x with q := .slice (some q2) rest.length c2, qs := rest }) := by
                      rw [List.getElem?_set]; simp [hil]
                    have hho : Calls Try.prog 30 #[.pointer (some ⟨t.T, 0, none⟩), .pointer (some ⟨p, 0, none⟩), .int .u64 a.1, .string s, .int .i64 a.2] w10 fun e w' => e = .returned (.tuple #[]) ∧
                        ∃ nm, Stp w10 { t' with pl := t'.pl.set i (s, { x with q := .slice (some q2) rest.length c2, qs := rest }) } w' { t' with pl := t'.pl.set i (s, { x with q := .slice (some q2) rest.length c2, hs := kset x.hs a.1 a.2, qs := rest }), nm := nm } ∧ NmIs nm t'.nm a.1 s := by
                      have h9 := hold_r hs10.rep hx10 a.1 a.2
                      simp only [held1, List.set_set] at h9
                      have hpT : Value.pointer (some ⟨t'.T, 0, none⟩) = .pointer (some ⟨t.T, 0, none⟩) := by rw [hm8.fr.stp.T]
                      have hpp : Value.pointer (some ⟨x.p, 0, none⟩) = .pointer (some ⟨p, 0, none⟩) := by rw [hm8.p]
                      rw [hpT, hpp] at h9
                      exact h9
                    have HH := Lib.hid hho
                    have H8 := Lib.hid (And.intro hm8 (And.intro hg (And.intro hout8 (And.intro (hs9.trans hs10) (And.intro k10 nk10)))))
                    have hqn0 : (0 : Int) < (qn : Int) := by have h9 : rest.length + 1 = qn := hqn; omega
                    have hqn2 : 0 < qn := by omega
                    clear hm8 hp8 hq8 hb9 hs9 k9 nk9 hp9 hq9 hq9b hq9' hqb ht10 hs10 hce k10 nk10 hx10 hho hg hb1 hb2 hqn e2 hout8 hil
                    go_wp2_with fail
                    refine HH.out.mono ?_
                    rintro e w11 ⟨rfl, nm', hs11, hnm⟩
                    have k11 := hs11.block H8.out.2.2.2.2.1 H8.out.2.2.2.2.2
                    have nk11 := hs11.nfoot (lt_of_block H8.out.2.2.2.2.1) H8.out.2.2.2.2.2
                    have d0' : w11.cell? ⟨w8.heap.size, 0, none⟩ = some (.int .u64 a.1) := cell_of_row w11 _ 0 _ _ _ k11
                    have hs11d : Stp w11 { t' with pl := t'.pl.set i (s, { x with q := .slice (some q2) rest.length c2, hs := kset x.hs a.1 a.2, qs := rest }), nm := nm' } w11.drew { t' with pl := t'.pl.set i (s, { x with q := .slice (some q2) rest.length c2, hs := kset x.hs a.1 a.2, qs := rest }), nm := nm' } := (Stp.refl hs11.rep).below (below_drewN (Below.refl _ _) 1)
                    obtain ⟨w12, hr12, ht12, hs12⟩ := hs11d.rep.waitsDel_r a.1
                    simp only at hr12 ht12 hs12
                    have k12 := hs12.block (w := w11.drew) k11 nk11
                    have cT11 : w11.drew.cell? ⟨t.T, 1, none⟩ = some (.map (some t'.W)) := by
                      have h9 := cell_of_row w11.drew t'.T 1 _ _ _ hs11d.rep.tab.blk
                      rw [H8.out.1.fr.stp.T] at h9
                      exact h9
                    have cT12 : w12.cell? ⟨t.T, 1, none⟩ = some (.map (some t'.W)) := by
                      have h9 := cell_of_row w12 t'.T 1 _ _ _ hs12.rep.tab.blk
                      rw [H8.out.1.fr.stp.T] at h9
                      exact h9
                    have hS0 : w11.drew.cell? ⟨t.T, 1, none⟩ = some (.map (some t'.W)) ∧ w11.drew.cell? ⟨w8.heap.size, 0, none⟩ = some (.int .u64 a.1) := ⟨cT11, d0'⟩
                    have hS1 : w12.cell? ⟨t.T, 1, none⟩ = some (.map (some t'.W)) ∧ w12.cell? ⟨w8.heap.size, 0, none⟩ = some (.int .u64 a.1) := ⟨cT12, cell_of_row w12 _ 0 _ _ _ k12⟩
                    have hsAll : Stp w8 t' w12 { t' with pl := t'.pl.set i (s, { x with q := .slice (some q2) rest.length c2, hs := kset x.hs a.1 a.2, qs := rest }), nm := nm', ws := kdel t'.ws a.1 } := ((H8.out.2.2.2.1.trans hs11).trans hs11d).trans hs12
                    have huq : ∀ u s m s' m', (u, m) ∈ A.Q s → (u, m') ∈ A.Q s' → s = s' := fun u s m s' m' h1 h2 => by
                      have e1 := (HR.out.2.1.ws u s m).2 h1
                      rw [(HR.out.2.1.ws u s' m').2 h2] at e1
                      injection e1 with e1
                      injection e1 with e1 _
                      exact e1.symm
                    have hm12 := H8.out.1.serve H8.out.2.1 (HC.out.2 s) huq HL.out.2.2.1 HNS.out.2.2.1 hnm hsAll
                    have hout12 := H8.out.2.2.1.step hsAll
                    have hpl : (popped A o (ns.take j2) ++ pre).length < 8796093022200 := by
                      have h9 := H8.out.1.ln
                      have h8 := HSZ.out.ws
                      have h7 := HC.out.1
                      omega
                    obtain ⟨R, cp, w13, hr13, hout13, hs13, z1, z2⟩ := hout12.push hm12.fr.stp.rep a hm12.lo hpl
                    have hm13 := hm12.other (hs13 w t hm12.fr.stp HBB.out.1) HBB.out.2 z2 z1
                    rw [HON.out.1] at hr13 hout13
                    have hpn : (popped A o (ns.take j2) ++ (pre ++ [a])).length = on + 1 := by rw [← HON.out.1]; simp only [List.length_append, List.length_cons, List.length_nil]; omega
                    have hlen : on < t.ws.length := by
                      have h9 := hm13.ln
                      rw [hpn] at h9
                      omega
                    have HMID := Lib.hid (And.intro hm13 (And.intro hout13 (And.intro hpn hlen)))
                    have HR13 := Lib.hid hr13
                    clear hs11 hnm k11 nk11 d0' hs11d ht12 hs12 k12 cT11 cT12 hsAll huq hm12 hout12 hpl hr13 hout13 hs13 z1 z2 hm13 hpn hlen
                    go_upto_region 26 with fail
                    refine wp_region_U (fun W => W.cell? ⟨t.T, 1, none⟩ = some (.map (some t'.W)) ∧ W.cell? ⟨w8.heap.size, 0, none⟩ = some (.int .u64 a.1)) [] (by kernel_rfl) ?_
                    refine wpAnyU_take (i := 0) [1, 2, 3, 6] rfl (by as_aux_lemma => kernel_rfl) (by as_aux_lemma => kernel_rfl) (by as_aux_lemma => kernel_rfl) (by as_aux_lemma => kernel_rfl) (by as_aux_lemma => kernel_rfl) (by as_aux_lemma => kernel_rfl) (fun _ _ _ h => h) (Or.inl ⟨by rfl, (by intro W hSW; (try dsimp only at hSW); (try go_split_ands); go_simp <;> with_reducible rfl)⟩) hS0 ?_
                    try simp only [Act.put, List.getElem_toArray, List.getElem_cons_succ, List.getElem_cons_zero, List.setIfInBounds_toArray, List.set_cons_zero, List.set_cons_succ]
                    refine wpAnyU_take (i := 1) [2, 3, 6] rfl (by as_aux_lemma => kernel_rfl) (by as_aux_lemma => kernel_rfl) (by as_aux_lemma => kernel_rfl) (by as_aux_lemma => kernel_rfl) (by as_aux_lemma => kernel_rfl) (by as_aux_lemma => kernel_rfl) (fun _ _ _ h => h) (Or.inl ⟨by rfl, (by intro W hSW; (try dsimp only at hSW); (try go_split_ands); go_simp <;> with_reducible rfl)⟩) hS0 ?_
                    try simp only [Act.put, List.getElem_toArray, List.getElem_cons_succ, List.getElem_cons_zero, List.setIfInBounds_toArray, List.set_cons_zero, List.set_cons_succ]
                    refine wpAnyU_take (i := 2) [3, 6] rfl (by as_aux_lemma => kernel_rfl) (by as_aux_lemma => kernel_rfl) (by as_aux_lemma => kernel_rfl) (by as_aux_lemma => kernel_rfl) (by as_aux_lemma => kernel_rfl) (by as_aux_lemma => kernel_rfl) (fun _ _ _ h => h) (Or.inl ⟨by rfl, (by intro W hSW; (try dsimp only at hSW); (try go_split_ands); go_simp <;> with_reducible rfl)⟩) hS0 ?_
                    try simp only [Act.put, List.getElem_toArray, List.getElem_cons_succ, List.getElem_cons_zero, List.setIfInBounds_toArray, List.set_cons_zero, List.set_cons_succ]
                    refine wpAnyU_take (i := 3) [6] rfl (by as_aux_lemma => kernel_rfl) (by as_aux_lemma => kernel_rfl) (by as_aux_lemma => kernel_rfl) (by as_aux_lemma => kernel_rfl) (by as_aux_lemma => kernel_rfl) (by as_aux_lemma => kernel_rfl) (fun _ _ _ h => h) (Or.inl ⟨by rfl, (by intro W hSW; (try dsimp only at hSW); (try go_split_ands); go_simp <;> with_reducible rfl)⟩) hS0 ?_
                    try simp only [Act.put, List.getElem_toArray, List.getElem_cons_succ, List.getElem_cons_zero, List.setIfInBounds_toArray, List.set_cons_zero, List.set_cons_succ]
                    refine wpAnyU_take (i := 4) [5, 6] rfl (by as_aux_lemma => kernel_rfl) (by as_aux_lemma => kernel_rfl) (by as_aux_lemma => kernel_rfl) (by as_aux_lemma => kernel_rfl) (by as_aux_lemma => kernel_rfl) (by as_aux_lemma => kernel_rfl) (fun _ _ _ h => h) (Or.inl ⟨by rfl, (by intro W hSW; (try dsimp only at hSW); (try go_split_ands); go_simp <;> with_reducible rfl)⟩) hS0 ?_
                    try simp only [Act.put, List.getElem_toArray, List.getElem_cons_succ, List.getElem_cons_zero, List.setIfInBounds_toArray, List.set_cons_zero, List.set_cons_succ]
                    refine wpAnyU_take (i := 5) [6] rfl (by as_aux_lemma => kernel_rfl) (by as_aux_lemma => kernel_rfl) (by as_aux_lemma => kernel_rfl) (by as_aux_lemma => kernel_rfl) (by as_aux_lemma => kernel_rfl) (by as_aux_lemma => kernel_rfl) (fun _ _ _ h => h) (Or.inl ⟨by rfl, (by intro W hSW; (try dsimp only at hSW); (try go_split_ands); go_simp <;> with_reducible rfl)⟩) hS0 ?_
                    try simp only [Act.put, List.getElem_toArray, List.getElem_cons_succ, List.getElem_cons_zero, List.setIfInBounds_toArray, List.set_cons_zero, List.set_cons_succ]
                    refine wpAnyU_one (i := 6) (by kernel_rfl) rfl (fun K hK => ?_)
                    go_simp
                    refine hK.out _ _ (fun _ => hS1) (fun _ => ?_)
                    clear hK K
                    try simp only [Act.put, List.getElem_toArray, List.getElem_cons_succ, List.getElem_cons_zero, List.setIfInBounds_toArray, List.set_cons_zero, List.set_cons_succ]
                    refine wpAnyU_done (by kernel_rfl) ?_ _
                    obtain ⟨d2, d3⟩ := hS1
                    clear hS0 hr12
                    go_wp2_with (at_builtin; refine wpList_append_eq rfl rfl HR13.out rfl rfl ?_; clear HR13)
                    go_roundw
                    case rel => exact ⟨some ⟨R, 0, none⟩, on + 1, cp, pre ++ [a], rest, i, _, _, rfl, HMID.out.2.2.1, HMID.out.1, by rw [← List.append_assoc]; exact HMID.out.2.1⟩
                    case measure => have := HMID.out.2.2.2; simp [slen]; omega
            · obtain rfl : j2 = j := by omega
              have htn : ns.take j2 = ns := List.take_of_length_le (by have h9 := HNS.out.1; omega)
              have hrow := hl.out.row
              rw [htn] at hrow
              have hon : (popped A o ns).length = on := by
                obtain ⟨a9, c9, e9, -⟩ := (RdV.of_own (F := NoF) hrow (fun _ _ => noF _)).form
                injection e9 with _ e9 _
                exact e9.symm
              have hon2 : on ≤ 8796093022200 := by
                have h9 := hl.ln
                rw [htn, hon] at h9
                have h8 := HSZ.out.ws
                have h7 := HC.out.1
                omega
              obtain ⟨wm, v', w', hmk, hap, hown, hbl⟩ := copy_out2 (RdV.of_own (F := NoF) hrow (fun _ _ => noF _)) hon hon2
              have hpost : FreePost w t A o c (.returned v') w' := hl.post (by have h9 := HNS.out.1; omega) HNS.out.2.2.2.2.1 HNS.out.2.2.1 HNS.out.2.1 HC.out.2 HR.out.2.1 HSZ.out hbl hown
              have HP := Lib.hid hpost
              have HAP := Lib.hid hap
              have hpb : (on : Int) ≤ 8796093022200 := by omega
              have hjd : decide (j2 < j2) = false := by simp
              clear hl hrow hon hon2 hown hbl hpost hap htn
              go_wp2_with (at_builtin; refine wpList_append_eq rfl rfl HAP.out rfl rfl ?_; clear HAP)
              go_ret
              exact HP.out
end Mun
