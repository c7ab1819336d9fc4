/- Contract of a log: Check. -/
import Derived.Test.YtoblajbffnkkiaaMgG
import Derived.Test.YtoblajbffnkkiaaMgF
import Derived.Test.YtoblajbffnkkiaaMgD
import Derived.Test.YtoblajbffnkkiaaMgA
import Derived.Test.YtoblajbffnkkiaaR7K
set_option maxRecDepth 100000
set_option linter.unusedVariables false
set_option linter.unusedSimpArgs false
namespace Mun
open Go Go.RowKit
open Go.Proofs

section
variable {w : World} {D L : Nat} {m : LM} {bv sv : Value}

theorem l_check_none (h : LMem w D L m bv sv) (lsn : Nat) (hno : NoRec m lsn) : Calls Try.prog 28 #[.pointer (some ⟨L, 0, none⟩), .int .u64 lsn] w (NoOut w) := by
  have hha := l_has_no w D L m _ _ lsn h hno
  have HHA := Lib.hid hha
  clear h hha hno
  go_enter Try.func28, Try.ntmps28
  go_wp2_with fail
  refine HHA.out.mono ?_
  rintro e w1 ⟨rfl, k1, rfl⟩
  clear HHA
  go_wp2
  go_ret
  exact ⟨rfl, _, rfl⟩

theorem l_check_late (h : LMem w D L m bv sv) (i : Nat) (hi : i < m.recs.length) (hf : m.forced ≤ m.off i) : Calls Try.prog 28 #[.pointer (some ⟨L, 0, none⟩), .int .u64 (m.base + m.off i : Nat)] w (NoOut w) := by
  have hfo := fun k => l_forced (h.keep (w' := w.drewN k) (fun _ _ => rfl))
  obtain ⟨q, hq⟩ : ∃ q, m.base + m.off i = q := ⟨_, rfl⟩
  have hha := l_has_yes w D L m _ _ q i h hi hq
  obtain ⟨fo, hfoq⟩ : ∃ fo, m.base + m.forced = fo := ⟨_, rfl⟩
  have t2 : (fo : Int) ≤ (q : Int) := by omega
  have t2n : decide (fo ≤ q) = true := decide_eq_true (by omega)
  rw [hfoq] at hfo
  rw [hq]
  have HHA := Lib.hid hha
  have HFO := Lib.hid hfo
  clear h hha hfo hf hi hq hfoq
  go_enter Try.func28, Try.ntmps28
  go_wp2_with fail
  refine HHA.out.mono ?_
  rintro e w1 ⟨rfl, k1, rfl⟩
  go_wp2_with fail
  refine (HFO.out _).mono ?_
  rintro e w1 ⟨rfl, k1, rfl⟩
  rw [World.drewN_drewN]
  clear HHA HFO
  go_wp2
  go_ret
  exact ⟨rfl, _, rfl⟩
end

def ChkOut (w : World) (D L : Nat) (Z F : Foot) (dm : DM) (m : LM) (bv sv : Value) (lsn : Nat) (e : Ending) (w' : World) : Prop :=
  ((dm.setMark (markB m.base lsn)).2 ≠ 0 ∧ e = .returned (.int .i64 (dm.setMark (markB m.base lsn)).2) ∧ ∃ F', LogAt w' D L Z F' (dm.setMark (markB m.base lsn)).1 m bv sv ∧ Chg (uf F (lfoot L bv sv)) (uf F' (lfoot L bv sv)) w w') ∨
  ((dm.setMark (markB m.base lsn)).2 = 0 ∧ e = .returned (.int .i64 0) ∧ ∃ F', LogAt w' D L Z F' (dm.setMark (markB m.base lsn)).1 (m.chk lsn) bv sv ∧ Chg (uf F (lfoot L bv sv)) (uf F' (lfoot L bv sv)) w w')

set_option maxHeartbeats 4000000 in
theorem l_check_yes {Z : Foot} (w : World) (D L : Nat) (F : Foot) (dm : DM) (m : LM) (bv sv : Value) (i lsn : Nat) (h : LogAt w D L Z F dm m bv sv) (ho : dm.ops < 4398046511104) (hi : i < m.recs.length) (hq : m.base + m.off i = lsn) (hf : m.off i < m.forced) :
    Calls Try.prog 28 #[.pointer (some ⟨L, 0, none⟩), .int .u64 lsn] w (ChkOut w D L Z F dm m bv sv lsn) := by
  obtain ⟨ba, bn, bc, sa, sn, sc, rfl, rfl, HN⟩ := h.mem.forms
  have hfo := fun k => l_forced (h.mem.keep (w' := w.drewN k) (fun _ _ => rfl))
  have hha := l_has_yes w D L m _ _ lsn i h.mem hi hq
  obtain ⟨fo, hfoq⟩ : ∃ fo, m.base + m.forced = fo := ⟨_, rfl⟩
  have t2 : ¬ (fo : Int) ≤ (lsn : Int) := by omega
  have t2n : decide (fo ≤ lsn) = false := decide_eq_false (by omega)
  have hl64 : lsn < 18446744073709551616 := by have := h.mem.wf.base; have := h.mem.wf.len; have := h.mem.wf.forced; omega
  rw [hfoq] at hfo
  have HHA := Lib.hid hha
  have HFO := Lib.hid hfo
  have HM := Lib.hid h
  have HOP := Lib.hid (And.intro ho hl64)
  clear h hha hfo hf hi hq hfoq ho hl64
  go_enter Try.func28, Try.ntmps28
  go_wp2_with fail
  refine HHA.out.mono ?_
  rintro e w1 ⟨rfl, k1, rfl⟩
  go_wp2_with fail
  refine (HFO.out _).mono ?_
  rintro e w2 ⟨rfl, k2, hk2⟩
  have hb2 : Below w.heap.size w w2 := by rw [hk2]; exact below_drewN (below_drewN (Below.refl _ _) _) _
  have h2 := HM.out.below hb2
  have HB2 := Lib.hid hb2
  have HH2 := Lib.hid h2
  clear hk2 hb2 h2 HHA HFO
  go_upto_region 3 with (fail)
  clear t2 t2n
  have hS0 : w2.drew.cell? ⟨L, 0, none⟩ = some (.pointer (some ⟨D, 0, none⟩)) ∧ w2.drew.cell? ⟨L, 1, none⟩ = some (.int .u64 m.base) := ⟨HH2.out.mem.cell 0, HH2.out.mem.cell 1⟩
  have hmk : Calls Try.prog 54 #[.pointer (some ⟨L, 0, none⟩), .int .u64 m.base, .int .u64 lsn] w2.drew (MarkOut w2.drew m.base lsn) := l_marked w2.drew (.pointer (some ⟨L, 0, none⟩)) m.base lsn
  have HMK := Lib.hid hmk
  clear hmk
  refine wp_region_U (fun W => W.cell? ⟨L, 0, none⟩ = some (.pointer (some ⟨D, 0, none⟩)) ∧ W.cell? ⟨L, 1, none⟩ = some (.int .u64 m.base)) [] (by kernel_rfl) ?_
  refine wpAnyU_take (i := 0) [1, 2, 3, 11, 12] rfl (by as_aux_lemma => kernel_rfl) (by as_aux_lemma => kernel_rfl) (by as_aux_lemma => kernel_rfl) (by as_aux_lemma => kernel_rfl) (by as_aux_lemma => kernel_rfl) (by as_aux_lemma => kernel_rfl) (fun _ _ _ h => h) (Or.inl ⟨by rfl, (by intro W hSW; (try dsimp only at hSW); (try go_split_ands); go_simp <;> with_reducible rfl)⟩) hS0 ?_
  try simp only [Act.put, List.getElem_toArray, List.getElem_cons_succ, List.getElem_cons_zero, List.setIfInBounds_toArray, List.set_cons_zero, List.set_cons_succ]
  refine wpAnyU_take (i := 1) [2, 3, 11, 12] rfl (by as_aux_lemma => kernel_rfl) (by as_aux_lemma => kernel_rfl) (by as_aux_lemma => kernel_rfl) (by as_aux_lemma => kernel_rfl) (by as_aux_lemma => kernel_rfl) (by as_aux_lemma => kernel_rfl) (fun _ _ _ h => h) (Or.inl ⟨by rfl, (by intro W hSW; (try dsimp only at hSW); (try go_split_ands); go_simp <;> with_reducible rfl)⟩) hS0 ?_
  try simp only [Act.put, List.getElem_toArray, List.getElem_cons_succ, List.getElem_cons_zero, List.setIfInBounds_toArray, List.set_cons_zero, List.set_cons_succ]
  refine wpAnyU_take (i := 2) [3, 11, 12] rfl (by as_aux_lemma => kernel_rfl) (by as_aux_lemma => kernel_rfl) (by as_aux_lemma => kernel_rfl) (by as_aux_lemma => kernel_rfl) (by as_aux_lemma => kernel_rfl) (by as_aux_lemma => kernel_rfl) (fun _ _ _ h => h) (Or.inl ⟨by rfl, (by intro W hSW; (try dsimp only at hSW); (try go_split_ands); go_simp <;> with_reducible rfl)⟩) hS0 ?_
  try simp only [Act.put, List.getElem_toArray, List.getElem_cons_succ, List.getElem_cons_zero, List.setIfInBounds_toArray, List.set_cons_zero, List.set_cons_succ]
  refine wpAnyU_take (i := 3) [11, 12] rfl (by as_aux_lemma => kernel_rfl) (by as_aux_lemma => kernel_rfl) (by as_aux_lemma => kernel_rfl) (by as_aux_lemma => kernel_rfl) (by as_aux_lemma => kernel_rfl) (by as_aux_lemma => kernel_rfl) (fun _ _ _ h => h) (Or.inl ⟨by rfl, (by intro W hSW; (try dsimp only at hSW); (try go_split_ands); go_simp <;> with_reducible rfl)⟩) hS0 ?_
  try simp only [Act.put, List.getElem_toArray, List.getElem_cons_succ, List.getElem_cons_zero, List.setIfInBounds_toArray, List.set_cons_zero, List.set_cons_succ]
  refine wpAnyU_take (i := 4) [10, 11, 12] rfl (by as_aux_lemma => kernel_rfl) (by as_aux_lemma => kernel_rfl) (by as_aux_lemma => kernel_rfl) (by as_aux_lemma => kernel_rfl) (by as_aux_lemma => kernel_rfl) (by as_aux_lemma => kernel_rfl) (fun _ _ _ h => h) (Or.inl ⟨by rfl, (by intro W hSW; (try dsimp only at hSW); (try go_split_ands); go_simp <;> with_reducible rfl)⟩) hS0 ?_
  try simp only [Act.put, List.getElem_toArray, List.getElem_cons_succ, List.getElem_cons_zero, List.setIfInBounds_toArray, List.set_cons_zero, List.set_cons_succ]
  refine wpAnyU_take (i := 5) [6, 7, 8, 10, 11, 12] rfl (by as_aux_lemma => kernel_rfl) (by as_aux_lemma => kernel_rfl) (by as_aux_lemma => kernel_rfl) (by as_aux_lemma => kernel_rfl) (by as_aux_lemma => kernel_rfl) (by as_aux_lemma => kernel_rfl) (fun _ _ _ h => h) (Or.inl ⟨by rfl, (by intro W hSW; (try dsimp only at hSW); (try go_split_ands); go_simp <;> with_reducible rfl)⟩) hS0 ?_
  try simp only [Act.put, List.getElem_toArray, List.getElem_cons_succ, List.getElem_cons_zero, List.setIfInBounds_toArray, List.set_cons_zero, List.set_cons_succ]
  refine wpAnyU_take (i := 6) [7, 8, 10, 11, 12] rfl (by as_aux_lemma => kernel_rfl) (by as_aux_lemma => kernel_rfl) (by as_aux_lemma => kernel_rfl) (by as_aux_lemma => kernel_rfl) (by as_aux_lemma => kernel_rfl) (by as_aux_lemma => kernel_rfl) (fun _ _ _ h => h) (Or.inl ⟨by rfl, (by intro W hSW; (try dsimp only at hSW); (try go_split_ands); go_simp <;> with_reducible rfl)⟩) hS0 ?_
  try simp only [Act.put, List.getElem_toArray, List.getElem_cons_succ, List.getElem_cons_zero, List.setIfInBounds_toArray, List.set_cons_zero, List.set_cons_succ]
  refine wpAnyU_take (i := 7) [8, 10, 11, 12] rfl (by as_aux_lemma => kernel_rfl) (by as_aux_lemma => kernel_rfl) (by as_aux_lemma => kernel_rfl) (by as_aux_lemma => kernel_rfl) (by as_aux_lemma => kernel_rfl) (by as_aux_lemma => kernel_rfl) (fun _ _ _ h => h) (Or.inl ⟨by rfl, (by intro W hSW; (try dsimp only at hSW); (try go_split_ands); go_simp <;> with_reducible rfl)⟩) hS0 ?_
  try simp only [Act.put, List.getElem_toArray, List.getElem_cons_succ, List.getElem_cons_zero, List.setIfInBounds_toArray, List.set_cons_zero, List.set_cons_succ]
  refine wpAnyU_take (i := 8) [10, 11, 12] rfl (by as_aux_lemma => kernel_rfl) (by as_aux_lemma => kernel_rfl) (by as_aux_lemma => kernel_rfl) (by as_aux_lemma => kernel_rfl) (by as_aux_lemma => kernel_rfl) (by as_aux_lemma => kernel_rfl) (fun _ _ _ h => h) (Or.inl ⟨by rfl, (by intro W hSW; (try dsimp only at hSW); (try go_split_ands); go_simp <;> with_reducible rfl)⟩) hS0 ?_
  try simp only [Act.put, List.getElem_toArray, List.getElem_cons_succ, List.getElem_cons_zero, List.setIfInBounds_toArray, List.set_cons_zero, List.set_cons_succ]
  refine wpAnyU_take (i := 9) [10, 11, 12] rfl (by as_aux_lemma => kernel_rfl) (by as_aux_lemma => kernel_rfl) (by as_aux_lemma => kernel_rfl) (by as_aux_lemma => kernel_rfl) (by as_aux_lemma => kernel_rfl) (by as_aux_lemma => kernel_rfl) (fun _ _ _ h => h) (Or.inl ⟨by rfl, (by intro W hSW; (try dsimp only at hSW); (try go_split_ands); go_simp <;> with_reducible rfl)⟩) hS0 ?_
  try simp only [Act.put, List.getElem_toArray, List.getElem_cons_succ, List.getElem_cons_zero, List.setIfInBounds_toArray, List.set_cons_zero, List.set_cons_succ]
  refine wpAnyU_one (i := 10) (by kernel_rfl) rfl (fun K hK => ?_)
  go_simp
  go_at_call 54
  (with_reducible refine HMK.out.mono ?_)
  rintro e w4 ⟨mv, rfl, hmo, hmb⟩
  have hb4 : Below w.heap.size w w4 := (below_drewN HB2.out 1).trans (hmb.mono HB2.out.size)
  have h4 := HM.out.below hb4
  have hS4 : w4.cell? ⟨L, 0, none⟩ = some (.pointer (some ⟨D, 0, none⟩)) ∧ w4.cell? ⟨L, 1, none⟩ = some (.int .u64 m.base) := ⟨h4.mem.cell 0, h4.mem.cell 1⟩
  have hmr : RdB F w4 mv (markB m.base lsn) := hmo.rd (fun k hk hF => by have := HH2.out.disk.foot_lt k hF; have e9 : w2.drew.heap.size = w2.heap.size := rfl; omega)
  have hct := d_mark w4 D F dm h4.disk HOP.out.1 mv (markB m.base lsn) hmr
  obtain ⟨ma, mn, mc, rfl, -, -, -⟩ := OwnB.formN hmo (by simp [markB, leBytes])
  have HCT := Lib.hid hct
  have HB4 := Lib.hid hb4
  have HH4 := Lib.hid h4
  clear hmo hmb hb4 h4 hmr hct HMK
  refine hK.out _ _ (fun _ => hS4) (fun _ => ?_)
  clear hK K
  try simp only [Act.put, List.getElem_toArray, List.getElem_cons_succ, List.getElem_cons_zero, List.setIfInBounds_toArray, List.set_cons_zero, List.set_cons_succ]
  refine wpAnyU_one (i := 11) (by kernel_rfl) rfl (fun K hK => ?_)
  go_simp
  go_at_call 59
  (with_reducible refine HCT.out.mono ?_)
  rintro e w5 ⟨rfl, F', hd5, hc5⟩
  obtain ⟨kk, hkk⟩ : ∃ kk, (dm.setMark (markB m.base lsn)).2 = kk := ⟨_, rfl⟩
  rw [hkk]
  have hm5 : LMem w5 D L m (.slice ba bn bc) (.slice sa sn sc) := HH4.out.mem.keep (fun k h1 => hc5.block k (HH4.out.mem.lt k h1) (HM.out.disk.apart k (.inl h1)))
  have hS5 : w5.cell? ⟨L, 0, none⟩ = some (.pointer (some ⟨D, 0, none⟩)) ∧ w5.cell? ⟨L, 1, none⟩ = some (.int .u64 m.base) := ⟨hm5.cell 0, hm5.cell 1⟩
  have hch5 : Chg (uf F (lfoot L (.slice ba bn bc) (.slice sa sn sc))) (uf F' (lfoot L (.slice ba bn bc) (.slice sa sn sc))) w w5 := (Chg.of_below HB4.out _).trans (chg_uf hc5)
  have HK := Lib.hid hkk
  have HX5 := Lib.hid (And.intro hd5 (And.intro hm5 hch5))
  clear hkk hd5 hc5 hm5 hch5 HCT HB4 HH4
  refine hK.out _ _ (fun _ => hS5) (fun _ => ?_)
  clear hK K
  try simp only [Act.put, List.getElem_toArray, List.getElem_cons_succ, List.getElem_cons_zero, List.setIfInBounds_toArray, List.set_cons_zero, List.set_cons_succ]
  refine wpAnyU_take (i := 12) [] rfl (by as_aux_lemma => kernel_rfl) (by as_aux_lemma => kernel_rfl) (by as_aux_lemma => kernel_rfl) (by as_aux_lemma => kernel_rfl) (by as_aux_lemma => kernel_rfl) (by as_aux_lemma => kernel_rfl) (fun _ _ _ h => h) (Or.inl ⟨by rfl, (by intro W hSW; (try dsimp only at hSW); (try go_split_ands); go_simp <;> with_reducible rfl)⟩) hS5 ?_
  try simp only [Act.put, List.getElem_toArray, List.getElem_cons_succ, List.getElem_cons_zero, List.setIfInBounds_toArray, List.set_cons_zero, List.set_cons_succ]
  refine wpAnyU_done (by kernel_rfl) ?_ _
  clear hS0 hS4 hS5
  by_cases hk0 : kk = 0
  · subst hk0
    have hne := HX5.out.2.1
    obtain ⟨w6, hw6⟩ : ∃ w6, w5.setCell ⟨L, 5, none⟩ (.int .u64 lsn) = w6 := ⟨_, rfl⟩
    have c5 : w5.cell? ⟨L, 5, none⟩ = some (.int .u64 m.check) := hne.cell 5
    have f5 : w5.frozen? ⟨L, 5, none⟩ = false := hne.free 5
    have k6 : w6.heap[L]? = some (.cells (lcells D (m.chk lsn) (.slice ba bn bc) (.slice sa sn sc)) 86 (0, 0)) := by
      rw [← hw6]
      exact block_setCell (i := 5) hne.blk (.int .u64 lsn)
    have ko : ∀ k, k ≠ L → w6.heap[k]? = w5.heap[k]? := fun k h1 => by rw [← hw6]; exact block_setCell_ne _ h1
    have m6 : LMem w6 D L (m.chk lsn) (.slice ba bn bc) (.slice sa sn sc) :=
      ⟨k6, ownsRow_keep hne.b (fun k e => ko k (fun e2 => hne.neB (by rw [← e2]; exact e))), ownsRow_keep hne.s (fun k e => ko k (fun e2 => hne.neS (by rw [← e2]; exact e))), ⟨hne.wf.recs, hne.wf.len, hne.wf.base, hne.wf.forced, HOP.out.2⟩⟩
    have ch6 : Chg (lfoot L (.slice ba bn bc) (.slice sa sn sc)) (lfoot L (.slice ba bn bc) (.slice sa sn sc)) w5 w6 := by rw [← hw6]; exact chg_setCell _ _ _ (.inl rfl)
    have HY := Lib.hid (And.intro (LogAt.mk (HX5.out.1.chgE (chg_uf ch6)) m6) (HX5.out.2.2.trans (chg_ufE ch6)))
    clear hne k6 ko m6 ch6
    go_wp2
    go_ret
    exact .inr ⟨HK.out, rfl, F', HY.out.1, HY.out.2⟩
  · have hz : (kk != 0) = true := by simpa using hk0
    go_wp2
    go_ret
    exact .inl ⟨by rw [HK.out]; exact hk0, by rw [HK.out]; rfl, F', ⟨HX5.out.1, HX5.out.2.1⟩, HX5.out.2.2⟩
end Mun
