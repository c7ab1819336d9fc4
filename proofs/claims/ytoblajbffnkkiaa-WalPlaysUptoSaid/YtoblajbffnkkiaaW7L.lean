/- The law of chapter 7: what a log tells is what the model tells. -/
import Derived.Test.YtoblajbffnkkiaaR7K
import Derived.Test.YtoblajbffnkkiaaMgE
import Derived.Test.YtoblajbffnkkiaaMgG
set_option maxRecDepth 100000
set_option linter.unusedVariables false
set_option linter.unusedSimpArgs false
namespace Mun
open Go Go.RowKit
open Go.Proofs

theorem l_checked {w : World} {D L : Nat} {m : LM} {bv sv : Value} (h : LMem w D L m bv sv) : Calls Try.prog 60 #[.pointer (some ⟨L, 0, none⟩)] w fun e w' => e = .returned (.int .u64 m.check) ∧ w = w' := by
  have c5 : w.cell? ⟨L, 5, none⟩ = some (.int .u64 m.check) := h.cell 5
  clear h
  go_enter Try.func60, Try.ntmps60
  go_wp2
  go_ret
  exact ⟨rfl, rfl⟩

theorem LM.off_inj (m : LM) {i j : Nat} (hi : i < m.recs.length) (hj : j < m.recs.length) (h : m.off i = m.off j) : i = j := by
  rcases Nat.lt_trichotomy i j with h1 | h1 | h1
  · have := lenL_take_lt m.recs h1 hi; unfold LM.off at h; omega
  · exact h1
  · have := lenL_take_lt m.recs h1 hj; unfold LM.off at h; omega

theorem RdOut.yes {w w' : World} {m : LM} {j : Nat} {e : Ending} (hj : j < m.recs.length) (h : RdOut w m (m.base + m.off j) e w') : ReadYes w m.recs[j] (m.base + m.off (j + 1)) e w' := by
  rcases h with ⟨h1, -⟩ | ⟨i, hi, h1, h2⟩ | ⟨-, h1, -⟩
  · have := m.off_lt hj; unfold LM.fin at h1; omega
  · obtain rfl := m.off_inj hi hj (by omega)
    exact h2
  · exact absurd rfl (h1 j hj)

/-- within the looks -/
structure LkS (w wr : World) (D L : Nat) (m : LM) (bv sv bw : Value) (room : Nat) : Prop where
  bl : Below w.heap.size w wr
  mem : LMem wr D L m bv sv
  rl : RLv NoF wr m bw
  k3 : wr.heap[w.heap.size]? = some (.cells (rlC m bw room) 59 (0, 0))
theorem LkS.below {w wr w' : World} {D L : Nat} {m : LM} {bv sv bw : Value} {room : Nat} (h : LkS w wr D L m bv sv bw room) (hb : Below wr.heap.size wr w') : LkS w w' D L m bv sv bw room :=
  ⟨h.bl.trans (hb.mono h.bl.size), h.mem.keep (fun k hk => hb.block k (h.mem.lt k hk)), h.rl.below hb, (hb.block _ (lt_of_block h.k3)).trans h.k3⟩

set_option maxHeartbeats 4000000 in
theorem looks_true (w : World) (D L : Nat) (m : LM) (bv sv bw : Value) (room : Nat) (h : LMem w D L m bv sv) (hr : RLv NoF w m bw) :
    Calls Try.prog 32 #[.pointer (some ⟨L, 0, none⟩), .agg (rlC m bw room)] w fun e w' => e = .returned (.bool true) ∧ Below w.heap.size w w' := by
  obtain ⟨ba, bn, bc, rfl, HN⟩ := hr.form
  obtain ⟨wb, hwb⟩ : ∃ wb, w.alloc (.cells (rlC m (.slice ba bn bc) room) 59) = wb := ⟨_, rfl⟩
  have hbb : Below w.heap.size w wb := by rw [← hwb]; exact (Below.refl _ _).alloc (Nat.le_refl _) _
  have hS : LkS w wb D L m bv sv (.slice ba bn bc) room := ⟨hbb, h.keep (fun k hk => hbb.block k (h.lt k hk)), hr.below hbb, by rw [← hwb]; exact heap_alloc_new w _⟩
  obtain ⟨fo, hfo⟩ : ∃ fo, m.base + m.forced = fo := ⟨_, rfl⟩
  obtain ⟨fi, hfi⟩ : ∃ fi, m.fin = fi := ⟨_, rfl⟩
  have hw1 := hr.wf.base
  have hw2 := hr.wf.len
  have hw3 := hr.wf.forced
  have v1 : IntKind.u64.wrap (m.forced : Int) = (m.forced : Int) := wrap_u64_nat _ (by omega)
  have v2 : IntKind.u64.wrap ((m.base : Int) + (m.forced : Int)) = (fo : Int) := by
    rw [← hfo]
    have := wrap_u64_nat (m.base + m.forced) (by omega)
    push_cast at this ⊢
    exact this
  have HS := Lib.hid hS
  have HF := Lib.hid (And.intro hfo hfi)
  have hs1 : LkS w wb.drew D L m bv sv (.slice ba bn bc) room := hS.below (below_drewN (Below.refl _ _) 1)
  have hfs := l_first hs1.mem
  have HFS := Lib.hid hfs
  have HS1 := Lib.hid hs1
  clear h hr hbb hS hfo hfi hw1 hw2 hw3 hfs hs1
  go_enter Try.func32, Try.ntmps32
  go_upto_region 1 with fail
  try rw [hwb]
  clear hwb
  have hT1 : wb.drew.heap[w.heap.size]? = some (.cells (rlC m (.slice ba bn bc) room) 59 (0, 0)) ∧ wb.drew.cell? ⟨w.heap.size, 0, none⟩ = some (.int .u64 m.base) ∧ wb.drew.cell? ⟨w.heap.size, 1, none⟩ = some (.int .u64 m.check) ∧ wb.drew.cell? ⟨w.heap.size, 3, none⟩ = some (.int .i64 m.forced) := ⟨HS1.out.k3, (box5 HS1.out.k3).1, (box5 HS1.out.k3).2.1, (box5 HS1.out.k3).2.2.2.1⟩
  refine wp_region_U (fun W => W.heap[w.heap.size]? = some (.cells (rlC m (.slice ba bn bc) room) 59 (0, 0)) ∧ W.cell? ⟨w.heap.size, 0, none⟩ = some (.int .u64 m.base) ∧ W.cell? ⟨w.heap.size, 1, none⟩ = some (.int .u64 m.check) ∧ W.cell? ⟨w.heap.size, 3, none⟩ = some (.int .i64 m.forced)) [] (by kernel_rfl) ?_
  refine wpAnyU_take (i := 0) [1, 4, 5, 6, 7, 8, 9, 10, 11, 12, 13, 14, 15, 16, 17, 18, 19, 20, 21, 22, 23, 24, 25, 26, 27, 28, 29] rfl (by as_aux_lemma => kernel_rfl) (by as_aux_lemma => kernel_rfl) (by as_aux_lemma => kernel_rfl) (by as_aux_lemma => kernel_rfl) (by as_aux_lemma => kernel_rfl) (by as_aux_lemma => kernel_rfl) (fun _ _ _ h => h) (Or.inl ⟨by rfl, (by intro W hSW; (try dsimp only at hSW); (try go_split_ands); go_simp <;> with_reducible rfl)⟩) hT1 ?_
  try simp only [Act.put, List.getElem_toArray, List.getElem_cons_succ, List.getElem_cons_zero, List.setIfInBounds_toArray, List.set_cons_zero, List.set_cons_succ]
  refine wpAnyU_take (i := 2) [3, 4, 5, 6, 7, 8, 9, 10, 11, 12, 13, 14, 15, 16, 17, 18, 19, 20, 21, 22, 23, 24, 25, 26, 27, 28, 29] rfl (by as_aux_lemma => kernel_rfl) (by as_aux_lemma => kernel_rfl) (by as_aux_lemma => kernel_rfl) (by as_aux_lemma => kernel_rfl) (by as_aux_lemma => kernel_rfl) (by as_aux_lemma => kernel_rfl) (fun _ _ _ h => h) (Or.inl ⟨by rfl, (by intro W hSW; (try dsimp only at hSW); (try go_split_ands); go_simp <;> with_reducible rfl)⟩) hT1 ?_
  try simp only [Act.put, List.getElem_toArray, List.getElem_cons_succ, List.getElem_cons_zero, List.setIfInBounds_toArray, List.set_cons_zero, List.set_cons_succ]
  refine wpAnyU_take (i := 3) [4, 5, 6, 7, 8, 9, 10, 11, 12, 13, 14, 15, 16, 17, 18, 19, 20, 21, 22, 23, 24, 25, 26, 27, 28, 29] rfl (by as_aux_lemma => kernel_rfl) (by as_aux_lemma => kernel_rfl) (by as_aux_lemma => kernel_rfl) (by as_aux_lemma => kernel_rfl) (by as_aux_lemma => kernel_rfl) (by as_aux_lemma => kernel_rfl) (fun _ _ _ h => h) (Or.inl ⟨by rfl, (by intro W hSW; (try dsimp only at hSW); (try go_split_ands); go_simp <;> with_reducible rfl)⟩) hT1 ?_
  try simp only [Act.put, List.getElem_toArray, List.getElem_cons_succ, List.getElem_cons_zero, List.setIfInBounds_toArray, List.set_cons_zero, List.set_cons_succ]
  refine wpAnyU_one (i := 1) (by kernel_rfl) rfl (fun K hK => ?_)
  go_simp
  go_at_call 14
  (with_reducible refine HFS.out.mono ?_)
  rintro e w2 ⟨rfl, rfl⟩
  have hen := l_end HS1.out.mem
  rw [HF.out.2] at hen
  have HEN := Lib.hid hen
  clear hen HFS
  refine hK.out _ _ (fun _ => hT1) (fun _ => ?_)
  clear hK K
  try simp only [Act.put, List.getElem_toArray, List.getElem_cons_succ, List.getElem_cons_zero, List.setIfInBounds_toArray, List.set_cons_zero, List.set_cons_succ]
  refine wpAnyU_take (i := 4) [5, 6, 7, 8, 9, 10, 11, 12, 13, 14, 15, 16, 17, 18, 19, 20, 21, 22, 23, 24, 25, 26, 27, 28, 29] rfl (by as_aux_lemma => kernel_rfl) (by as_aux_lemma => kernel_rfl) (by as_aux_lemma => kernel_rfl) (by as_aux_lemma => kernel_rfl) (by as_aux_lemma => kernel_rfl) (by as_aux_lemma => kernel_rfl) (fun _ _ _ h => h) (Or.inl ⟨by rfl, (by intro W hSW; (try dsimp only at hSW); (try go_split_ands); go_simp <;> with_reducible rfl)⟩) hT1 ?_
  try simp only [Act.put, List.getElem_toArray, List.getElem_cons_succ, List.getElem_cons_zero, List.setIfInBounds_toArray, List.set_cons_zero, List.set_cons_succ]
  refine wpAnyU_take (i := 5) [6, 7, 8, 9, 10, 11, 12, 13, 14, 15, 16, 17, 18, 19, 20, 21, 22, 23, 24, 25, 26, 27, 28, 29] rfl (by as_aux_lemma => kernel_rfl) (by as_aux_lemma => kernel_rfl) (by as_aux_lemma => kernel_rfl) (by as_aux_lemma => kernel_rfl) (by as_aux_lemma => kernel_rfl) (by as_aux_lemma => kernel_rfl) (fun _ _ _ h => h) (Or.inl ⟨by rfl, (by intro W hSW; (try dsimp only at hSW); (try go_split_ands); go_simp <;> with_reducible rfl)⟩) hT1 ?_
  try simp only [Act.put, List.getElem_toArray, List.getElem_cons_succ, List.getElem_cons_zero, List.setIfInBounds_toArray, List.set_cons_zero, List.set_cons_succ]
  refine wpAnyU_take (i := 6) [7, 9, 10, 11, 12, 13, 14, 15, 16, 17, 18, 19, 20, 21, 22, 23, 24, 25, 26, 27, 28, 29] rfl (by as_aux_lemma => kernel_rfl) (by as_aux_lemma => kernel_rfl) (by as_aux_lemma => kernel_rfl) (by as_aux_lemma => kernel_rfl) (by as_aux_lemma => kernel_rfl) (by as_aux_lemma => kernel_rfl) (fun _ _ _ h => h) (by first | exact Or.inl ⟨by rfl, (by intro W hSW; (try dsimp only at hSW); (try go_split_ands); go_simp <;> with_reducible rfl)⟩ | exact Or.inr ⟨by rfl, rfl⟩) hT1 ?_
  try simp only [Act.put, List.getElem_toArray, List.getElem_cons_succ, List.getElem_cons_zero, List.setIfInBounds_toArray, List.set_cons_zero, List.set_cons_succ]
  refine wpAnyU_take (i := 8) [9, 10, 11, 12, 13, 14, 15, 16, 17, 18, 19, 20, 21, 22, 23, 24, 25, 26, 27, 28, 29] rfl (by as_aux_lemma => kernel_rfl) (by as_aux_lemma => kernel_rfl) (by as_aux_lemma => kernel_rfl) (by as_aux_lemma => kernel_rfl) (by as_aux_lemma => kernel_rfl) (by as_aux_lemma => kernel_rfl) (fun _ _ _ h => h) (yields_load_row (by rfl) _ _ rfl w.heap.size rfl _ _ (0, 0) _ (fun W hS => hS.1) Try.underlying59 rfl infoRL) hT1 ?_
  try simp only [Act.put, List.getElem_toArray, List.getElem_cons_succ, List.getElem_cons_zero, List.setIfInBounds_toArray, List.set_cons_zero, List.set_cons_succ]
  refine wpAnyU_one (i := 7) (by kernel_rfl) rfl (fun K hK => ?_)
  go_simp
  go_at_call 15
  (with_reducible refine HEN.out.mono ?_)
  rintro e w3 ⟨rfl, k3, hk3⟩
  have hs3 : LkS w w3 D L m bv sv (.slice ba bn bc) room := HS1.out.below (by rw [hk3]; exact below_drewN (Below.refl _ _) k3)
  have hT3 : w3.heap[w.heap.size]? = some (.cells (rlC m (.slice ba bn bc) room) 59 (0, 0)) ∧ w3.cell? ⟨w.heap.size, 0, none⟩ = some (.int .u64 m.base) ∧ w3.cell? ⟨w.heap.size, 1, none⟩ = some (.int .u64 m.check) ∧ w3.cell? ⟨w.heap.size, 3, none⟩ = some (.int .i64 m.forced) := ⟨hs3.k3, (box5 hs3.k3).1, (box5 hs3.k3).2.1, (box5 hs3.k3).2.2.2.1⟩
  have hre := r7end w3 (.slice ba bn bc) m room hs3.rl
  unfold EndOut at hre
  rw [HF.out.2] at hre
  have HS3 := Lib.hid hs3
  have HRE := Lib.hid hre
  clear hk3 hs3 hre HEN
  refine hK.out _ _ (fun _ => hT3) (fun _ => ?_)
  clear hK K
  try simp only [Act.put, List.getElem_toArray, List.getElem_cons_succ, List.getElem_cons_zero, List.setIfInBounds_toArray, List.set_cons_zero, List.set_cons_succ]
  refine wpAnyU_one (i := 9) (by kernel_rfl) rfl (fun K hK => ?_)
  go_simp
  go_at_call 57
  (with_reducible refine HRE.out.mono ?_)
  rintro e w4 ⟨rfl, hb4⟩
  have hs4 := HS3.out.below hb4
  have hT4 : w4.heap[w.heap.size]? = some (.cells (rlC m (.slice ba bn bc) room) 59 (0, 0)) ∧ w4.cell? ⟨w.heap.size, 0, none⟩ = some (.int .u64 m.base) ∧ w4.cell? ⟨w.heap.size, 1, none⟩ = some (.int .u64 m.check) ∧ w4.cell? ⟨w.heap.size, 3, none⟩ = some (.int .i64 m.forced) := ⟨hs4.k3, (box5 hs4.k3).1, (box5 hs4.k3).2.1, (box5 hs4.k3).2.2.2.1⟩
  have hfo := l_forced hs4.mem
  rw [HF.out.1] at hfo
  have HS4 := Lib.hid hs4
  have HFO := Lib.hid hfo
  clear hb4 hs4 hfo HRE
  refine hK.out _ _ (fun _ => hT4) (fun _ => ?_)
  clear hK K
  try simp only [Act.put, List.getElem_toArray, List.getElem_cons_succ, List.getElem_cons_zero, List.setIfInBounds_toArray, List.set_cons_zero, List.set_cons_succ]
  refine wpAnyU_take (i := 10) [11, 12, 13, 14, 15, 16, 17, 18, 19, 20, 21, 22, 23, 24, 25, 26, 27, 28, 29] rfl (by as_aux_lemma => kernel_rfl) (by as_aux_lemma => kernel_rfl) (by as_aux_lemma => kernel_rfl) (by as_aux_lemma => kernel_rfl) (by as_aux_lemma => kernel_rfl) (by as_aux_lemma => kernel_rfl) (fun _ _ _ h => h) (by first | exact Or.inl ⟨by rfl, (by intro W hSW; (try dsimp only at hSW); (try go_split_ands); go_simp <;> with_reducible rfl)⟩ | exact Or.inr ⟨by rfl, rfl⟩) hT4 ?_
  try simp only [Act.put, List.getElem_toArray, List.getElem_cons_succ, List.getElem_cons_zero, List.setIfInBounds_toArray, List.set_cons_zero, List.set_cons_succ]
  refine wpAnyU_take (i := 11) [12, 13, 14, 15, 16, 17, 18, 19, 20, 21, 22, 23, 24, 25, 26, 27, 28, 29] rfl (by as_aux_lemma => kernel_rfl) (by as_aux_lemma => kernel_rfl) (by as_aux_lemma => kernel_rfl) (by as_aux_lemma => kernel_rfl) (by as_aux_lemma => kernel_rfl) (by as_aux_lemma => kernel_rfl) (fun _ _ _ h => h) (Or.inl ⟨by rfl, (by intro W hSW; (try dsimp only at hSW); (try go_split_ands); go_simp <;> with_reducible rfl)⟩) hT4 ?_
  try simp only [Act.put, List.getElem_toArray, List.getElem_cons_succ, List.getElem_cons_zero, List.setIfInBounds_toArray, List.set_cons_zero, List.set_cons_succ]
  refine wpAnyU_take (i := 12) [13, 14, 15, 16, 17, 18, 19, 20, 21, 22, 23, 24, 25, 26, 27, 28, 29] rfl (by as_aux_lemma => kernel_rfl) (by as_aux_lemma => kernel_rfl) (by as_aux_lemma => kernel_rfl) (by as_aux_lemma => kernel_rfl) (by as_aux_lemma => kernel_rfl) (by as_aux_lemma => kernel_rfl) (fun _ _ _ h => h) (Or.inl ⟨by rfl, (by intro W hSW; (try dsimp only at hSW); (try go_split_ands); go_simp <;> with_reducible rfl)⟩) hT4 ?_
  try simp only [Act.put, List.getElem_toArray, List.getElem_cons_succ, List.getElem_cons_zero, List.setIfInBounds_toArray, List.set_cons_zero, List.set_cons_succ]
  refine wpAnyU_take (i := 13) [14, 21, 22, 23, 24, 25, 26, 27, 28, 29] rfl (by as_aux_lemma => kernel_rfl) (by as_aux_lemma => kernel_rfl) (by as_aux_lemma => kernel_rfl) (by as_aux_lemma => kernel_rfl) (by as_aux_lemma => kernel_rfl) (by as_aux_lemma => kernel_rfl) (fun _ _ _ h => h) (by first | exact Or.inl ⟨by rfl, (by intro W hSW; (try dsimp only at hSW); (try go_split_ands); go_simp <;> with_reducible rfl)⟩ | exact Or.inr ⟨by rfl, rfl⟩) hT4 ?_
  try simp only [Act.put, List.getElem_toArray, List.getElem_cons_succ, List.getElem_cons_zero, List.setIfInBounds_toArray, List.set_cons_zero, List.set_cons_succ]
  refine wpAnyU_take (i := 15) [16, 20, 21, 22, 23, 24, 25, 26, 27, 28, 29] rfl (by as_aux_lemma => kernel_rfl) (by as_aux_lemma => kernel_rfl) (by as_aux_lemma => kernel_rfl) (by as_aux_lemma => kernel_rfl) (by as_aux_lemma => kernel_rfl) (by as_aux_lemma => kernel_rfl) (fun _ _ _ h => h) (by first | exact Or.inl ⟨by rfl, (by intro W hSW; (try dsimp only at hSW); (try go_split_ands); go_simp <;> with_reducible rfl)⟩ | exact Or.inr ⟨by rfl, rfl⟩) hT4 ?_
  try simp only [Act.put, List.getElem_toArray, List.getElem_cons_succ, List.getElem_cons_zero, List.setIfInBounds_toArray, List.set_cons_zero, List.set_cons_succ]
  refine wpAnyU_take (i := 16) [20, 21, 22, 23, 24, 25, 26, 27, 28, 29] rfl (by as_aux_lemma => kernel_rfl) (by as_aux_lemma => kernel_rfl) (by as_aux_lemma => kernel_rfl) (by as_aux_lemma => kernel_rfl) (by as_aux_lemma => kernel_rfl) (by as_aux_lemma => kernel_rfl) (fun _ _ _ h => h) (by first | exact Or.inl ⟨by rfl, (by intro W hSW; (try dsimp only at hSW); (try go_split_ands); go_simp <;> with_reducible rfl)⟩ | exact Or.inr ⟨by rfl, rfl⟩) hT4 ?_
  try simp only [Act.put, List.getElem_toArray, List.getElem_cons_succ, List.getElem_cons_zero, List.setIfInBounds_toArray, List.set_cons_zero, List.set_cons_succ]
  refine wpAnyU_take (i := 17) [18, 19, 20, 21, 22, 23, 24, 25, 26, 27, 28, 29] rfl (by as_aux_lemma => kernel_rfl) (by as_aux_lemma => kernel_rfl) (by as_aux_lemma => kernel_rfl) (by as_aux_lemma => kernel_rfl) (by as_aux_lemma => kernel_rfl) (by as_aux_lemma => kernel_rfl) (fun _ _ _ h => h) (by first | exact Or.inl ⟨by rfl, (by intro W hSW; (try dsimp only at hSW); (try go_split_ands); go_simp <;> with_reducible rfl)⟩ | exact Or.inr ⟨by rfl, rfl⟩) hT4 ?_
  try simp only [Act.put, List.getElem_toArray, List.getElem_cons_succ, List.getElem_cons_zero, List.setIfInBounds_toArray, List.set_cons_zero, List.set_cons_succ]
  refine wpAnyU_take (i := 18) [19, 20, 21, 22, 23, 24, 25, 26, 27, 28, 29] rfl (by as_aux_lemma => kernel_rfl) (by as_aux_lemma => kernel_rfl) (by as_aux_lemma => kernel_rfl) (by as_aux_lemma => kernel_rfl) (by as_aux_lemma => kernel_rfl) (by as_aux_lemma => kernel_rfl) (fun _ _ _ h => h) (by first | exact Or.inl ⟨by rfl, (by intro W hSW; (try dsimp only at hSW); (try go_split_ands); go_simp <;> with_reducible rfl)⟩ | exact Or.inr ⟨by rfl, rfl⟩) hT4 ?_
  try simp only [Act.put, List.getElem_toArray, List.getElem_cons_succ, List.getElem_cons_zero, List.setIfInBounds_toArray, List.set_cons_zero, List.set_cons_succ]
  refine wpAnyU_take (i := 19) [20, 21, 22, 23, 24, 25, 26, 27, 28, 29] rfl (by as_aux_lemma => kernel_rfl) (by as_aux_lemma => kernel_rfl) (by as_aux_lemma => kernel_rfl) (by as_aux_lemma => kernel_rfl) (by as_aux_lemma => kernel_rfl) (by as_aux_lemma => kernel_rfl) (fun _ _ _ h => h) (by first | exact Or.inl ⟨by rfl, (by intro W hSW; (try dsimp only at hSW); (try go_split_ands); go_simp <;> with_reducible rfl)⟩ | exact Or.inr ⟨by rfl, rfl⟩) hT4 ?_
  try simp only [Act.put, List.getElem_toArray, List.getElem_cons_succ, List.getElem_cons_zero, List.setIfInBounds_toArray, List.set_cons_zero, List.set_cons_succ]
  refine wpAnyU_take (i := 20) [21, 22, 23, 24, 25, 26, 27, 28, 29] rfl (by as_aux_lemma => kernel_rfl) (by as_aux_lemma => kernel_rfl) (by as_aux_lemma => kernel_rfl) (by as_aux_lemma => kernel_rfl) (by as_aux_lemma => kernel_rfl) (by as_aux_lemma => kernel_rfl) (fun _ _ _ h => h) (by first | exact Or.inl ⟨by rfl, (by intro W hSW; (try dsimp only at hSW); (try go_split_ands); go_simp <;> with_reducible rfl)⟩ | exact Or.inr ⟨by rfl, rfl⟩) hT4 ?_
  try simp only [Act.put, List.getElem_toArray, List.getElem_cons_succ, List.getElem_cons_zero, List.setIfInBounds_toArray, List.set_cons_zero, List.set_cons_succ]
  refine wpAnyU_one (i := 14) (by kernel_rfl) rfl (fun K hK => ?_)
  go_simp
  go_at_call 17
  (with_reducible refine HFO.out.mono ?_)
  rintro e w5 ⟨rfl, k5, hk5⟩
  have hs5 : LkS w w5 D L m bv sv (.slice ba bn bc) room := HS4.out.below (by rw [hk5]; exact below_drewN (Below.refl _ _) k5)
  have hT5 : w5.heap[w.heap.size]? = some (.cells (rlC m (.slice ba bn bc) room) 59 (0, 0)) ∧ w5.cell? ⟨w.heap.size, 0, none⟩ = some (.int .u64 m.base) ∧ w5.cell? ⟨w.heap.size, 1, none⟩ = some (.int .u64 m.check) ∧ w5.cell? ⟨w.heap.size, 3, none⟩ = some (.int .i64 m.forced) := ⟨hs5.k3, (box5 hs5.k3).1, (box5 hs5.k3).2.1, (box5 hs5.k3).2.2.2.1⟩
  have hck := l_checked hs5.mem
  have HS5 := Lib.hid hs5
  have HCK := Lib.hid hck
  clear hk5 hs5 hck HFO
  refine hK.out _ _ (fun _ => hT5) (fun _ => ?_)
  clear hK K
  try simp only [Act.put, List.getElem_toArray, List.getElem_cons_succ, List.getElem_cons_zero, List.setIfInBounds_toArray, List.set_cons_zero, List.set_cons_succ]
  refine wpAnyU_take (i := 21) [22, 23, 24, 25, 26, 27, 28, 29] rfl (by as_aux_lemma => kernel_rfl) (by as_aux_lemma => kernel_rfl) (by as_aux_lemma => kernel_rfl) (by as_aux_lemma => kernel_rfl) (by as_aux_lemma => kernel_rfl) (by as_aux_lemma => kernel_rfl) (fun _ _ _ h => h) (by first | exact Or.inl ⟨by rfl, (by intro W hSW; (try dsimp only at hSW); (try go_split_ands); go_simp <;> with_reducible rfl)⟩ | exact Or.inr ⟨by rfl, rfl⟩) hT5 ?_
  try simp only [Act.put, List.getElem_toArray, List.getElem_cons_succ, List.getElem_cons_zero, List.setIfInBounds_toArray, List.set_cons_zero, List.set_cons_succ]
  refine wpAnyU_take (i := 22) [23, 24, 25, 26, 27, 28, 29] rfl (by as_aux_lemma => kernel_rfl) (by as_aux_lemma => kernel_rfl) (by as_aux_lemma => kernel_rfl) (by as_aux_lemma => kernel_rfl) (by as_aux_lemma => kernel_rfl) (by as_aux_lemma => kernel_rfl) (fun _ _ _ h => h) (Or.inl ⟨by rfl, (by intro W hSW; (try dsimp only at hSW); (try go_split_ands); go_simp <;> with_reducible rfl)⟩) hT5 ?_
  try simp only [Act.put, List.getElem_toArray, List.getElem_cons_succ, List.getElem_cons_zero, List.setIfInBounds_toArray, List.set_cons_zero, List.set_cons_succ]
  refine wpAnyU_take (i := 23) [24, 25, 26, 27, 28, 29] rfl (by as_aux_lemma => kernel_rfl) (by as_aux_lemma => kernel_rfl) (by as_aux_lemma => kernel_rfl) (by as_aux_lemma => kernel_rfl) (by as_aux_lemma => kernel_rfl) (by as_aux_lemma => kernel_rfl) (fun _ _ _ h => h) (Or.inl ⟨by rfl, (by intro W hSW; (try dsimp only at hSW); (try go_split_ands); go_simp <;> with_reducible rfl)⟩) hT5 ?_
  try simp only [Act.put, List.getElem_toArray, List.getElem_cons_succ, List.getElem_cons_zero, List.setIfInBounds_toArray, List.set_cons_zero, List.set_cons_succ]
  refine wpAnyU_take (i := 24) [25, 28, 29] rfl (by as_aux_lemma => kernel_rfl) (by as_aux_lemma => kernel_rfl) (by as_aux_lemma => kernel_rfl) (by as_aux_lemma => kernel_rfl) (by as_aux_lemma => kernel_rfl) (by as_aux_lemma => kernel_rfl) (fun _ _ _ h => h) (by first | exact Or.inl ⟨by rfl, (by intro W hSW; (try dsimp only at hSW); (try go_split_ands); go_simp <;> with_reducible rfl)⟩ | exact Or.inr ⟨by rfl, rfl⟩) hT5 ?_
  try simp only [Act.put, List.getElem_toArray, List.getElem_cons_succ, List.getElem_cons_zero, List.setIfInBounds_toArray, List.set_cons_zero, List.set_cons_succ]
  refine wpAnyU_take (i := 26) [27, 28, 29] rfl (by as_aux_lemma => kernel_rfl) (by as_aux_lemma => kernel_rfl) (by as_aux_lemma => kernel_rfl) (by as_aux_lemma => kernel_rfl) (by as_aux_lemma => kernel_rfl) (by as_aux_lemma => kernel_rfl) (fun _ _ _ h => h) (by first | exact Or.inl ⟨by rfl, (by intro W hSW; (try dsimp only at hSW); (try go_split_ands); go_simp <;> with_reducible rfl)⟩ | exact Or.inr ⟨by rfl, rfl⟩) hT5 ?_
  try simp only [Act.put, List.getElem_toArray, List.getElem_cons_succ, List.getElem_cons_zero, List.setIfInBounds_toArray, List.set_cons_zero, List.set_cons_succ]
  refine wpAnyU_take (i := 27) [28, 29] rfl (by as_aux_lemma => kernel_rfl) (by as_aux_lemma => kernel_rfl) (by as_aux_lemma => kernel_rfl) (by as_aux_lemma => kernel_rfl) (by as_aux_lemma => kernel_rfl) (by as_aux_lemma => kernel_rfl) (fun _ _ _ h => h) (by first | exact Or.inl ⟨by rfl, (by intro W hSW; (try dsimp only at hSW); (try go_split_ands); go_simp <;> with_reducible rfl)⟩ | exact Or.inr ⟨by rfl, rfl⟩) hT5 ?_
  try simp only [Act.put, List.getElem_toArray, List.getElem_cons_succ, List.getElem_cons_zero, List.setIfInBounds_toArray, List.set_cons_zero, List.set_cons_succ]
  refine wpAnyU_one (i := 25) (by kernel_rfl) rfl (fun K hK => ?_)
  go_simp
  go_at_call 60
  (with_reducible refine HCK.out.mono ?_)
  rintro e w6 ⟨rfl, rfl⟩
  clear HCK
  refine hK.out _ _ (fun _ => hT5) (fun _ => ?_)
  clear hK K
  try simp only [Act.put, List.getElem_toArray, List.getElem_cons_succ, List.getElem_cons_zero, List.setIfInBounds_toArray, List.set_cons_zero, List.set_cons_succ]
  refine wpAnyU_take (i := 28) [29] rfl (by as_aux_lemma => kernel_rfl) (by as_aux_lemma => kernel_rfl) (by as_aux_lemma => kernel_rfl) (by as_aux_lemma => kernel_rfl) (by as_aux_lemma => kernel_rfl) (by as_aux_lemma => kernel_rfl) (fun _ _ _ h => h) (by first | exact Or.inl ⟨by rfl, (by intro W hSW; (try dsimp only at hSW); (try go_split_ands); go_simp <;> with_reducible rfl)⟩ | exact Or.inr ⟨by rfl, rfl⟩) hT5 ?_
  try simp only [Act.put, List.getElem_toArray, List.getElem_cons_succ, List.getElem_cons_zero, List.setIfInBounds_toArray, List.set_cons_zero, List.set_cons_succ]
  refine wpAnyU_take (i := 29) [] rfl (by as_aux_lemma => kernel_rfl) (by as_aux_lemma => kernel_rfl) (by as_aux_lemma => kernel_rfl) (by as_aux_lemma => kernel_rfl) (by as_aux_lemma => kernel_rfl) (by as_aux_lemma => kernel_rfl) (fun _ _ _ h => h) (Or.inl ⟨by rfl, (by intro W hSW; (try dsimp only at hSW); (try go_split_ands); go_simp <;> with_reducible rfl)⟩) hT5 ?_
  try simp only [Act.put, List.getElem_toArray, List.getElem_cons_succ, List.getElem_cons_zero, List.setIfInBounds_toArray, List.set_cons_zero, List.set_cons_succ]
  refine wpAnyU_done (by kernel_rfl) ?_ _
  clear hT1 hT3 hT4 hT5
  rename_i i1 i2 i3 i4 i5
  clear i1 i2 i3 i4 i5 v1 v2
  obtain ⟨z0, -, -, -, -⟩ := box5 HS5.out.k3
  go_wp2_with fail
  clear z0
  go_loopw [5, 6, 7, 8, 9, 10, 11] (fun ai _ _ _ _ _ _ wr => ∃ j A : Nat, ai = .int .u64 A ∧ m.base + m.off j = A ∧ j ≤ m.recs.length ∧ LkS w wr D L m bv sv (.slice ba bn bc) room) (fun ai _ _ _ _ _ _ _ => fi - (intOf ai).toNat)
  case atStart => exact ⟨0, m.base, rfl, rfl, Nat.zero_le _, HS5.out⟩
  case round =>
    obtain ⟨j, A, rfl, hA, hj, hS⟩ := hrel
    have he := r7end wr (.slice ba bn bc) m room hS.rl
    unfold EndOut at he
    rw [HF.out.2] at he
    have HE := Lib.hid he
    have HS0 := Lib.hid hS
    clear hS he
    have hfl : fi = m.base + lenL m.recs := HF.out.2.symm
    rcases Nat.lt_or_ge j m.recs.length with hlt | hge
    · have hAf : A < fi := by have := m.off_lt hlt; omega
      have hAi : (A : Int) < (fi : Int) := by omega
      have hAd : decide (A < fi) = true := decide_eq_true hAf
      obtain ⟨r, hr⟩ : ∃ r, m.recs[j] = r := ⟨_, rfl⟩
      obtain ⟨nx, hnx⟩ : ∃ nx, m.base + m.off (j + 1) = nx := ⟨_, rfl⟩
      have hAx : A < nx := by have h1 := m.off_succ hlt; have h2 := recLen_pos m.recs[j]; omega
      have hryes := fun (W : World) (hW : LMem W D L m bv sv) => l_read_yes W D L m bv sv j hW hlt
      have hrref := fun (W : World) (hW : RLv NoF W m (.slice ba bn bc)) => r7read W (.slice ba bn bc) m room A hW (by have := hW.wf.base; have := hW.wf.len; omega)
      have hro := fun (W W' : World) (e : Ending) (h : RdOut W m A e W') => RdOut.yes (w := W) (w' := W') (e := e) hlt (by rw [hA]; exact h)
      rw [hA, hr, hnx] at hryes
      rw [hr, hnx] at hro
      have HYES := Lib.hid hryes
      have HREF := Lib.hid hrref
      have HRO := Lib.hid hro
      have HJ := Lib.hid (And.intro hnx (And.intro hlt (And.intro hAf hAx)))
      clear hA hj hlt hAf hAx hr hnx hryes hrref hro hfl
      go_wp2_with (first | (refine wpList_load_row rfl _ _ rfl w.heap.size rfl _ _ (0, 0) _ HS0.out.k3 Try.underlying59 rfl infoRL ?_) | fail)
      refine HE.out.mono ?_
      rintro e w2 ⟨rfl, hb2⟩
      have hS2 := HS0.out.below hb2
      have HS2 := Lib.hid hS2
      clear hS2 hb2 HE HS0
      go_wp2_with fail
      refine (HYES.out _ HS2.out.mem).mono ?_
      rintro e w3 ⟨x, rfl, hrec, hb3⟩
      obtain ⟨da, dn, dc, ca, cn, cc, e1, e2, -⟩ := hrec.open
      unfold rval
      rw [e1, e2]
      obtain ⟨g6, hg6⟩ : ∃ g6, w3.heap.size = g6 := ⟨_, rfl⟩
      obtain ⟨w4, hw4⟩ : ∃ w4, w3.alloc (.cells #[.int .i64 r.kind, .int .u64 r.tx, .int .u64 r.prev, .int .u64 r.next, .slice da dn dc, .slice ca cn cc] 26) = w4 := ⟨_, rfl⟩
      have hb4 : Below w3.heap.size w3 w4 := by rw [← hw4]; exact (Below.refl _ _).alloc (Nat.le_refl _) _
      have hS4 := (HS2.out.below hb3).below hb4
      have hrec4 := hrec.below hb4
      have k46 : w4.heap[g6]? = some (.cells (rcs r (.slice da dn dc) (.slice ca cn cc)) 26 (0, 0)) := by rw [← hw4, ← hg6]; exact heap_alloc_new w3 _
      have HW4 := Lib.hid hw4
      have HS4 := Lib.hid hS4
      have HR4 := Lib.hid (And.intro hrec4 (And.intro e1 (And.intro e2 k46)))
      clear hrec hb3 e1 e2 hw4 hb4 hS4 hrec4 k46 HYES HS2 hAi hAd
      go_wp2_with (first | (rw [HW4.out]; refine wpList_load_row rfl _ _ rfl w.heap.size rfl _ _ (0, 0) _ HS4.out.k3 Try.underlying59 rfl infoRL ?_) | fail)
      refine (HREF.out _ HS4.out.rl).mono ?_
      rintro e w5 hrd5
      obtain ⟨y, rfl, hrec5, hb5⟩ := HRO.out _ _ _ hrd5
      obtain ⟨da', dn', dc', ca', cn', cc', e1', e2', -⟩ := hrec5.open
      unfold rval
      rw [e1', e2']
      obtain ⟨g9, hg9⟩ : ∃ g9, w5.heap.size = g9 := ⟨_, rfl⟩
      obtain ⟨w6, hw6⟩ : ∃ w6, w5.alloc (.cells #[.int .i64 r.kind, .int .u64 r.tx, .int .u64 r.prev, .int .u64 r.next, .slice da' dn' dc', .slice ca' cn' cc'] 26) = w6 := ⟨_, rfl⟩
      have hb6 : Below w5.heap.size w5 w6 := by rw [← hw6]; exact (Below.refl _ _).alloc (Nat.le_refl _) _
      have hb46 := hb5.trans (hb6.mono hb5.size)
      have hS6 := HS4.out.below hb46
      have hrx := HR4.out.1.below hb46
      have hry := hrec5.below hb6
      have k66 := (hb46.block _ (lt_of_block HR4.out.2.2.2)).trans HR4.out.2.2.2
      have k69 : w6.heap[g9]? = some (.cells (rcs r (.slice da' dn' dc') (.slice ca' cn' cc')) 26 (0, 0)) := by rw [← hw6, ← hg9]; exact heap_alloc_new w5 _
      have hsm := same_any w6 r x y hrx hry
      unfold rval at hsm
      rw [HR4.out.2.1, HR4.out.2.2.1, e1', e2'] at hsm
      obtain ⟨a0, a1, a2, a3, a4, a5⟩ := box6 (w := w) k66
      obtain ⟨b0, b1, b2, b3, b4, b5⟩ := box6 (w := w) k69
      have HS6 := Lib.hid hS6
      have HSM := Lib.hid hsm
      clear hrd5 hrec5 hb5 e1' e2' hb6 hb46 hS6 hrx hry k66 k69 hsm HW4 HS4 HR4 HREF HRO
      go_upto_region 7 with fail
      clear hw6
      go_wp2_with (first | (go_at_call 12; (refine HSM.out.mono ?_); rintro e w7 ⟨rfl, hb7⟩; have HS7 := Lib.hid (HS6.out.below hb7); clear hb7) | fail)
      clear hg6 hg9 HSM a0 a1 a2 a3 a4 a5 b0 b1 b2 b3 b4 b5
      go_roundw
      case rel => exact ⟨j + 1, nx, rfl, HJ.out.1, HJ.out.2.1, HS7.out⟩
      case measure => have := HJ.out.2.2; simp [intOf]; omega
    · have hAf : A = fi := by
        have h1 : j = m.recs.length := by omega
        rw [h1, LM.off_len] at hA
        omega
      subst hAf
      clear hA hj hge hfl
      go_wp2_with (first | (refine wpList_load_row rfl _ _ rfl w.heap.size rfl _ _ (0, 0) _ HS0.out.k3 Try.underlying59 rfl infoRL ?_) | fail)
      refine HE.out.mono ?_
      rintro e w2 ⟨rfl, hb2⟩
      have HS2 := Lib.hid (HS0.out.below hb2)
      clear hb2 HE HS0
      go_wp2
      go_ret
      exact ⟨rfl, HS2.out.bl⟩
end Mun
