/- Contract of munimentref6.Do: one operation. -/
import Derived.Test.YtmlggofojdhmmaaRefDA
set_option maxRecDepth 100000
set_option linter.unusedVariables false
set_option linter.unusedSimpArgs false
namespace Mun
open Go Go.RowKit
open Go.Proofs

set_option maxHeartbeats 1000000 in
theorem r6do_cut {F : Foot} (w : World) (m : DM) (r : RV) (h : RRep F w m r) (hF : ∀ k, F k → k < w.heap.size) (ho : m.ops < 4398046511104) (n : Int) (v : Value) (b : Bytes) (hv : RdB F w v b) (hbl : b.length ≤ 140737488355328) : Calls Try.prog 32 #[.agg (rcells m r), .int .i64 4, .int .i64 n, v] w (DoOut F w (m.cut n b)) := by
  obtain ⟨a0, c0, a1, c1, a2, c2, a3, c3, a4, n4, c4, a5, c5, e0, e1, e2, e3, e4, e5⟩ := h.forms
  have hX1 := DoX.start F w (rcells m r)
  obtain ⟨w1, hw1⟩ : ∃ w1, (w.alloc (.cells (rcells m r) 52)).alloc (.cells Z13 52) = w1 := ⟨_, rfl⟩
  rw [hw1] at hX1
  have hs := r6spend w1 m r (h.below hX1.bl) ho
  obtain ⟨M, hM⟩ : ∃ M, m.spend = M := ⟨_, rfl⟩
  have HM : Hid (M.base = m.base ∧ M.waiting = m.waiting ∧ M.log = m.log ∧ M.mark = m.mark ∧ M.tail = m.tail ∧ M.torn = m.torn ∧ M.certain = m.certain ∧ M.room = m.room ∧ M.Wf) := by
    rw [← hM]
    exact ⟨spend_base m, spend_waiting m, spend_log m, spend_mark m, spend_tail m, spend_torn m, spend_certain m, spend_room m, DM.spend_wf h.wf⟩
  have HMM := Lib.hid hM
  have hsp := h.spend
  rw [hM] at hs hsp
  have H := Lib.hid (And.intro h hsp)
  clear hsp
  obtain ⟨bv, wv, lv, mv, lb, tv, lp, bs, ws⟩ := r
  simp only at e0 e1 e2 e3 e4 e5
  subst e0 e1 e2 e3 e4 e5
  have hbm := h.base.row.nmax
  have hlm := h.wf.room
  have hl24 := h.wf.room24
  have hcl := h.wf.certain
  unfold rcells at hw1 hs hX1 ⊢
  unfold Z13 at hw1
  simp only at hw1 hs hX1 ⊢
  have HF := Lib.hid hF
  have HV := Lib.hid (And.intro hv hbl)
  obtain ⟨va, vn, vc, rfl, HVN, -, -⟩ := hv.formN
  have hvi : (vn : Int) ≤ 140737488355328 := by have := HVN.out; omega
  have hv0 : (0 : Int) ≤ (vn : Int) := by omega
  have hbi : (m.base.length : Int) ≤ 9223372036854775807 := by unfold maxLen at hbm; omega
  have hlli : (m.log.length : Int) ≤ 16777216 := by omega
  have hrmi : (m.room : Int) ≤ 16777216 := by omega
  have hcti : (m.certain : Int) ≤ (m.log.length : Int) := by omega
  have hct0 : (0 : Int) ≤ (m.certain : Int) := by omega
  have hll0 : (0 : Int) ≤ (m.log.length : Int) := by omega
  cases hd : m.dead with
  | true =>
    rw [hd] at hw1 hX1
    have HX1 := Lib.hid hX1
    have x8 : w1.cell? ⟨w.heap.size, 8, none⟩ = some (.bool true) := hX1.bx.cell 8 rfl
    have HD : Hid (m.dead = true ∧ m.cut n b = (m, 9)) := ⟨hd, by unfold DM.cut; rw [if_pos hd]⟩
    clear h hs hX1 hM hv hd hbm hlm hl24 hcl
    go_enter Try.func32, Try.ntmps32

    obtain ⟨wy, hwy⟩ : ∃ wy, World.setRow w1 (w.heap.size + 1) #[.slice a0 m.base.length c0, .slice a1 ws.length c1, .int .i64 m.room, .slice a2 m.log.length c2, .int .i64 m.certain, .slice a3 m.mark.length c3, .int .i64 m.fuse, .int .i64 m.ops, .bool true, .int .i64 lp, .slice a4 n4 c4, .slice a5 m.tail.length c5, .bool m.torn.isSome] = wy := ⟨_, rfl⟩
    have hf := HX1.out.fin #[.slice a0 m.base.length c0, .slice a1 ws.length c1, .int .i64 m.room, .slice a2 m.log.length c2, .int .i64 m.certain, .slice a3 m.mark.length c3, .int .i64 m.fuse, .int .i64 m.ops, .bool true, .int .i64 lp, .slice a4 n4 c4, .slice a5 m.tail.length c5, .bool m.torn.isSome]
    rw [hwy] at hf
    have HFIN : Hid (DoOut F w (m.cut n b) (.returned (.tuple #[.agg #[.slice a0 m.base.length c0, .slice a1 ws.length c1, .int .i64 m.room, .slice a2 m.log.length c2, .int .i64 m.certain, .slice a3 m.mark.length c3, .int .i64 m.fuse, .int .i64 m.ops, .bool true, .int .i64 lp, .slice a4 n4 c4, .slice a5 m.tail.length c5, .bool m.torn.isSome], .int .i64 9])) wy ∧ BoxAt wy (w.heap.size + 1) #[.slice a0 m.base.length c0, .slice a1 ws.length c1, .int .i64 m.room, .slice a2 m.log.length c2, .int .i64 m.certain, .slice a3 m.mark.length c3, .int .i64 m.fuse, .int .i64 m.ops, .bool true, .int .i64 lp, .slice a4 n4 c4, .slice a5 m.tail.length c5, .bool m.torn.isSome]) := by
      refine ⟨?_, hf.2.1⟩
      rw [HD.out.2]
      refine ⟨⟨.slice a0 m.base.length c0, .slice a1 ws.length c1, .slice a2 m.log.length c2, .slice a3 m.mark.length c3, .slice a4 n4 c4, .slice a5 m.tail.length c5, lp, bs, ws⟩, ?_, H.out.1.below hf.1, hf.1⟩
      unfold rcells
      rw [HD.out.1]
    clear hf
    go_wp2_with (first
      | (refine wpList_load_row rfl _ _ rfl w.heap.size rfl _ _ (0, 0) _ HX1.out.bx Try.underlying52 rfl info13 ?_)
      | (refine wpList_store_row rfl _ _ _ rfl (w.heap.size + 1) _ rfl rfl _ _ HX1.out.rs info13 rfl (by simp [Value.oneCell']) ?_; rw [hwy]))
    exact bodyPost_ret (v := .tuple #[.agg #[.slice a0 m.base.length c0, .slice a1 ws.length c1, .int .i64 m.room, .slice a2 m.log.length c2, .int .i64 m.certain, .slice a3 m.mark.length c3, .int .i64 m.fuse, .int .i64 m.ops, .bool true, .int .i64 lp, .slice a4 n4 c4, .slice a5 m.tail.length c5, .bool m.torn.isSome], .int .i64 9]) (by simp [results, Try.results32, asAddr, run_loadVar_row wy (w.heap.size + 1) 52 52 _ (0, 0) _ HFIN.out.2 Try.underlying52 rfl info13]) rfl HFIN.out.1
  | false =>
    rw [hd] at hw1 hX1 hs
    have HX1 := Lib.hid hX1
    have x8 : w1.cell? ⟨w.heap.size, 8, none⟩ = some (.bool false) := hX1.bx.cell 8 rfl
    have x0 : w1.cell? ⟨w.heap.size, 0, none⟩ = some (.slice a0 m.base.length c0) := hX1.bx.cell 0 rfl
    have x2 : w1.cell? ⟨w.heap.size, 2, none⟩ = some (.int .i64 m.room) := hX1.bx.cell 2 rfl
    have x3 : w1.cell? ⟨w.heap.size, 3, none⟩ = some (.slice a2 m.log.length c2) := hX1.bx.cell 3 rfl
    have x4 : w1.cell? ⟨w.heap.size, 4, none⟩ = some (.int .i64 m.certain) := hX1.bx.cell 4 rfl
    have HD := Lib.hid hd
    by_cases hbd : n < 0 ∨ (m.certain : Int) < n ∨ 64 < b.length
    · by_cases hn0 : n < 0
      · have HBAD : Hid (m.cut n b = (m, 1)) := by
          show _ = _
          unfold DM.cut
          rw [hd, if_neg (by simp), if_pos hbd]
        clear hbd

        clear h hs hX1 hM hv hd hbm hlm hl24 hcl
        go_enter Try.func32, Try.ntmps32

        obtain ⟨wy, hwy⟩ : ∃ wy, World.setRow w1 (w.heap.size + 1) #[.slice a0 m.base.length c0, .slice a1 ws.length c1, .int .i64 m.room, .slice a2 m.log.length c2, .int .i64 m.certain, .slice a3 m.mark.length c3, .int .i64 m.fuse, .int .i64 m.ops, .bool false, .int .i64 lp, .slice a4 n4 c4, .slice a5 m.tail.length c5, .bool m.torn.isSome] = wy := ⟨_, rfl⟩
        have hf := HX1.out.fin #[.slice a0 m.base.length c0, .slice a1 ws.length c1, .int .i64 m.room, .slice a2 m.log.length c2, .int .i64 m.certain, .slice a3 m.mark.length c3, .int .i64 m.fuse, .int .i64 m.ops, .bool false, .int .i64 lp, .slice a4 n4 c4, .slice a5 m.tail.length c5, .bool m.torn.isSome]
        rw [hwy] at hf
        have HFIN : Hid (DoOut F w (m.cut n b) (.returned (.tuple #[.agg #[.slice a0 m.base.length c0, .slice a1 ws.length c1, .int .i64 m.room, .slice a2 m.log.length c2, .int .i64 m.certain, .slice a3 m.mark.length c3, .int .i64 m.fuse, .int .i64 m.ops, .bool false, .int .i64 lp, .slice a4 n4 c4, .slice a5 m.tail.length c5, .bool m.torn.isSome], .int .i64 1])) wy ∧ BoxAt wy (w.heap.size + 1) #[.slice a0 m.base.length c0, .slice a1 ws.length c1, .int .i64 m.room, .slice a2 m.log.length c2, .int .i64 m.certain, .slice a3 m.mark.length c3, .int .i64 m.fuse, .int .i64 m.ops, .bool false, .int .i64 lp, .slice a4 n4 c4, .slice a5 m.tail.length c5, .bool m.torn.isSome]) := by
          refine ⟨?_, hf.2.1⟩
          rw [HBAD.out]
          refine ⟨⟨.slice a0 m.base.length c0, .slice a1 ws.length c1, .slice a2 m.log.length c2, .slice a3 m.mark.length c3, .slice a4 n4 c4, .slice a5 m.tail.length c5, lp, bs, ws⟩, ?_, H.out.1.below hf.1, hf.1⟩
          unfold rcells
          rw [HD.out]
        clear hf
        go_wp2_with (first
          | (refine wpList_load_row rfl _ _ rfl w.heap.size rfl _ _ (0, 0) _ HX1.out.bx Try.underlying52 rfl info13 ?_)
          | (refine wpList_store_row rfl _ _ _ rfl (w.heap.size + 1) _ rfl rfl _ _ HX1.out.rs info13 rfl (by simp [Value.oneCell']) ?_; rw [hwy]))
        exact bodyPost_ret (v := .tuple #[.agg #[.slice a0 m.base.length c0, .slice a1 ws.length c1, .int .i64 m.room, .slice a2 m.log.length c2, .int .i64 m.certain, .slice a3 m.mark.length c3, .int .i64 m.fuse, .int .i64 m.ops, .bool false, .int .i64 lp, .slice a4 n4 c4, .slice a5 m.tail.length c5, .bool m.torn.isSome], .int .i64 1]) (by simp [results, Try.results32, asAddr, run_loadVar_row wy (w.heap.size + 1) 52 52 _ (0, 0) _ HFIN.out.2 Try.underlying52 rfl info13]) rfl HFIN.out.1
      · by_cases hn1 : n > (m.certain : Int)
        · have HBAD : Hid (m.cut n b = (m, 1)) := by
            show _ = _
            unfold DM.cut
            rw [hd, if_neg (by simp), if_pos hbd]
          clear hbd

          clear h hs hX1 hM hv hd hbm hlm hl24 hcl
          go_enter Try.func32, Try.ntmps32

          obtain ⟨wy, hwy⟩ : ∃ wy, World.setRow w1 (w.heap.size + 1) #[.slice a0 m.base.length c0, .slice a1 ws.length c1, .int .i64 m.room, .slice a2 m.log.length c2, .int .i64 m.certain, .slice a3 m.mark.length c3, .int .i64 m.fuse, .int .i64 m.ops, .bool false, .int .i64 lp, .slice a4 n4 c4, .slice a5 m.tail.length c5, .bool m.torn.isSome] = wy := ⟨_, rfl⟩
          have hf := HX1.out.fin #[.slice a0 m.base.length c0, .slice a1 ws.length c1, .int .i64 m.room, .slice a2 m.log.length c2, .int .i64 m.certain, .slice a3 m.mark.length c3, .int .i64 m.fuse, .int .i64 m.ops, .bool false, .int .i64 lp, .slice a4 n4 c4, .slice a5 m.tail.length c5, .bool m.torn.isSome]
          rw [hwy] at hf
          have HFIN : Hid (DoOut F w (m.cut n b) (.returned (.tuple #[.agg #[.slice a0 m.base.length c0, .slice a1 ws.length c1, .int .i64 m.room, .slice a2 m.log.length c2, .int .i64 m.certain, .slice a3 m.mark.length c3, .int .i64 m.fuse, .int .i64 m.ops, .bool false, .int .i64 lp, .slice a4 n4 c4, .slice a5 m.tail.length c5, .bool m.torn.isSome], .int .i64 1])) wy ∧ BoxAt wy (w.heap.size + 1) #[.slice a0 m.base.length c0, .slice a1 ws.length c1, .int .i64 m.room, .slice a2 m.log.length c2, .int .i64 m.certain, .slice a3 m.mark.length c3, .int .i64 m.fuse, .int .i64 m.ops, .bool false, .int .i64 lp, .slice a4 n4 c4, .slice a5 m.tail.length c5, .bool m.torn.isSome]) := by
            refine ⟨?_, hf.2.1⟩
            rw [HBAD.out]
            refine ⟨⟨.slice a0 m.base.length c0, .slice a1 ws.length c1, .slice a2 m.log.length c2, .slice a3 m.mark.length c3, .slice a4 n4 c4, .slice a5 m.tail.length c5, lp, bs, ws⟩, ?_, H.out.1.below hf.1, hf.1⟩
            unfold rcells
            rw [HD.out]
          clear hf
          go_wp2_with (first
            | (refine wpList_load_row rfl _ _ rfl w.heap.size rfl _ _ (0, 0) _ HX1.out.bx Try.underlying52 rfl info13 ?_)
            | (refine wpList_store_row rfl _ _ _ rfl (w.heap.size + 1) _ rfl rfl _ _ HX1.out.rs info13 rfl (by simp [Value.oneCell']) ?_; rw [hwy]))
          exact bodyPost_ret (v := .tuple #[.agg #[.slice a0 m.base.length c0, .slice a1 ws.length c1, .int .i64 m.room, .slice a2 m.log.length c2, .int .i64 m.certain, .slice a3 m.mark.length c3, .int .i64 m.fuse, .int .i64 m.ops, .bool false, .int .i64 lp, .slice a4 n4 c4, .slice a5 m.tail.length c5, .bool m.torn.isSome], .int .i64 1]) (by simp [results, Try.results32, asAddr, run_loadVar_row wy (w.heap.size + 1) 52 52 _ (0, 0) _ HFIN.out.2 Try.underlying52 rfl info13]) rfl HFIN.out.1
        · have HBAD : Hid (m.cut n b = (m, 1)) := by
            show _ = _
            unfold DM.cut
            rw [hd, if_neg (by simp), if_pos hbd]
          have t1 : (vn : Int) > 64 := by have := HVN.out; omega
          clear hbd

          clear h hs hX1 hM hv hd hbm hlm hl24 hcl
          go_enter Try.func32, Try.ntmps32

          obtain ⟨wy, hwy⟩ : ∃ wy, World.setRow w1 (w.heap.size + 1) #[.slice a0 m.base.length c0, .slice a1 ws.length c1, .int .i64 m.room, .slice a2 m.log.length c2, .int .i64 m.certain, .slice a3 m.mark.length c3, .int .i64 m.fuse, .int .i64 m.ops, .bool false, .int .i64 lp, .slice a4 n4 c4, .slice a5 m.tail.length c5, .bool m.torn.isSome] = wy := ⟨_, rfl⟩
          have hf := HX1.out.fin #[.slice a0 m.base.length c0, .slice a1 ws.length c1, .int .i64 m.room, .slice a2 m.log.length c2, .int .i64 m.certain, .slice a3 m.mark.length c3, .int .i64 m.fuse, .int .i64 m.ops, .bool false, .int .i64 lp, .slice a4 n4 c4, .slice a5 m.tail.length c5, .bool m.torn.isSome]
          rw [hwy] at hf
          have HFIN : Hid (DoOut F w (m.cut n b) (.returned (.tuple #[.agg #[.slice a0 m.base.length c0, .slice a1 ws.length c1, .int .i64 m.room, .slice a2 m.log.length c2, .int .i64 m.certain, .slice a3 m.mark.length c3, .int .i64 m.fuse, .int .i64 m.ops, .bool false, .int .i64 lp, .slice a4 n4 c4, .slice a5 m.tail.length c5, .bool m.torn.isSome], .int .i64 1])) wy ∧ BoxAt wy (w.heap.size + 1) #[.slice a0 m.base.length c0, .slice a1 ws.length c1, .int .i64 m.room, .slice a2 m.log.length c2, .int .i64 m.certain, .slice a3 m.mark.length c3, .int .i64 m.fuse, .int .i64 m.ops, .bool false, .int .i64 lp, .slice a4 n4 c4, .slice a5 m.tail.length c5, .bool m.torn.isSome]) := by
            refine ⟨?_, hf.2.1⟩
            rw [HBAD.out]
            refine ⟨⟨.slice a0 m.base.length c0, .slice a1 ws.length c1, .slice a2 m.log.length c2, .slice a3 m.mark.length c3, .slice a4 n4 c4, .slice a5 m.tail.length c5, lp, bs, ws⟩, ?_, H.out.1.below hf.1, hf.1⟩
            unfold rcells
            rw [HD.out]
          clear hf
          go_wp2_with (first
            | (refine wpList_load_row rfl _ _ rfl w.heap.size rfl _ _ (0, 0) _ HX1.out.bx Try.underlying52 rfl info13 ?_)
            | (refine wpList_store_row rfl _ _ _ rfl (w.heap.size + 1) _ rfl rfl _ _ HX1.out.rs info13 rfl (by simp [Value.oneCell']) ?_; rw [hwy]))
          exact bodyPost_ret (v := .tuple #[.agg #[.slice a0 m.base.length c0, .slice a1 ws.length c1, .int .i64 m.room, .slice a2 m.log.length c2, .int .i64 m.certain, .slice a3 m.mark.length c3, .int .i64 m.fuse, .int .i64 m.ops, .bool false, .int .i64 lp, .slice a4 n4 c4, .slice a5 m.tail.length c5, .bool m.torn.isSome], .int .i64 1]) (by simp [results, Try.results32, asAddr, run_loadVar_row wy (w.heap.size + 1) 52 52 _ (0, 0) _ HFIN.out.2 Try.underlying52 rfl info13]) rfl HFIN.out.1
    · by_cases hz : m.fuse = 0
      · have hn0 : ¬ n < 0 := by omega
        have hn1 : ¬ n > (m.certain : Int) := by omega
        have t1 : ¬ (vn : Int) > 64 := by have := HVN.out; omega

        have HBAD : Hid (m.cut n b = (M, 9)) := by
          show _ = _
          rw [← HMM.out]
          unfold DM.cut
          rw [hd, if_neg (by simp), if_neg hbd, if_pos hz]

        have e9 : decide (m.fuse ≠ 0) = false := by simpa using hz
        rw [e9] at hs
        have HS := Lib.hid hs
        clear h hs hX1 hM hv hd hbm hlm hl24 hcl e9 hz hbd
        go_enter Try.func32, Try.ntmps32
        go_wp2_with (refine wpList_load_row rfl _ _ rfl w.heap.size rfl _ _ (0, 0) _ HX1.out.bx Try.underlying52 rfl info13 ?_)
        refine HS.out.mono ?_
        rintro e w2 ⟨rfl, hb2⟩
        have hX2 := HX1.out.below hb2
        have hX3 := hX2.row #[.slice a0 m.base.length c0, .slice a1 ws.length c1, .int .i64 M.room, .slice a2 m.log.length c2, .int .i64 M.certain, .slice a3 m.mark.length c3, .int .i64 M.fuse, .int .i64 M.ops, .bool M.dead, .int .i64 lp, .slice a4 n4 c4, .slice a5 m.tail.length c5, .bool M.torn.isSome]
        obtain ⟨w3, hw3⟩ : ∃ w3, World.setRow w2 w.heap.size #[.slice a0 m.base.length c0, .slice a1 ws.length c1, .int .i64 M.room, .slice a2 m.log.length c2, .int .i64 M.certain, .slice a3 m.mark.length c3, .int .i64 M.fuse, .int .i64 M.ops, .bool M.dead, .int .i64 lp, .slice a4 n4 c4, .slice a5 m.tail.length c5, .bool M.torn.isSome] = w3 := ⟨_, rfl⟩
        rw [hw3] at hX3
        have HX2 := Lib.hid hX2
        have HX3 := Lib.hid hX3

        clear hb2 hX2 hX3 HS HX1 x0 x2 x3 x4 x8

        obtain ⟨wy, hwy⟩ : ∃ wy, World.setRow w3 (w.heap.size + 1) #[.slice a0 m.base.length c0, .slice a1 ws.length c1, .int .i64 M.room, .slice a2 m.log.length c2, .int .i64 M.certain, .slice a3 m.mark.length c3, .int .i64 M.fuse, .int .i64 M.ops, .bool M.dead, .int .i64 lp, .slice a4 n4 c4, .slice a5 m.tail.length c5, .bool M.torn.isSome] = wy := ⟨_, rfl⟩
        have hf := HX3.out.fin #[.slice a0 m.base.length c0, .slice a1 ws.length c1, .int .i64 M.room, .slice a2 m.log.length c2, .int .i64 M.certain, .slice a3 m.mark.length c3, .int .i64 M.fuse, .int .i64 M.ops, .bool M.dead, .int .i64 lp, .slice a4 n4 c4, .slice a5 m.tail.length c5, .bool M.torn.isSome]
        rw [hwy] at hf
        have HFIN : Hid (DoOut F w (m.cut n b) (.returned (.tuple #[.agg #[.slice a0 m.base.length c0, .slice a1 ws.length c1, .int .i64 M.room, .slice a2 m.log.length c2, .int .i64 M.certain, .slice a3 m.mark.length c3, .int .i64 M.fuse, .int .i64 M.ops, .bool M.dead, .int .i64 lp, .slice a4 n4 c4, .slice a5 m.tail.length c5, .bool M.torn.isSome], .int .i64 9])) wy ∧ BoxAt wy (w.heap.size + 1) #[.slice a0 m.base.length c0, .slice a1 ws.length c1, .int .i64 M.room, .slice a2 m.log.length c2, .int .i64 M.certain, .slice a3 m.mark.length c3, .int .i64 M.fuse, .int .i64 M.ops, .bool M.dead, .int .i64 lp, .slice a4 n4 c4, .slice a5 m.tail.length c5, .bool M.torn.isSome]) := by
          refine ⟨?_, hf.2.1⟩
          rw [HBAD.out]
          exact ⟨⟨.slice a0 m.base.length c0, .slice a1 ws.length c1, .slice a2 m.log.length c2, .slice a3 m.mark.length c3, .slice a4 n4 c4, .slice a5 m.tail.length c5, lp, bs, ws⟩, rfl, H.out.2.below hf.1, hf.1⟩
        clear hf
        go_wp2_with (first
          | (refine wpList_store_row rfl _ _ _ rfl w.heap.size _ rfl rfl _ _ HX2.out.bx info13 rfl (by simp [Value.oneCell']) ?_; rw [hw3])
          | (refine wpList_load_row rfl _ _ rfl w.heap.size rfl _ _ (0, 0) _ HX3.out.bx Try.underlying52 rfl info13 ?_)
          | (refine wpList_store_row rfl _ _ _ rfl (w.heap.size + 1) _ rfl rfl _ _ HX3.out.rs info13 rfl (by simp [Value.oneCell']) ?_; rw [hwy]))
        exact bodyPost_ret (v := .tuple #[.agg #[.slice a0 m.base.length c0, .slice a1 ws.length c1, .int .i64 M.room, .slice a2 m.log.length c2, .int .i64 M.certain, .slice a3 m.mark.length c3, .int .i64 M.fuse, .int .i64 M.ops, .bool M.dead, .int .i64 lp, .slice a4 n4 c4, .slice a5 m.tail.length c5, .bool M.torn.isSome], .int .i64 9]) (by simp [results, Try.results32, asAddr, run_loadVar_row wy (w.heap.size + 1) 52 52 _ (0, 0) _ HFIN.out.2 Try.underlying52 rfl info13]) rfl HFIN.out.1
      · have hn0 : ¬ n < 0 := by omega
        have hn1 : ¬ n > (m.certain : Int) := by omega
        have t1 : ¬ (vn : Int) > 64 := by have := HVN.out; omega

        obtain ⟨j, rfl⟩ := Int.eq_ofNat_of_zero_le (show 0 ≤ n by omega)
        have HOK : Hid (m.cut j b = ({ M with log := m.log.drop j, certain := m.certain - j, mark := b }, 0) ∧ j ≤ m.certain ∧ b.length ≤ 64) := by
          refine ⟨?_, by omega, by omega⟩
          rw [← HMM.out]
          unfold DM.cut
          rw [hd, if_neg (by simp), if_neg hbd, if_neg hz]
          rfl
        have hMc : (M.certain : Int) ≤ 16777216 := by rw [HM.out.2.2.2.2.2.2.1]; omega
        have hMc0 : (0 : Int) ≤ (M.certain : Int) := by omega
        have hj0 : (0 : Int) ≤ (j : Int) := by omega
        have hjM : (j : Int) ≤ (M.certain : Int) := by rw [HM.out.2.2.2.2.2.2.1]; omega

        have e9 : decide (m.fuse ≠ 0) = true := by simpa using hz
        rw [e9] at hs
        have HS := Lib.hid hs
        clear h hs hX1 hM hv hd hbm hlm hl24 hcl e9 hz hbd
        go_enter Try.func32, Try.ntmps32
        go_wp2_with (refine wpList_load_row rfl _ _ rfl w.heap.size rfl _ _ (0, 0) _ HX1.out.bx Try.underlying52 rfl info13 ?_)
        refine HS.out.mono ?_
        rintro e w2 ⟨rfl, hb2⟩
        have hX2 := HX1.out.below hb2
        have hX3 := hX2.row #[.slice a0 m.base.length c0, .slice a1 ws.length c1, .int .i64 M.room, .slice a2 m.log.length c2, .int .i64 M.certain, .slice a3 m.mark.length c3, .int .i64 M.fuse, .int .i64 M.ops, .bool M.dead, .int .i64 lp, .slice a4 n4 c4, .slice a5 m.tail.length c5, .bool M.torn.isSome]
        obtain ⟨w3, hw3⟩ : ∃ w3, World.setRow w2 w.heap.size #[.slice a0 m.base.length c0, .slice a1 ws.length c1, .int .i64 M.room, .slice a2 m.log.length c2, .int .i64 M.certain, .slice a3 m.mark.length c3, .int .i64 M.fuse, .int .i64 M.ops, .bool M.dead, .int .i64 lp, .slice a4 n4 c4, .slice a5 m.tail.length c5, .bool M.torn.isSome] = w3 := ⟨_, rfl⟩
        rw [hw3] at hX3
        have HX2 := Lib.hid hX2
        have HX3 := Lib.hid hX3

        have hlg3 : RdB (Gf F w) w3 (.slice a2 m.log.length c2) m.log := by have h9 := (rep_gf H.out.2 hX3).log; rw [HM.out.2.2.1] at h9; exact h9
        obtain ⟨q1, q2, hcut, hrd3⟩ := slice_bytes_from hlg3 j (by have := HOK.out.2.1; have := H.out.1.wf.certain; omega)
        have HLEN9 : Hid ((m.log.drop j).length ≤ 140737488355328) := by show _ ≤ _; rw [List.length_drop]; have := H.out.1.wf.room; have := H.out.1.wf.room24; omega
        have HLEN8 := Lib.hid HV.out.2
        have y3 : w3.cell? ⟨w.heap.size, 3, none⟩ = some (.slice a2 m.log.length c2) := hX3.bx.cell 3 rfl

        have hcp9 := r6copied w3 _ (m.log.drop j) (hrd3) HLEN9.out
        have HCP9 := Lib.hid hcp9
        clear hcp9
        go_wp2_with (first | (refine wpList_store_row rfl _ _ _ rfl w.heap.size _ rfl rfl _ _ HX2.out.bx info13 rfl (by simp [Value.oneCell']) ?_; rw [hw3]) | fail)
        refine HCP9.out.mono ?_
        rintro e w4 ⟨x9, n9, k9, rfl, hn9, ho9, hb9⟩

        have HX4 := Lib.hid ((HX3.out.below hb9).push (own_gf HF.out ho9 HX3.out.sz))

        obtain ⟨w5, hw5⟩ : ∃ w5, World.setCell w4 ⟨w.heap.size, 3, none⟩ (.slice x9 n9 k9) = w5 := ⟨_, rfl⟩
        have hX5 : DoX F w w5 #[.slice a0 m.base.length c0, .slice a1 ws.length c1, .int .i64 M.room, .slice x9 n9 k9, .int .i64 M.certain, .slice a3 m.mark.length c3, .int .i64 M.fuse, .int .i64 M.ops, .bool M.dead, .int .i64 lp, .slice a4 n4 c4, .slice a5 m.tail.length c5, .bool M.torn.isSome] [(.slice x9 n9 k9, m.log.drop j)] := by rw [← hw5]; exact HX4.out.set 3 (.slice x9 n9 k9)
        have HX5 := Lib.hid hX5
        have of3 := HX4.out.bx.frozen 3
        have oc3 : w4.cell? ⟨w.heap.size, 3, none⟩ = some (.slice a2 m.log.length c2) := HX4.out.bx.cell 3 rfl

        obtain ⟨w6, hw6⟩ : ∃ w6, World.setCell w5 ⟨w.heap.size, 4, none⟩ (.int .i64 ((M.certain : Int) - (j : Int))) = w6 := ⟨_, rfl⟩
        have hX6 : DoX F w w6 #[.slice a0 m.base.length c0, .slice a1 ws.length c1, .int .i64 M.room, .slice x9 n9 k9, .int .i64 ((M.certain : Int) - (j : Int)), .slice a3 m.mark.length c3, .int .i64 M.fuse, .int .i64 M.ops, .bool M.dead, .int .i64 lp, .slice a4 n4 c4, .slice a5 m.tail.length c5, .bool M.torn.isSome] [(.slice x9 n9 k9, m.log.drop j)] := by rw [← hw6]; exact HX5.out.set 4 (.int .i64 ((M.certain : Int) - (j : Int)))
        have HX6 := Lib.hid hX6
        have of4 := HX5.out.bx.frozen 4
        have oc4 : w5.cell? ⟨w.heap.size, 4, none⟩ = some (.int .i64 M.certain) := HX5.out.bx.cell 4 rfl

        clear hb2 hX2 hX3 hX5 hX6 HS HX1 x0 x2 x3 x4 x8 y3 hlg3 hrd3 hcut hn9 ho9 hb9 HCP9

        have hcp8 := r6copied w6 _ (b) (rd_gf HV.out.1 HX6.out) HLEN8.out
        have HCP8 := Lib.hid hcp8
        clear hcp8
        go_wp2_with (first | fail)
        refine HCP8.out.mono ?_
        rintro e w7 ⟨x8, n8, k8, rfl, hn8, ho8, hb8⟩

        have HX7 := Lib.hid ((HX6.out.below hb8).push (own_gf HF.out ho8 HX6.out.sz))

        obtain ⟨w8, hw8⟩ : ∃ w8, World.setCell w7 ⟨w.heap.size, 5, none⟩ (.slice x8 n8 k8) = w8 := ⟨_, rfl⟩
        have hX8 : DoX F w w8 #[.slice a0 m.base.length c0, .slice a1 ws.length c1, .int .i64 M.room, .slice x9 n9 k9, .int .i64 ((M.certain : Int) - (j : Int)), .slice x8 n8 k8, .int .i64 M.fuse, .int .i64 M.ops, .bool M.dead, .int .i64 lp, .slice a4 n4 c4, .slice a5 m.tail.length c5, .bool M.torn.isSome] [(.slice x8 n8 k8, b), (.slice x9 n9 k9, m.log.drop j)] := by rw [← hw8]; exact HX7.out.set 5 (.slice x8 n8 k8)
        have HX8 := Lib.hid hX8
        have of5 := HX7.out.bx.frozen 5
        have oc5 : w7.cell? ⟨w.heap.size, 5, none⟩ = some (.slice a3 m.mark.length c3) := HX7.out.bx.cell 5 rfl

        clear hX8 hn8 ho8 hb8 HCP8

        obtain ⟨wy, hwy⟩ : ∃ wy, World.setRow w8 (w.heap.size + 1) #[.slice a0 m.base.length c0, .slice a1 ws.length c1, .int .i64 M.room, .slice x9 n9 k9, .int .i64 ((M.certain : Int) - (j : Int)), .slice x8 n8 k8, .int .i64 M.fuse, .int .i64 M.ops, .bool M.dead, .int .i64 lp, .slice a4 n4 c4, .slice a5 m.tail.length c5, .bool M.torn.isSome] = wy := ⟨_, rfl⟩
        have hf := HX8.out.fin #[.slice a0 m.base.length c0, .slice a1 ws.length c1, .int .i64 M.room, .slice x9 n9 k9, .int .i64 ((M.certain : Int) - (j : Int)), .slice x8 n8 k8, .int .i64 M.fuse, .int .i64 M.ops, .bool M.dead, .int .i64 lp, .slice a4 n4 c4, .slice a5 m.tail.length c5, .bool M.torn.isSome]
        rw [hwy] at hf
        have HFIN : Hid (DoOut F w (m.cut j b) (.returned (.tuple #[.agg #[.slice a0 m.base.length c0, .slice a1 ws.length c1, .int .i64 M.room, .slice x9 n9 k9, .int .i64 ((M.certain : Int) - (j : Int)), .slice x8 n8 k8, .int .i64 M.fuse, .int .i64 M.ops, .bool M.dead, .int .i64 lp, .slice a4 n4 c4, .slice a5 m.tail.length c5, .bool M.torn.isSome], .int .i64 0])) wy ∧ BoxAt wy (w.heap.size + 1) #[.slice a0 m.base.length c0, .slice a1 ws.length c1, .int .i64 M.room, .slice x9 n9 k9, .int .i64 ((M.certain : Int) - (j : Int)), .slice x8 n8 k8, .int .i64 M.fuse, .int .i64 M.ops, .bool M.dead, .int .i64 lp, .slice a4 n4 c4, .slice a5 m.tail.length c5, .bool M.torn.isSome]) := by
          refine ⟨?_, hf.2.1⟩
          rw [HOK.out.1]
          have hold := H.out.2.below hf.1
          have hnew : RdB F wy (.slice x9 n9 k9) (m.log.drop j) := hf.2.2 _ (List.mem_cons_of_mem _ (List.mem_cons_self ..))
          have hnew2 : RdB F wy (.slice x8 n8 k8) b := hf.2.2 _ (List.mem_cons_self ..)
          have hcs : ((M.certain : Int) - (j : Int)) = ((m.certain - j : Nat) : Int) := by rw [HM.out.2.2.2.2.2.2.1]; have := HOK.out.2.1; omega
          rw [hcs]
          exact ⟨⟨.slice a0 m.base.length c0, .slice a1 ws.length c1, .slice x9 n9 k9, .slice x8 n8 k8, .slice a4 n4 c4, .slice a5 m.tail.length c5, lp, bs, ws⟩, rfl, ⟨hold.base, hold.wrow, hold.wws, hold.wrd, hnew, hnew2, hold.tail, hold.torn, hold.lbf, mark_wf (log_wf hold.wf (m.log.drop j) (m.certain - j) (by rw [List.length_drop]; have := H.out.1.wf.certain; omega) (by
            rw [List.length_drop, HM.out.2.2.2.2.1, HM.out.2.2.2.2.2.2.2.1]; have := H.out.1.wf.room; omega)) b HOK.out.2.2⟩, hf.1⟩
        clear hf
        go_wp2_with (first
          | (refine wpList_load_row rfl _ _ rfl w.heap.size rfl _ _ (0, 0) _ HX8.out.bx Try.underlying52 rfl info13 ?_)
          | (refine wpList_store_row rfl _ _ _ rfl (w.heap.size + 1) _ rfl rfl _ _ HX8.out.rs info13 rfl (by simp [Value.oneCell']) ?_; rw [hwy]))
        exact bodyPost_ret (v := .tuple #[.agg #[.slice a0 m.base.length c0, .slice a1 ws.length c1, .int .i64 M.room, .slice x9 n9 k9, .int .i64 ((M.certain : Int) - (j : Int)), .slice x8 n8 k8, .int .i64 M.fuse, .int .i64 M.ops, .bool M.dead, .int .i64 lp, .slice a4 n4 c4, .slice a5 m.tail.length c5, .bool M.torn.isSome], .int .i64 0]) (by simp [results, Try.results32, asAddr, run_loadVar_row wy (w.heap.size + 1) 52 52 _ (0, 0) _ HFIN.out.2 Try.underlying52 rfl info13]) rfl HFIN.out.1
end Mun
