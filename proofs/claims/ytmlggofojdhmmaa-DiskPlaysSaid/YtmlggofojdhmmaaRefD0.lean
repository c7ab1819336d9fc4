/- Contract of munimentref6.Do: one operation. -/
import Derived.Test.YtmlggofojdhmmaaRefDA
import Derived.Test.YtmlggofojdhmmaaRegU
set_option maxRecDepth 100000
set_option linter.unusedVariables false
set_option linter.unusedSimpArgs false
namespace Mun
open Go Go.RowKit
open Go.Proofs

set_option maxHeartbeats 1000000 in
theorem r6do_write {F : Foot} (w : World) (m : DM) (r : RV) (h : RRep F w m r) (hF : ∀ k, F k → k < w.heap.size) (ho : m.ops < 4398046511104) (n : Int) (v : Value) (b : Bytes) (hv : RdB F w v b) (hbl : b.length ≤ 140737488355328) : Calls Try.prog 32 #[.agg (rcells m r), .int .i64 0, .int .i64 n, v] w (DoOut F w (m.write n b)) := by
  obtain ⟨a0, c0, a1, c1, a2, c2, a3, c3, a4, n4, c4, a5, c5, e0, e1, e2, e3, e4, e5⟩ := h.forms
  have hX1 := DoX.start F w (rcells m r)
  obtain ⟨w1, hw1⟩ : ∃ w1, (w.alloc (.cells (rcells m r) 52)).alloc (.cells Z13 52) = w1 := ⟨_, rfl⟩
  rw [hw1] at hX1
  have hs := r6spend w1 m r (h.below hX1.bl) ho
  obtain ⟨M, hM⟩ : ∃ M, m.spend = M := ⟨_, rfl⟩
  have HM : Hid (M.base = m.base ∧ M.waiting = m.waiting ∧ M.log = m.log ∧ M.mark = m.mark ∧ M.tail = m.tail ∧ M.torn = m.torn ∧ M.certain = m.certain ∧ M.room = m.room ∧ M.Wf) := by
    rw [← hM]
    exact ⟨spend_base m, spend_waiting m, spend_log m, spend_mark m, spend_tail m, spend_torn m, spend_certain m, spend_room m, DM.spend_wf h.wf⟩
  have HMM := Lib.hid hM
  have hsp := h.spend
  rw [hM] at hs hsp
  have H := Lib.hid (And.intro h hsp)
  clear hsp
  obtain ⟨bv, wv, lv, mv, lb, tv, lp, bs, ws⟩ := r
  simp only at e0 e1 e2 e3 e4 e5
  subst e0 e1 e2 e3 e4 e5
  have hbm := h.base.row.nmax
  have hlm := h.wf.room
  have hl24 := h.wf.room24
  have hcl := h.wf.certain
  unfold rcells at hw1 hs hX1 ⊢
  unfold Z13 at hw1
  simp only at hw1 hs hX1 ⊢
  have HF := Lib.hid hF
  have HV := Lib.hid (And.intro hv hbl)
  obtain ⟨va, vn, vc, rfl, HVN, -, -⟩ := hv.formN
  have hvi : (vn : Int) ≤ 140737488355328 := by have := HVN.out; omega
  have hv0 : (0 : Int) ≤ (vn : Int) := by omega
  have hbi : (m.base.length : Int) ≤ 9223372036854775807 := by unfold maxLen at hbm; omega
  have hlli : (m.log.length : Int) ≤ 16777216 := by omega
  have hrmi : (m.room : Int) ≤ 16777216 := by omega
  have hcti : (m.certain : Int) ≤ (m.log.length : Int) := by omega
  have hct0 : (0 : Int) ≤ (m.certain : Int) := by omega
  have hll0 : (0 : Int) ≤ (m.log.length : Int) := by omega
  cases hd : m.dead with
  | true =>
    rw [hd] at hw1 hX1
    have HX1 := Lib.hid hX1
    have x8 : w1.cell? ⟨w.heap.size, 8, none⟩ = some (.bool true) := hX1.bx.cell 8 rfl
    have HD : Hid (m.dead = true ∧ m.write n b = (m, 9)) := ⟨hd, by unfold DM.write; rw [if_pos hd]⟩
    clear h hs hX1 hM hv hd hbm hlm hl24 hcl
    go_enter Try.func32, Try.ntmps32

    obtain ⟨wy, hwy⟩ : ∃ wy, World.setRow w1 (w.heap.size + 1) #[.slice a0 m.base.length c0, .slice a1 ws.length c1, .int .i64 m.room, .slice a2 m.log.length c2, .int .i64 m.certain, .slice a3 m.mark.length c3, .int .i64 m.fuse, .int .i64 m.ops, .bool true, .int .i64 lp, .slice a4 n4 c4, .slice a5 m.tail.length c5, .bool m.torn.isSome] = wy := ⟨_, rfl⟩
    have hf := HX1.out.fin #[.slice a0 m.base.length c0, .slice a1 ws.length c1, .int .i64 m.room, .slice a2 m.log.length c2, .int .i64 m.certain, .slice a3 m.mark.length c3, .int .i64 m.fuse, .int .i64 m.ops, .bool true, .int .i64 lp, .slice a4 n4 c4, .slice a5 m.tail.length c5, .bool m.torn.isSome]
    rw [hwy] at hf
    have HFIN : Hid (DoOut F w (m.write n b) (.returned (.tuple #[.agg #[.slice a0 m.base.length c0, .slice a1 ws.length c1, .int .i64 m.room, .slice a2 m.log.length c2, .int .i64 m.certain, .slice a3 m.mark.length c3, .int .i64 m.fuse, .int .i64 m.ops, .bool true, .int .i64 lp, .slice a4 n4 c4, .slice a5 m.tail.length c5, .bool m.torn.isSome], .int .i64 9])) wy ∧ BoxAt wy (w.heap.size + 1) #[.slice a0 m.base.length c0, .slice a1 ws.length c1, .int .i64 m.room, .slice a2 m.log.length c2, .int .i64 m.certain, .slice a3 m.mark.length c3, .int .i64 m.fuse, .int .i64 m.ops, .bool true, .int .i64 lp, .slice a4 n4 c4, .slice a5 m.tail.length c5, .bool m.torn.isSome]) := by
      refine ⟨?_, hf.2.1⟩
      rw [HD.out.2]
      refine ⟨⟨.slice a0 m.base.length c0, .slice a1 ws.length c1, .slice a2 m.log.length c2, .slice a3 m.mark.length c3, .slice a4 n4 c4, .slice a5 m.tail.length c5, lp, bs, ws⟩, ?_, H.out.1.below hf.1, hf.1⟩
      unfold rcells
      rw [HD.out.1]
    clear hf
    go_wp2_with (first
      | (refine wpList_load_row rfl _ _ rfl w.heap.size rfl _ _ (0, 0) _ HX1.out.bx Try.underlying52 rfl info13 ?_)
      | (refine wpList_store_row rfl _ _ _ rfl (w.heap.size + 1) _ rfl rfl _ _ HX1.out.rs info13 rfl (by simp [Value.oneCell']) ?_; rw [hwy]))
    exact bodyPost_ret (v := .tuple #[.agg #[.slice a0 m.base.length c0, .slice a1 ws.length c1, .int .i64 m.room, .slice a2 m.log.length c2, .int .i64 m.certain, .slice a3 m.mark.length c3, .int .i64 m.fuse, .int .i64 m.ops, .bool true, .int .i64 lp, .slice a4 n4 c4, .slice a5 m.tail.length c5, .bool m.torn.isSome], .int .i64 9]) (by simp [results, Try.results32, asAddr, run_loadVar_row wy (w.heap.size + 1) 52 52 _ (0, 0) _ HFIN.out.2 Try.underlying52 rfl info13]) rfl HFIN.out.1
  | false =>
    rw [hd] at hw1 hX1 hs
    have HX1 := Lib.hid hX1
    have x8 : w1.cell? ⟨w.heap.size, 8, none⟩ = some (.bool false) := hX1.bx.cell 8 rfl
    have x0 : w1.cell? ⟨w.heap.size, 0, none⟩ = some (.slice a0 m.base.length c0) := hX1.bx.cell 0 rfl
    have x2 : w1.cell? ⟨w.heap.size, 2, none⟩ = some (.int .i64 m.room) := hX1.bx.cell 2 rfl
    have x3 : w1.cell? ⟨w.heap.size, 3, none⟩ = some (.slice a2 m.log.length c2) := hX1.bx.cell 3 rfl
    have x4 : w1.cell? ⟨w.heap.size, 4, none⟩ = some (.int .i64 m.certain) := hX1.bx.cell 4 rfl
    have HD := Lib.hid hd
    by_cases hbd : ¬ (0 ≤ n ∧ n < m.base.length) ∨ b.length ≠ 512
    · by_cases hn0 : n < 0
      · have HBAD : Hid (m.write n b = (m, 1)) := by
          show _ = _
          unfold DM.write
          rw [hd, if_neg (by simp), if_pos hbd]
        clear hbd

        clear h hs hX1 hM hv hd hbm hlm hl24 hcl
        go_enter Try.func32, Try.ntmps32

        obtain ⟨wy, hwy⟩ : ∃ wy, World.setRow w1 (w.heap.size + 1) #[.slice a0 m.base.length c0, .slice a1 ws.length c1, .int .i64 m.room, .slice a2 m.log.length c2, .int .i64 m.certain, .slice a3 m.mark.length c3, .int .i64 m.fuse, .int .i64 m.ops, .bool false, .int .i64 lp, .slice a4 n4 c4, .slice a5 m.tail.length c5, .bool m.torn.isSome] = wy := ⟨_, rfl⟩
        have hf := HX1.out.fin #[.slice a0 m.base.length c0, .slice a1 ws.length c1, .int .i64 m.room, .slice a2 m.log.length c2, .int .i64 m.certain, .slice a3 m.mark.length c3, .int .i64 m.fuse, .int .i64 m.ops, .bool false, .int .i64 lp, .slice a4 n4 c4, .slice a5 m.tail.length c5, .bool m.torn.isSome]
        rw [hwy] at hf
        have HFIN : Hid (DoOut F w (m.write n b) (.returned (.tuple #[.agg #[.slice a0 m.base.length c0, .slice a1 ws.length c1, .int .i64 m.room, .slice a2 m.log.length c2, .int .i64 m.certain, .slice a3 m.mark.length c3, .int .i64 m.fuse, .int .i64 m.ops, .bool false, .int .i64 lp, .slice a4 n4 c4, .slice a5 m.tail.length c5, .bool m.torn.isSome], .int .i64 1])) wy ∧ BoxAt wy (w.heap.size + 1) #[.slice a0 m.base.length c0, .slice a1 ws.length c1, .int .i64 m.room, .slice a2 m.log.length c2, .int .i64 m.certain, .slice a3 m.mark.length c3, .int .i64 m.fuse, .int .i64 m.ops, .bool false, .int .i64 lp, .slice a4 n4 c4, .slice a5 m.tail.length c5, .bool m.torn.isSome]) := by
          refine ⟨?_, hf.2.1⟩
          rw [HBAD.out]
          refine ⟨⟨.slice a0 m.base.length c0, .slice a1 ws.length c1, .slice a2 m.log.length c2, .slice a3 m.mark.length c3, .slice a4 n4 c4, .slice a5 m.tail.length c5, lp, bs, ws⟩, ?_, H.out.1.below hf.1, hf.1⟩
          unfold rcells
          rw [HD.out]
        clear hf
        go_wp2_with (first
          | (refine wpList_load_row rfl _ _ rfl w.heap.size rfl _ _ (0, 0) _ HX1.out.bx Try.underlying52 rfl info13 ?_)
          | (refine wpList_store_row rfl _ _ _ rfl (w.heap.size + 1) _ rfl rfl _ _ HX1.out.rs info13 rfl (by simp [Value.oneCell']) ?_; rw [hwy]))
        exact bodyPost_ret (v := .tuple #[.agg #[.slice a0 m.base.length c0, .slice a1 ws.length c1, .int .i64 m.room, .slice a2 m.log.length c2, .int .i64 m.certain, .slice a3 m.mark.length c3, .int .i64 m.fuse, .int .i64 m.ops, .bool false, .int .i64 lp, .slice a4 n4 c4, .slice a5 m.tail.length c5, .bool m.torn.isSome], .int .i64 1]) (by simp [results, Try.results32, asAddr, run_loadVar_row wy (w.heap.size + 1) 52 52 _ (0, 0) _ HFIN.out.2 Try.underlying52 rfl info13]) rfl HFIN.out.1
      · by_cases hn1 : n ≥ (m.base.length : Int)
        · have HBAD : Hid (m.write n b = (m, 1)) := by
            show _ = _
            unfold DM.write
            rw [hd, if_neg (by simp), if_pos hbd]
          clear hbd

          clear h hs hX1 hM hv hd hbm hlm hl24 hcl
          go_enter Try.func32, Try.ntmps32

          obtain ⟨wy, hwy⟩ : ∃ wy, World.setRow w1 (w.heap.size + 1) #[.slice a0 m.base.length c0, .slice a1 ws.length c1, .int .i64 m.room, .slice a2 m.log.length c2, .int .i64 m.certain, .slice a3 m.mark.length c3, .int .i64 m.fuse, .int .i64 m.ops, .bool false, .int .i64 lp, .slice a4 n4 c4, .slice a5 m.tail.length c5, .bool m.torn.isSome] = wy := ⟨_, rfl⟩
          have hf := HX1.out.fin #[.slice a0 m.base.length c0, .slice a1 ws.length c1, .int .i64 m.room, .slice a2 m.log.length c2, .int .i64 m.certain, .slice a3 m.mark.length c3, .int .i64 m.fuse, .int .i64 m.ops, .bool false, .int .i64 lp, .slice a4 n4 c4, .slice a5 m.tail.length c5, .bool m.torn.isSome]
          rw [hwy] at hf
          have HFIN : Hid (DoOut F w (m.write n b) (.returned (.tuple #[.agg #[.slice a0 m.base.length c0, .slice a1 ws.length c1, .int .i64 m.room, .slice a2 m.log.length c2, .int .i64 m.certain, .slice a3 m.mark.length c3, .int .i64 m.fuse, .int .i64 m.ops, .bool false, .int .i64 lp, .slice a4 n4 c4, .slice a5 m.tail.length c5, .bool m.torn.isSome], .int .i64 1])) wy ∧ BoxAt wy (w.heap.size + 1) #[.slice a0 m.base.length c0, .slice a1 ws.length c1, .int .i64 m.room, .slice a2 m.log.length c2, .int .i64 m.certain, .slice a3 m.mark.length c3, .int .i64 m.fuse, .int .i64 m.ops, .bool false, .int .i64 lp, .slice a4 n4 c4, .slice a5 m.tail.length c5, .bool m.torn.isSome]) := by
            refine ⟨?_, hf.2.1⟩
            rw [HBAD.out]
            refine ⟨⟨.slice a0 m.base.length c0, .slice a1 ws.length c1, .slice a2 m.log.length c2, .slice a3 m.mark.length c3, .slice a4 n4 c4, .slice a5 m.tail.length c5, lp, bs, ws⟩, ?_, H.out.1.below hf.1, hf.1⟩
            unfold rcells
            rw [HD.out]
          clear hf
          go_wp2_with (first
            | (refine wpList_load_row rfl _ _ rfl w.heap.size rfl _ _ (0, 0) _ HX1.out.bx Try.underlying52 rfl info13 ?_)
            | (refine wpList_store_row rfl _ _ _ rfl (w.heap.size + 1) _ rfl rfl _ _ HX1.out.rs info13 rfl (by simp [Value.oneCell']) ?_; rw [hwy]))
          exact bodyPost_ret (v := .tuple #[.agg #[.slice a0 m.base.length c0, .slice a1 ws.length c1, .int .i64 m.room, .slice a2 m.log.length c2, .int .i64 m.certain, .slice a3 m.mark.length c3, .int .i64 m.fuse, .int .i64 m.ops, .bool false, .int .i64 lp, .slice a4 n4 c4, .slice a5 m.tail.length c5, .bool m.torn.isSome], .int .i64 1]) (by simp [results, Try.results32, asAddr, run_loadVar_row wy (w.heap.size + 1) 52 52 _ (0, 0) _ HFIN.out.2 Try.underlying52 rfl info13]) rfl HFIN.out.1
        · have HBAD : Hid (m.write n b = (m, 1)) := by
            show _ = _
            unfold DM.write
            rw [hd, if_neg (by simp), if_pos hbd]
          have t1 : ((vn : Int) != 512) = true := by have h3 : ¬ (vn : Int) = 512 := (by have := HVN.out; omega); simpa using h3
          clear hbd

          clear h hs hX1 hM hv hd hbm hlm hl24 hcl
          go_enter Try.func32, Try.ntmps32

          obtain ⟨wy, hwy⟩ : ∃ wy, World.setRow w1 (w.heap.size + 1) #[.slice a0 m.base.length c0, .slice a1 ws.length c1, .int .i64 m.room, .slice a2 m.log.length c2, .int .i64 m.certain, .slice a3 m.mark.length c3, .int .i64 m.fuse, .int .i64 m.ops, .bool false, .int .i64 lp, .slice a4 n4 c4, .slice a5 m.tail.length c5, .bool m.torn.isSome] = wy := ⟨_, rfl⟩
          have hf := HX1.out.fin #[.slice a0 m.base.length c0, .slice a1 ws.length c1, .int .i64 m.room, .slice a2 m.log.length c2, .int .i64 m.certain, .slice a3 m.mark.length c3, .int .i64 m.fuse, .int .i64 m.ops, .bool false, .int .i64 lp, .slice a4 n4 c4, .slice a5 m.tail.length c5, .bool m.torn.isSome]
          rw [hwy] at hf
          have HFIN : Hid (DoOut F w (m.write n b) (.returned (.tuple #[.agg #[.slice a0 m.base.length c0, .slice a1 ws.length c1, .int .i64 m.room, .slice a2 m.log.length c2, .int .i64 m.certain, .slice a3 m.mark.length c3, .int .i64 m.fuse, .int .i64 m.ops, .bool false, .int .i64 lp, .slice a4 n4 c4, .slice a5 m.tail.length c5, .bool m.torn.isSome], .int .i64 1])) wy ∧ BoxAt wy (w.heap.size + 1) #[.slice a0 m.base.length c0, .slice a1 ws.length c1, .int .i64 m.room, .slice a2 m.log.length c2, .int .i64 m.certain, .slice a3 m.mark.length c3, .int .i64 m.fuse, .int .i64 m.ops, .bool false, .int .i64 lp, .slice a4 n4 c4, .slice a5 m.tail.length c5, .bool m.torn.isSome]) := by
            refine ⟨?_, hf.2.1⟩
            rw [HBAD.out]
            refine ⟨⟨.slice a0 m.base.length c0, .slice a1 ws.length c1, .slice a2 m.log.length c2, .slice a3 m.mark.length c3, .slice a4 n4 c4, .slice a5 m.tail.length c5, lp, bs, ws⟩, ?_, H.out.1.below hf.1, hf.1⟩
            unfold rcells
            rw [HD.out]
          clear hf
          go_wp2_with (first
            | (refine wpList_load_row rfl _ _ rfl w.heap.size rfl _ _ (0, 0) _ HX1.out.bx Try.underlying52 rfl info13 ?_)
            | (refine wpList_store_row rfl _ _ _ rfl (w.heap.size + 1) _ rfl rfl _ _ HX1.out.rs info13 rfl (by simp [Value.oneCell']) ?_; rw [hwy]))
          exact bodyPost_ret (v := .tuple #[.agg #[.slice a0 m.base.length c0, .slice a1 ws.length c1, .int .i64 m.room, .slice a2 m.log.length c2, .int .i64 m.certain, .slice a3 m.mark.length c3, .int .i64 m.fuse, .int .i64 m.ops, .bool false, .int .i64 lp, .slice a4 n4 c4, .slice a5 m.tail.length c5, .bool m.torn.isSome], .int .i64 1]) (by simp [results, Try.results32, asAddr, run_loadVar_row wy (w.heap.size + 1) 52 52 _ (0, 0) _ HFIN.out.2 Try.underlying52 rfl info13]) rfl HFIN.out.1
    · by_cases hz : m.fuse = 0
      · have hn0 : ¬ n < 0 := by omega
        have hn1 : ¬ n ≥ (m.base.length : Int) := by omega
        have hb512 : b.length = 512 := by omega
        have t1 : ((vn : Int) != 512) = false := by have h3 : (vn : Int) = 512 := (by have := HVN.out; omega); rw [h3]; rfl
        obtain ⟨j, rfl⟩ := Int.eq_ofNat_of_zero_le (show 0 ≤ n by omega)
        have HJ : Hid (j < m.base.length ∧ b.length = 512) := ⟨by omega, hb512⟩

        have HBAD : Hid (m.write j b = ({ M with torn := some (j, b) }, 9) ∧ M.dead = true) := by
          refine ⟨?_, by rw [← HMM.out]; exact spend_dead hz⟩
          rw [← HMM.out]
          unfold DM.write
          rw [hd, if_neg (by simp), if_neg hbd, if_pos hz]
          rfl

        have e9 : decide (m.fuse ≠ 0) = false := by simpa using hz
        rw [e9] at hs
        have HS := Lib.hid hs
        clear h hs hX1 hM hv hd hbm hlm hl24 hcl e9 hz hbd
        go_enter Try.func32, Try.ntmps32
        go_wp2_with (refine wpList_load_row rfl _ _ rfl w.heap.size rfl _ _ (0, 0) _ HX1.out.bx Try.underlying52 rfl info13 ?_)
        refine HS.out.mono ?_
        rintro e w2 ⟨rfl, hb2⟩
        have hX2 := HX1.out.below hb2
        have hX3 := hX2.row #[.slice a0 m.base.length c0, .slice a1 ws.length c1, .int .i64 M.room, .slice a2 m.log.length c2, .int .i64 M.certain, .slice a3 m.mark.length c3, .int .i64 M.fuse, .int .i64 M.ops, .bool M.dead, .int .i64 lp, .slice a4 n4 c4, .slice a5 m.tail.length c5, .bool M.torn.isSome]
        obtain ⟨w3, hw3⟩ : ∃ w3, World.setRow w2 w.heap.size #[.slice a0 m.base.length c0, .slice a1 ws.length c1, .int .i64 M.room, .slice a2 m.log.length c2, .int .i64 M.certain, .slice a3 m.mark.length c3, .int .i64 M.fuse, .int .i64 M.ops, .bool M.dead, .int .i64 lp, .slice a4 n4 c4, .slice a5 m.tail.length c5, .bool M.torn.isSome] = w3 := ⟨_, rfl⟩
        rw [hw3] at hX3
        have HX2 := Lib.hid hX2
        have HX3 := Lib.hid hX3

        obtain ⟨w4, hw4⟩ : ∃ w4, World.setCell w3 ⟨w.heap.size, 12, none⟩ (.bool true) = w4 := ⟨_, rfl⟩
        have hX4 : DoX F w w4 #[.slice a0 m.base.length c0, .slice a1 ws.length c1, .int .i64 M.room, .slice a2 m.log.length c2, .int .i64 M.certain, .slice a3 m.mark.length c3, .int .i64 M.fuse, .int .i64 M.ops, .bool M.dead, .int .i64 lp, .slice a4 n4 c4, .slice a5 m.tail.length c5, .bool true] [] := by rw [← hw4]; exact HX3.out.set 12 (.bool true)
        have HX4 := Lib.hid hX4
        have of12 := HX3.out.bx.frozen 12
        have oc12 : w3.cell? ⟨w.heap.size, 12, none⟩ = some (.bool M.torn.isSome) := HX3.out.bx.cell 12 rfl

        have HLEN9 := Lib.hid HV.out.2

        have hcp9 := r6copied w4 _ (b) (rd_gf HV.out.1 HX4.out) HLEN9.out
        have HCP9 := Lib.hid hcp9
        clear hcp9
        go_wp2_with (first | (refine wpList_store_row rfl _ _ _ rfl w.heap.size _ rfl rfl _ _ HX2.out.bx info13 rfl (by simp [Value.oneCell']) ?_; rw [hw3]) | fail)
        refine HCP9.out.mono ?_
        rintro e w5 ⟨x9, n9, k9, rfl, hn9, ho9, hb9⟩

        have HX5 := Lib.hid ((HX4.out.below hb9).push (own_gf HF.out ho9 HX4.out.sz))

        obtain ⟨w6, hw6⟩ : ∃ w6, World.setCell w5 ⟨w.heap.size, 9, none⟩ (.int .i64 j) = w6 := ⟨_, rfl⟩
        have hX6 : DoX F w w6 #[.slice a0 m.base.length c0, .slice a1 ws.length c1, .int .i64 M.room, .slice a2 m.log.length c2, .int .i64 M.certain, .slice a3 m.mark.length c3, .int .i64 M.fuse, .int .i64 M.ops, .bool M.dead, .int .i64 j, .slice a4 n4 c4, .slice a5 m.tail.length c5, .bool true] [(.slice x9 n9 k9, b)] := by rw [← hw6]; exact HX5.out.set 9 (.int .i64 j)
        have HX6 := Lib.hid hX6
        have of9 := HX5.out.bx.frozen 9
        have oc9 : w5.cell? ⟨w.heap.size, 9, none⟩ = some (.int .i64 lp) := HX5.out.bx.cell 9 rfl

        obtain ⟨w7, hw7⟩ : ∃ w7, World.setCell w6 ⟨w.heap.size, 10, none⟩ (.slice x9 n9 k9) = w7 := ⟨_, rfl⟩
        have hX7 : DoX F w w7 #[.slice a0 m.base.length c0, .slice a1 ws.length c1, .int .i64 M.room, .slice a2 m.log.length c2, .int .i64 M.certain, .slice a3 m.mark.length c3, .int .i64 M.fuse, .int .i64 M.ops, .bool M.dead, .int .i64 j, .slice x9 n9 k9, .slice a5 m.tail.length c5, .bool true] [(.slice x9 n9 k9, b)] := by rw [← hw7]; exact HX6.out.set 10 (.slice x9 n9 k9)
        have HX7 := Lib.hid hX7
        have of10 := HX6.out.bx.frozen 10
        have oc10 : w6.cell? ⟨w.heap.size, 10, none⟩ = some (.slice a4 n4 c4) := HX6.out.bx.cell 10 rfl

        clear hb2 hX2 hX3 hX4 hX6 hX7 HS HX1 x0 x2 x3 x4 x8 hn9 ho9 hb9 HCP9

        obtain ⟨wy, hwy⟩ : ∃ wy, World.setRow w7 (w.heap.size + 1) #[.slice a0 m.base.length c0, .slice a1 ws.length c1, .int .i64 M.room, .slice a2 m.log.length c2, .int .i64 M.certain, .slice a3 m.mark.length c3, .int .i64 M.fuse, .int .i64 M.ops, .bool M.dead, .int .i64 j, .slice x9 n9 k9, .slice a5 m.tail.length c5, .bool true] = wy := ⟨_, rfl⟩
        have hf := HX7.out.fin #[.slice a0 m.base.length c0, .slice a1 ws.length c1, .int .i64 M.room, .slice a2 m.log.length c2, .int .i64 M.certain, .slice a3 m.mark.length c3, .int .i64 M.fuse, .int .i64 M.ops, .bool M.dead, .int .i64 j, .slice x9 n9 k9, .slice a5 m.tail.length c5, .bool true]
        rw [hwy] at hf
        have HFIN : Hid (DoOut F w (m.write j b) (.returned (.tuple #[.agg #[.slice a0 m.base.length c0, .slice a1 ws.length c1, .int .i64 M.room, .slice a2 m.log.length c2, .int .i64 M.certain, .slice a3 m.mark.length c3, .int .i64 M.fuse, .int .i64 M.ops, .bool M.dead, .int .i64 j, .slice x9 n9 k9, .slice a5 m.tail.length c5, .bool true], .int .i64 9])) wy ∧ BoxAt wy (w.heap.size + 1) #[.slice a0 m.base.length c0, .slice a1 ws.length c1, .int .i64 M.room, .slice a2 m.log.length c2, .int .i64 M.certain, .slice a3 m.mark.length c3, .int .i64 M.fuse, .int .i64 M.ops, .bool M.dead, .int .i64 j, .slice x9 n9 k9, .slice a5 m.tail.length c5, .bool true]) := by
          refine ⟨?_, hf.2.1⟩
          rw [HBAD.out.1]
          have hold := H.out.2.below hf.1
          have hnew : RdB F wy (.slice x9 n9 k9) b := hf.2.2 _ (List.mem_cons_self ..)
          exact ⟨⟨.slice a0 m.base.length c0, .slice a1 ws.length c1, .slice a2 m.log.length c2, .slice a3 m.mark.length c3, .slice x9 n9 k9, .slice a5 m.tail.length c5, (j : Int), bs, ws⟩, rfl, ⟨hold.base, hold.wrow, hold.wws, hold.wrd, hold.log, hold.mark, hold.tail, fun p hp => by cases hp; exact ⟨rfl, hnew⟩, ⟨_, _, _, rfl⟩, torn_wf hold.wf HBAD.out.2 j b (by rw [HM.out.1]; exact HJ.out.1) HJ.out.2⟩, hf.1⟩
        clear hf
        go_wp2_with (first
          | (refine wpList_load_row rfl _ _ rfl w.heap.size rfl _ _ (0, 0) _ HX7.out.bx Try.underlying52 rfl info13 ?_)
          | (refine wpList_store_row rfl _ _ _ rfl (w.heap.size + 1) _ rfl rfl _ _ HX7.out.rs info13 rfl (by simp [Value.oneCell']) ?_; rw [hwy]))
        exact bodyPost_ret (v := .tuple #[.agg #[.slice a0 m.base.length c0, .slice a1 ws.length c1, .int .i64 M.room, .slice a2 m.log.length c2, .int .i64 M.certain, .slice a3 m.mark.length c3, .int .i64 M.fuse, .int .i64 M.ops, .bool M.dead, .int .i64 j, .slice x9 n9 k9, .slice a5 m.tail.length c5, .bool true], .int .i64 9]) (by simp [results, Try.results32, asAddr, run_loadVar_row wy (w.heap.size + 1) 52 52 _ (0, 0) _ HFIN.out.2 Try.underlying52 rfl info13]) rfl HFIN.out.1
      · have hn0 : ¬ n < 0 := by omega
        have hn1 : ¬ n ≥ (m.base.length : Int) := by omega
        have hb512 : b.length = 512 := by omega
        have t1 : ((vn : Int) != 512) = false := by have h3 : (vn : Int) = 512 := (by have := HVN.out; omega); rw [h3]; rfl
        obtain ⟨j, rfl⟩ := Int.eq_ofNat_of_zero_le (show 0 ≤ n by omega)
        have HJ : Hid (j < m.base.length ∧ b.length = 512) := ⟨by omega, hb512⟩

        have HOK : Hid (m.write j b = ({ M with waiting := M.waiting ++ [(j, b)] }, 0) ∧ M.waiting.length + 1 ≤ M.ops ∧ M.ops ≤ 4398046511104) := by
          have h1 := spend_ops hz
          have h2 := h.wf.nwait
          refine ⟨?_, by rw [HM.out.2.1, ← HMM.out, h1]; omega, by rw [← HMM.out, h1]; omega⟩
          rw [← HMM.out, spend_waiting]
          unfold DM.write
          rw [hd, if_neg (by simp), if_neg hbd, if_neg hz]
          rfl
        have HWL : Hid (ws.length = M.waiting.length) := by show _ = _; rw [HM.out.2.1, h.wws, List.length_map]
        have hwc := h.wrow.form
        have HNB : Hid (ws.length + 1 ≤ 4398046511104) := by show _ ≤ _; have h1 := HOK.out; have h2 := HWL.out; omega
        have HFUL : Hid (c1 = 0 ∨ a1 ≠ none) := by
          show _ ∨ _
          by_cases ha : a1 = none
          · left
            obtain ⟨_, _, _, e5, _, _, hnil, _⟩ := h.wrow
            injection e5 with e6 _ e7
            rw [e7]
            exact hnil (by rw [← e6]; exact ha)
          · right; exact ha
        have hwsi : (ws.length : Int) ≤ 4398046511104 := by have h1 := HOK.out; have h2 := HWL.out; omega
        have hws0 : (0 : Int) ≤ (ws.length : Int) := by omega
        have hj0 : (0 : Int) ≤ (j : Int) := by omega

        have e9 : decide (m.fuse ≠ 0) = true := by simpa using hz
        rw [e9] at hs
        have HS := Lib.hid hs
        clear h hs hX1 hM hv hd hbm hlm hl24 hcl e9 hz hbd hb512
        go_enter Try.func32, Try.ntmps32
        go_wp2_with (refine wpList_load_row rfl _ _ rfl w.heap.size rfl _ _ (0, 0) _ HX1.out.bx Try.underlying52 rfl info13 ?_)
        refine HS.out.mono ?_
        rintro e w2 ⟨rfl, hb2⟩
        have hX2 := HX1.out.below hb2
        have hX3 := hX2.row #[.slice a0 m.base.length c0, .slice a1 ws.length c1, .int .i64 M.room, .slice a2 m.log.length c2, .int .i64 M.certain, .slice a3 m.mark.length c3, .int .i64 M.fuse, .int .i64 M.ops, .bool M.dead, .int .i64 lp, .slice a4 n4 c4, .slice a5 m.tail.length c5, .bool M.torn.isSome]
        obtain ⟨w3, hw3⟩ : ∃ w3, World.setRow w2 w.heap.size #[.slice a0 m.base.length c0, .slice a1 ws.length c1, .int .i64 M.room, .slice a2 m.log.length c2, .int .i64 M.certain, .slice a3 m.mark.length c3, .int .i64 M.fuse, .int .i64 M.ops, .bool M.dead, .int .i64 lp, .slice a4 n4 c4, .slice a5 m.tail.length c5, .bool M.torn.isSome] = w3 := ⟨_, rfl⟩
        rw [hw3] at hX3
        have HX2 := Lib.hid hX2
        have HX3 := Lib.hid hX3

        have y1 : w3.cell? ⟨w.heap.size, 1, none⟩ = some (.slice a1 ws.length c1) := hX3.bx.cell 1 rfl
        have hsl := wrow_hm a1 ws.length c1 (by obtain ⟨_, _, e, h2, _⟩ := hwc; injection e with _ _ e3; subst e3; exact h2)
        have HLEN9 := Lib.hid HV.out.2
        have hS0 : w3.drew.cell? ⟨w.heap.size, 1, none⟩ = some (.slice a1 ws.length c1) ∧ w3.drew.frozen? ⟨w.heap.size, 1, none⟩ = false ∧ DoX F w w3.drew #[.slice a0 m.base.length c0, .slice a1 ws.length c1, .int .i64 M.room, .slice a2 m.log.length c2, .int .i64 M.certain, .slice a3 m.mark.length c3, .int .i64 M.fuse, .int .i64 M.ops, .bool M.dead, .int .i64 lp, .slice a4 n4 c4, .slice a5 m.tail.length c5, .bool M.torn.isSome] [] := ⟨hX3.bx.cell 1 rfl, hX3.bx.frozen 1, hX3.drew⟩
        have hcp9 := r6copied w3.drew _ b (rd_gf HV.out.1 hX3.drew) HLEN9.out
        have HCP9 := Lib.hid hcp9
        clear hcp9
        go_upto_region 29 with (first | (refine wpList_store_row rfl _ _ _ rfl w.heap.size _ rfl rfl _ _ HX2.out.bx info13 rfl (by simp [Value.oneCell']) ?_; rw [hw3]) | fail)
        clear hb2 hX2 HS HX1 x0 x2 x3 x4 x8
        have f1 : w3.frozen? ⟨w.heap.size, 1, none⟩ = false := hX3.bx.frozen 1
        clear hX3
        try go_wp2

        have hSU : w3.drew.cell? ⟨w.heap.size, 1, none⟩ = some (.slice a1 ws.length c1) := hS0.1
        refine wp_region_U (fun W => W.cell? ⟨w.heap.size, 1, none⟩ = some (.slice a1 ws.length c1)) [16] (by kernel_rfl) ?_
        refine wpAnyU_take (i := 0) [1, 8, 14, 15, 16] rfl (by kernel_rfl) (by kernel_rfl) (by kernel_rfl) (by kernel_rfl) (by kernel_rfl) (by kernel_rfl) (fun _ _ _ h => h) (Or.inl ⟨by rfl, (by intro W hSW; (try dsimp only at hSW); (try go_split_ands); go_simp <;> with_reducible rfl)⟩) hSU ?_
        try simp only [Act.put, List.setIfInBounds_toArray, List.set_cons_zero, List.set_cons_succ]
        refine wpAnyU_take (i := 1) [8, 14, 15, 16] rfl (by kernel_rfl) (by kernel_rfl) (by kernel_rfl) (by kernel_rfl) (by kernel_rfl) (by kernel_rfl) (fun _ _ _ h => h) (Or.inl ⟨by rfl, (by intro W hSW; (try dsimp only at hSW); (try go_split_ands); go_simp <;> with_reducible rfl)⟩) hSU ?_
        try simp only [Act.put, List.setIfInBounds_toArray, List.set_cons_zero, List.set_cons_succ]
        refine wpAnyU_take (i := 2) [3, 4, 8, 14, 15, 16] rfl (by kernel_rfl) (by kernel_rfl) (by kernel_rfl) (by kernel_rfl) (by kernel_rfl) (by kernel_rfl) (fun _ _ _ h => h) (Or.inl ⟨by rfl, (by intro W hSW; (try dsimp only at hSW); (try go_split_ands); go_simp <;> with_reducible rfl)⟩) hSU ?_
        try simp only [Act.put, List.setIfInBounds_toArray, List.set_cons_zero, List.set_cons_succ]
        refine wpAnyU_take (i := 3) [4, 8, 14, 15, 16] rfl (by kernel_rfl) (by kernel_rfl) (by kernel_rfl) (by kernel_rfl) (by kernel_rfl) (by kernel_rfl) (fun _ _ _ h => h) (Or.inl ⟨by rfl, (by intro W hSW; (try dsimp only at hSW); (try go_split_ands); go_simp <;> with_reducible rfl)⟩) hSU ?_
        try simp only [Act.put, List.setIfInBounds_toArray, List.set_cons_zero, List.set_cons_succ]
        refine wpAnyU_take (i := 4) [8, 14, 15, 16] rfl (by kernel_rfl) (by kernel_rfl) (by kernel_rfl) (by kernel_rfl) (by kernel_rfl) (by kernel_rfl) (fun _ _ _ h => h) (Or.inl ⟨by rfl, (by intro W hSW; (try dsimp only at hSW); (try go_split_ands); go_simp <;> with_reducible rfl)⟩) hSU ?_
        try simp only [Act.put, List.setIfInBounds_toArray, List.set_cons_zero, List.set_cons_succ]
        refine wpAnyU_take (i := 5) [6, 7, 8, 14, 15, 16] rfl (by kernel_rfl) (by kernel_rfl) (by kernel_rfl) (by kernel_rfl) (by kernel_rfl) (by kernel_rfl) (fun _ _ _ h => h) (Or.inl ⟨by rfl, (by intro W hSW; (try dsimp only at hSW); (try go_split_ands); go_simp <;> with_reducible rfl)⟩) hSU ?_
        try simp only [Act.put, List.setIfInBounds_toArray, List.set_cons_zero, List.set_cons_succ]
        refine wpAnyU_take (i := 6) [7, 8, 14, 15, 16] rfl (by kernel_rfl) (by kernel_rfl) (by kernel_rfl) (by kernel_rfl) (by kernel_rfl) (by kernel_rfl) (fun _ _ _ h => h) (Or.inl ⟨by rfl, (by intro W hSW; (try dsimp only at hSW); (try go_split_ands); go_simp <;> with_reducible rfl)⟩) hSU ?_
        try simp only [Act.put, List.setIfInBounds_toArray, List.set_cons_zero, List.set_cons_succ]
        refine wpAnyU_take (i := 7) [8, 14, 15, 16] rfl (by kernel_rfl) (by kernel_rfl) (by kernel_rfl) (by kernel_rfl) (by kernel_rfl) (by kernel_rfl) (fun _ _ _ h => h) (Or.inl ⟨by rfl, (by intro W hSW; (try dsimp only at hSW); (try go_split_ands); go_simp <;> with_reducible rfl)⟩) hSU ?_
        try simp only [Act.put, List.setIfInBounds_toArray, List.set_cons_zero, List.set_cons_succ]
        refine wpAnyU_take (i := 8) [14, 15, 16] rfl (by kernel_rfl) (by kernel_rfl) (by kernel_rfl) (by kernel_rfl) (by kernel_rfl) (by kernel_rfl) (fun _ _ _ h => h) (Or.inl ⟨by rfl, (by intro W hSW; (try dsimp only at hSW); (try go_split_ands); go_simp <;> with_reducible rfl)⟩) hSU ?_
        try simp only [Act.put, List.setIfInBounds_toArray, List.set_cons_zero, List.set_cons_succ]
        refine wpAnyU_take (i := 9) [12, 13, 14, 15, 16] rfl (by kernel_rfl) (by kernel_rfl) (by kernel_rfl) (by kernel_rfl) (by kernel_rfl) (by kernel_rfl) (fun _ _ _ h => h) (Or.inl ⟨by rfl, (by intro W hSW; (try dsimp only at hSW); (try go_split_ands); go_simp <;> with_reducible rfl)⟩) hSU ?_
        try simp only [Act.put, List.setIfInBounds_toArray, List.set_cons_zero, List.set_cons_succ]
        refine wpAnyU_take (i := 10) [11, 12, 13, 14, 15, 16] rfl (by kernel_rfl) (by kernel_rfl) (by kernel_rfl) (by kernel_rfl) (by kernel_rfl) (by kernel_rfl) (fun _ _ _ h => h) (Or.inl ⟨by rfl, (by intro W hSW; (try dsimp only at hSW); (try go_split_ands); go_simp <;> with_reducible rfl)⟩) hSU ?_
        try simp only [Act.put, List.setIfInBounds_toArray, List.set_cons_zero, List.set_cons_succ]
        refine wpAnyU_one (i := 11) (by kernel_rfl) rfl (fun K hK => ?_)
        go_simp
        go_at_call 42
        refine HCP9.out.mono ?_
        rintro e w4 ⟨x9, n9, k9, rfl, hn9, ho9, hb9⟩
        have hX4 := HX3.out.drew.below hb9
        have z1 : w4.cell? ⟨w.heap.size, 1, none⟩ = some (.slice a1 ws.length c1) := hX4.bx.cell 1 rfl
        have z1a : (w4.alloc (.cells #[.int .i64 j, .slice x9 n9 k9] 50)).cell? ⟨w.heap.size, 1, none⟩ = some (.slice a1 ws.length c1) := (hX4.below ((Below.refl w4.heap.size w4).alloc (Nat.le_refl _) (.cells #[.int .i64 j, .slice x9 n9 k9] 50))).bx.cell 1 rfl
        obtain ⟨k5, w5, hr5, ho5, hb5⟩ := append_wrow (ty := 48) (j := (j : Int)) (a9 := x9) (n9 := n9) (c9 := k9) ((rep_gf H.out.2 hX4).wrow.full (fun _ => HFUL.out)) (gf_lt HF.out hX4) HNB.out
        have hX5 := ((hX4.push (own_gf HF.out ho9 HX3.out.drew.sz)).below hb5)
        have z2 : w5.cell? ⟨w.heap.size, 1, none⟩ = some (.slice a1 ws.length c1) := hX5.bx.cell 1 rfl
        have z3 : w5.frozen? ⟨w.heap.size, 1, none⟩ = false := hX5.bx.frozen 1
        have HR5 := Lib.hid hr5
        have HX5 := Lib.hid (And.intro hX5 ho5)
        clear hn9 ho9 hb9 hX4 hr5 ho5 hb5 hX5
        refine hK.out _ _ (fun _ => z1) (fun _ => ?_)
        clear hK K
        refine wpAnyU_take (i := 12) [13, 14, 15, 16] rfl (by kernel_rfl) (by kernel_rfl) (by kernel_rfl) (by kernel_rfl) (by kernel_rfl) (by kernel_rfl) (fun _ _ _ h => h) (Or.inl ⟨by rfl, (by intro W hSW; (try dsimp only at hSW); (try go_split_ands); go_simp <;> with_reducible rfl)⟩) z1 ?_
        try simp only [Act.put, List.setIfInBounds_toArray, List.set_cons_zero, List.set_cons_succ]
        refine wpAnyU_one (i := 13) (by kernel_rfl) rfl (fun K hK => ?_)
        go_simp
        refine hK.out _ _ (fun _ => z1a) (fun _ => ?_)
        clear hK K
        refine wpAnyU_one (i := 14) (by kernel_rfl) rfl (fun K hK => ?_)
        refine step_append_eq rfl rfl HR5.out rfl rfl ?_
        refine hK.out _ _ (fun _ => z2) (fun _ => ?_)
        clear hK K
        refine wpAnyU_take (i := 15) [16] rfl (by kernel_rfl) (by kernel_rfl) (by kernel_rfl) (by kernel_rfl) (by kernel_rfl) (by kernel_rfl) (fun _ _ _ h => h) (Or.inl ⟨by rfl, (by intro W hSW; (try dsimp only at hSW); (try go_split_ands); go_simp <;> with_reducible rfl)⟩) z2 ?_
        try simp only [Act.put, List.setIfInBounds_toArray, List.set_cons_zero, List.set_cons_succ]
        refine wpAnyU_one (i := 16) (by kernel_rfl) rfl (fun K hK => ?_)
        go_simp
        refine hK.out _ _ (fun h => absurd h (by decide)) (fun _ => ?_)
        clear hK K
        refine wpAnyU_done (by kernel_rfl) ?_ _

        obtain ⟨w6, hw6⟩ : ∃ w6, World.setCell w5 ⟨w.heap.size, 1, none⟩ (.slice (some ⟨w4.heap.size + 1, 0, none⟩) (ws.length + 1) k5) = w6 := ⟨_, rfl⟩
        have hX6 : DoX F w w6 #[.slice a0 m.base.length c0, .slice (some ⟨w4.heap.size + 1, 0, none⟩) (ws.length + 1) k5, .int .i64 M.room, .slice a2 m.log.length c2, .int .i64 M.certain, .slice a3 m.mark.length c3, .int .i64 M.fuse, .int .i64 M.ops, .bool M.dead, .int .i64 lp, .slice a4 n4 c4, .slice a5 m.tail.length c5, .bool M.torn.isSome] [(.slice x9 n9 k9, b)] := by rw [← hw6]; exact HX5.out.1.set 1 (.slice (some ⟨w4.heap.size + 1, 0, none⟩) (ws.length + 1) k5)
        have HX6 := Lib.hid hX6
        have of1 := HX5.out.1.bx.frozen 1
        have oc1 : w5.cell? ⟨w.heap.size, 1, none⟩ = some (.slice a1 ws.length c1) := HX5.out.1.bx.cell 1 rfl

        have HROW : Hid (RdV (Gf F w) w6 2 (.slice (some ⟨w4.heap.size + 1, 0, none⟩) (ws.length + 1) k5) (ws.length + 1) (wcells ws ++ [.int .i64 j, .slice x9 n9 k9])) := by
          show RdV _ _ _ _ _ _
          rw [← hw6]
          exact RdV.chg HX5.out.2 (chg_setCell w5 ⟨w.heap.size, 1, none⟩ _ (.inr (.inl rfl)))
        clear hS0 y1 hsl hwc z1 z1a z2 z3 HCP9 HR5 hX6
        try rw [hw6]

        obtain ⟨wy, hwy⟩ : ∃ wy, World.setRow w6 (w.heap.size + 1) #[.slice a0 m.base.length c0, .slice (some ⟨w4.heap.size + 1, 0, none⟩) (ws.length + 1) k5, .int .i64 M.room, .slice a2 m.log.length c2, .int .i64 M.certain, .slice a3 m.mark.length c3, .int .i64 M.fuse, .int .i64 M.ops, .bool M.dead, .int .i64 lp, .slice a4 n4 c4, .slice a5 m.tail.length c5, .bool M.torn.isSome] = wy := ⟨_, rfl⟩
        have hf := HX6.out.fin #[.slice a0 m.base.length c0, .slice (some ⟨w4.heap.size + 1, 0, none⟩) (ws.length + 1) k5, .int .i64 M.room, .slice a2 m.log.length c2, .int .i64 M.certain, .slice a3 m.mark.length c3, .int .i64 M.fuse, .int .i64 M.ops, .bool M.dead, .int .i64 lp, .slice a4 n4 c4, .slice a5 m.tail.length c5, .bool M.torn.isSome]
        rw [hwy] at hf
        have HFIN : Hid (DoOut F w (m.write j b) (.returned (.tuple #[.agg #[.slice a0 m.base.length c0, .slice (some ⟨w4.heap.size + 1, 0, none⟩) (ws.length + 1) k5, .int .i64 M.room, .slice a2 m.log.length c2, .int .i64 M.certain, .slice a3 m.mark.length c3, .int .i64 M.fuse, .int .i64 M.ops, .bool M.dead, .int .i64 lp, .slice a4 n4 c4, .slice a5 m.tail.length c5, .bool M.torn.isSome], .int .i64 0])) wy ∧ BoxAt wy (w.heap.size + 1) #[.slice a0 m.base.length c0, .slice (some ⟨w4.heap.size + 1, 0, none⟩) (ws.length + 1) k5, .int .i64 M.room, .slice a2 m.log.length c2, .int .i64 M.certain, .slice a3 m.mark.length c3, .int .i64 M.fuse, .int .i64 M.ops, .bool M.dead, .int .i64 lp, .slice a4 n4 c4, .slice a5 m.tail.length c5, .bool M.torn.isSome]) := by
          refine ⟨?_, hf.2.1⟩
          rw [HOK.out.1]
          have hold := H.out.2.below hf.1
          have hnew : RdB F wy (.slice x9 n9 k9) b := hf.2.2 _ (List.mem_cons_self ..)
          have hrow : RdV F wy 2 (.slice (some ⟨w4.heap.size + 1, 0, none⟩) (ws.length + 1) k5) (ws.length + 1) (wcells ws ++ [.int .i64 j, .slice x9 n9 k9]) := by
            rw [← hwy]
            exact RdV.mono (RdV.chg HROW.out (chg_setRow _ _ _ (.inr (.inr rfl)))) (fun _ _ hk => .inl hk)
          exact ⟨⟨.slice a0 m.base.length c0, .slice (some ⟨w4.heap.size + 1, 0, none⟩) (ws.length + 1) k5, .slice a2 m.log.length c2, .slice a3 m.mark.length c3, .slice a4 n4 c4, .slice a5 m.tail.length c5, lp, bs, ws ++ [(j, (b, .slice x9 n9 k9))]⟩, rfl,
            ⟨hold.base, by show RdV _ _ _ _ (ws ++ [(j, (b, Value.slice x9 n9 k9))]).length (wcells (ws ++ [(j, (b, Value.slice x9 n9 k9))])); rw [List.length_append, wcells_snoc]; exact hrow,
              by show M.waiting ++ [(j, b)] = (ws ++ [(j, (b, Value.slice x9 n9 k9))]).map _; rw [List.map_append, ← hold.wws]; rfl,
              fun p hp => by
                rcases List.mem_append.1 hp with hp | hp
                · exact hold.wrd p hp
                · rw [List.mem_singleton] at hp
                  subst hp
                  exact hnew,
              hold.log, hold.mark, hold.tail, hold.torn, hold.lbf, write_wf hold.wf HOK.out.2.1 j b (by rw [HM.out.1]; exact HJ.out.1) HJ.out.2⟩, hf.1⟩
        clear hf
        go_wp2_with (first
          | (refine wpList_load_row rfl _ _ rfl w.heap.size rfl _ _ (0, 0) _ HX6.out.bx Try.underlying52 rfl info13 ?_)
          | (refine wpList_store_row rfl _ _ _ rfl (w.heap.size + 1) _ rfl rfl _ _ HX6.out.rs info13 rfl (by simp [Value.oneCell']) ?_; rw [hwy]))
        exact bodyPost_ret (v := .tuple #[.agg #[.slice a0 m.base.length c0, .slice (some ⟨w4.heap.size + 1, 0, none⟩) (ws.length + 1) k5, .int .i64 M.room, .slice a2 m.log.length c2, .int .i64 M.certain, .slice a3 m.mark.length c3, .int .i64 M.fuse, .int .i64 M.ops, .bool M.dead, .int .i64 lp, .slice a4 n4 c4, .slice a5 m.tail.length c5, .bool M.torn.isSome], .int .i64 0]) (by simp [results, Try.results32, asAddr, run_loadVar_row wy (w.heap.size + 1) 52 52 _ (0, 0) _ HFIN.out.2 Try.underlying52 rfl info13]) rfl HFIN.out.1
end Mun
