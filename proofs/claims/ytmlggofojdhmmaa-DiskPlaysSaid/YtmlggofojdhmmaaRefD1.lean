/- Contract of munimentref6.Do: one operation. -/
import Derived.Test.YtmlggofojdhmmaaRefDA
set_option maxRecDepth 100000
set_option linter.unusedVariables false
set_option linter.unusedSimpArgs false
namespace Mun
open Go Go.RowKit
open Go.Proofs

set_option maxHeartbeats 1000000 in
theorem r6do_sync {F : Foot} (w : World) (m : DM) (r : RV) (h : RRep F w m r) (hF : ∀ k, F k → k < w.heap.size) (ho : m.ops < 4398046511104) (n : Int) (v : Value) (b : Bytes) (hv : RdB F w v b) (hbl : b.length ≤ 140737488355328) : Calls Try.prog 32 #[.agg (rcells m r), .int .i64 1, .int .i64 n, v] w (DoOut F w (m.sync)) := by
  obtain ⟨a0, c0, a1, c1, a2, c2, a3, c3, a4, n4, c4, a5, c5, e0, e1, e2, e3, e4, e5⟩ := h.forms
  have hX1 := DoX.start F w (rcells m r)
  obtain ⟨w1, hw1⟩ : ∃ w1, (w.alloc (.cells (rcells m r) 52)).alloc (.cells Z13 52) = w1 := ⟨_, rfl⟩
  rw [hw1] at hX1
  have hs := r6spend w1 m r (h.below hX1.bl) ho
  obtain ⟨M, hM⟩ : ∃ M, m.spend = M := ⟨_, rfl⟩
  have HM : Hid (M.base = m.base ∧ M.waiting = m.waiting ∧ M.log = m.log ∧ M.mark = m.mark ∧ M.tail = m.tail ∧ M.torn = m.torn ∧ M.certain = m.certain ∧ M.room = m.room ∧ M.Wf) := by
    rw [← hM]
    exact ⟨spend_base m, spend_waiting m, spend_log m, spend_mark m, spend_tail m, spend_torn m, spend_certain m, spend_room m, DM.spend_wf h.wf⟩
  have HMM := Lib.hid hM
  have hsp := h.spend
  rw [hM] at hs hsp
  have H := Lib.hid (And.intro h hsp)
  clear hsp
  obtain ⟨bv, wv, lv, mv, lb, tv, lp, bs, ws⟩ := r
  simp only at e0 e1 e2 e3 e4 e5
  subst e0 e1 e2 e3 e4 e5
  have hbm := h.base.row.nmax
  have hlm := h.wf.room
  have hl24 := h.wf.room24
  have hcl := h.wf.certain
  unfold rcells at hw1 hs hX1 ⊢
  unfold Z13 at hw1
  simp only at hw1 hs hX1 ⊢
  have HF := Lib.hid hF
  have HV := Lib.hid (And.intro hv hbl)
  obtain ⟨va, vn, vc, rfl, HVN, -, -⟩ := hv.formN
  have hvi : (vn : Int) ≤ 140737488355328 := by have := HVN.out; omega
  have hv0 : (0 : Int) ≤ (vn : Int) := by omega
  have hbi : (m.base.length : Int) ≤ 9223372036854775807 := by unfold maxLen at hbm; omega
  have hlli : (m.log.length : Int) ≤ 16777216 := by omega
  have hrmi : (m.room : Int) ≤ 16777216 := by omega
  have hcti : (m.certain : Int) ≤ (m.log.length : Int) := by omega
  have hct0 : (0 : Int) ≤ (m.certain : Int) := by omega
  have hll0 : (0 : Int) ≤ (m.log.length : Int) := by omega
  cases hd : m.dead with
  | true =>
    rw [hd] at hw1 hX1
    have HX1 := Lib.hid hX1
    have x8 : w1.cell? ⟨w.heap.size, 8, none⟩ = some (.bool true) := hX1.bx.cell 8 rfl
    have HD : Hid (m.dead = true ∧ m.sync = (m, 9)) := ⟨hd, by unfold DM.sync; rw [if_pos hd]⟩
    clear h hs hX1 hM hv hd hbm hlm hl24 hcl
    go_enter Try.func32, Try.ntmps32

    obtain ⟨wy, hwy⟩ : ∃ wy, World.setRow w1 (w.heap.size + 1) #[.slice a0 m.base.length c0, .slice a1 ws.length c1, .int .i64 m.room, .slice a2 m.log.length c2, .int .i64 m.certain, .slice a3 m.mark.length c3, .int .i64 m.fuse, .int .i64 m.ops, .bool true, .int .i64 lp, .slice a4 n4 c4, .slice a5 m.tail.length c5, .bool m.torn.isSome] = wy := ⟨_, rfl⟩
    have hf := HX1.out.fin #[.slice a0 m.base.length c0, .slice a1 ws.length c1, .int .i64 m.room, .slice a2 m.log.length c2, .int .i64 m.certain, .slice a3 m.mark.length c3, .int .i64 m.fuse, .int .i64 m.ops, .bool true, .int .i64 lp, .slice a4 n4 c4, .slice a5 m.tail.length c5, .bool m.torn.isSome]
    rw [hwy] at hf
    have HFIN : Hid (DoOut F w (m.sync) (.returned (.tuple #[.agg #[.slice a0 m.base.length c0, .slice a1 ws.length c1, .int .i64 m.room, .slice a2 m.log.length c2, .int .i64 m.certain, .slice a3 m.mark.length c3, .int .i64 m.fuse, .int .i64 m.ops, .bool true, .int .i64 lp, .slice a4 n4 c4, .slice a5 m.tail.length c5, .bool m.torn.isSome], .int .i64 9])) wy ∧ BoxAt wy (w.heap.size + 1) #[.slice a0 m.base.length c0, .slice a1 ws.length c1, .int .i64 m.room, .slice a2 m.log.length c2, .int .i64 m.certain, .slice a3 m.mark.length c3, .int .i64 m.fuse, .int .i64 m.ops, .bool true, .int .i64 lp, .slice a4 n4 c4, .slice a5 m.tail.length c5, .bool m.torn.isSome]) := by
      refine ⟨?_, hf.2.1⟩
      rw [HD.out.2]
      refine ⟨⟨.slice a0 m.base.length c0, .slice a1 ws.length c1, .slice a2 m.log.length c2, .slice a3 m.mark.length c3, .slice a4 n4 c4, .slice a5 m.tail.length c5, lp, bs, ws⟩, ?_, H.out.1.below hf.1, hf.1⟩
      unfold rcells
      rw [HD.out.1]
    clear hf
    go_wp2_with (first
      | (refine wpList_load_row rfl _ _ rfl w.heap.size rfl _ _ (0, 0) _ HX1.out.bx Try.underlying52 rfl info13 ?_)
      | (refine wpList_store_row rfl _ _ _ rfl (w.heap.size + 1) _ rfl rfl _ _ HX1.out.rs info13 rfl (by simp [Value.oneCell']) ?_; rw [hwy]))
    exact bodyPost_ret (v := .tuple #[.agg #[.slice a0 m.base.length c0, .slice a1 ws.length c1, .int .i64 m.room, .slice a2 m.log.length c2, .int .i64 m.certain, .slice a3 m.mark.length c3, .int .i64 m.fuse, .int .i64 m.ops, .bool true, .int .i64 lp, .slice a4 n4 c4, .slice a5 m.tail.length c5, .bool m.torn.isSome], .int .i64 9]) (by simp [results, Try.results32, asAddr, run_loadVar_row wy (w.heap.size + 1) 52 52 _ (0, 0) _ HFIN.out.2 Try.underlying52 rfl info13]) rfl HFIN.out.1
  | false =>
    rw [hd] at hw1 hX1 hs
    have HX1 := Lib.hid hX1
    have x8 : w1.cell? ⟨w.heap.size, 8, none⟩ = some (.bool false) := hX1.bx.cell 8 rfl
    have x0 : w1.cell? ⟨w.heap.size, 0, none⟩ = some (.slice a0 m.base.length c0) := hX1.bx.cell 0 rfl
    have x2 : w1.cell? ⟨w.heap.size, 2, none⟩ = some (.int .i64 m.room) := hX1.bx.cell 2 rfl
    have x3 : w1.cell? ⟨w.heap.size, 3, none⟩ = some (.slice a2 m.log.length c2) := hX1.bx.cell 3 rfl
    have x4 : w1.cell? ⟨w.heap.size, 4, none⟩ = some (.int .i64 m.certain) := hX1.bx.cell 4 rfl
    have HD := Lib.hid hd
    by_cases hz : m.fuse = 0
    · have HBAD : Hid (m.sync = (M, 9)) := by
        show _ = _
        rw [← HMM.out]
        unfold DM.sync
        rw [hd, if_neg (by simp), if_pos hz]

      have e9 : decide (m.fuse ≠ 0) = false := by simpa using hz
      rw [e9] at hs
      have HS := Lib.hid hs
      clear h hs hX1 hM hv hd hbm hlm hl24 hcl e9 hz
      go_enter Try.func32, Try.ntmps32
      go_wp2_with (refine wpList_load_row rfl _ _ rfl w.heap.size rfl _ _ (0, 0) _ HX1.out.bx Try.underlying52 rfl info13 ?_)
      refine HS.out.mono ?_
      rintro e w2 ⟨rfl, hb2⟩
      have hX2 := HX1.out.below hb2
      have hX3 := hX2.row #[.slice a0 m.base.length c0, .slice a1 ws.length c1, .int .i64 M.room, .slice a2 m.log.length c2, .int .i64 M.certain, .slice a3 m.mark.length c3, .int .i64 M.fuse, .int .i64 M.ops, .bool M.dead, .int .i64 lp, .slice a4 n4 c4, .slice a5 m.tail.length c5, .bool M.torn.isSome]
      obtain ⟨w3, hw3⟩ : ∃ w3, World.setRow w2 w.heap.size #[.slice a0 m.base.length c0, .slice a1 ws.length c1, .int .i64 M.room, .slice a2 m.log.length c2, .int .i64 M.certain, .slice a3 m.mark.length c3, .int .i64 M.fuse, .int .i64 M.ops, .bool M.dead, .int .i64 lp, .slice a4 n4 c4, .slice a5 m.tail.length c5, .bool M.torn.isSome] = w3 := ⟨_, rfl⟩
      rw [hw3] at hX3
      have HX2 := Lib.hid hX2
      have HX3 := Lib.hid hX3

      clear hb2 hX2 hX3 HS HX1 x0 x2 x3 x4 x8

      obtain ⟨wy, hwy⟩ : ∃ wy, World.setRow w3 (w.heap.size + 1) #[.slice a0 m.base.length c0, .slice a1 ws.length c1, .int .i64 M.room, .slice a2 m.log.length c2, .int .i64 M.certain, .slice a3 m.mark.length c3, .int .i64 M.fuse, .int .i64 M.ops, .bool M.dead, .int .i64 lp, .slice a4 n4 c4, .slice a5 m.tail.length c5, .bool M.torn.isSome] = wy := ⟨_, rfl⟩
      have hf := HX3.out.fin #[.slice a0 m.base.length c0, .slice a1 ws.length c1, .int .i64 M.room, .slice a2 m.log.length c2, .int .i64 M.certain, .slice a3 m.mark.length c3, .int .i64 M.fuse, .int .i64 M.ops, .bool M.dead, .int .i64 lp, .slice a4 n4 c4, .slice a5 m.tail.length c5, .bool M.torn.isSome]
      rw [hwy] at hf
      have HFIN : Hid (DoOut F w (m.sync) (.returned (.tuple #[.agg #[.slice a0 m.base.length c0, .slice a1 ws.length c1, .int .i64 M.room, .slice a2 m.log.length c2, .int .i64 M.certain, .slice a3 m.mark.length c3, .int .i64 M.fuse, .int .i64 M.ops, .bool M.dead, .int .i64 lp, .slice a4 n4 c4, .slice a5 m.tail.length c5, .bool M.torn.isSome], .int .i64 9])) wy ∧ BoxAt wy (w.heap.size + 1) #[.slice a0 m.base.length c0, .slice a1 ws.length c1, .int .i64 M.room, .slice a2 m.log.length c2, .int .i64 M.certain, .slice a3 m.mark.length c3, .int .i64 M.fuse, .int .i64 M.ops, .bool M.dead, .int .i64 lp, .slice a4 n4 c4, .slice a5 m.tail.length c5, .bool M.torn.isSome]) := by
        refine ⟨?_, hf.2.1⟩
        rw [HBAD.out]
        exact ⟨⟨.slice a0 m.base.length c0, .slice a1 ws.length c1, .slice a2 m.log.length c2, .slice a3 m.mark.length c3, .slice a4 n4 c4, .slice a5 m.tail.length c5, lp, bs, ws⟩, rfl, H.out.2.below hf.1, hf.1⟩
      clear hf
      go_wp2_with (first
        | (refine wpList_store_row rfl _ _ _ rfl w.heap.size _ rfl rfl _ _ HX2.out.bx info13 rfl (by simp [Value.oneCell']) ?_; rw [hw3])
        | (refine wpList_load_row rfl _ _ rfl w.heap.size rfl _ _ (0, 0) _ HX3.out.bx Try.underlying52 rfl info13 ?_)
        | (refine wpList_store_row rfl _ _ _ rfl (w.heap.size + 1) _ rfl rfl _ _ HX3.out.rs info13 rfl (by simp [Value.oneCell']) ?_; rw [hwy]))
      exact bodyPost_ret (v := .tuple #[.agg #[.slice a0 m.base.length c0, .slice a1 ws.length c1, .int .i64 M.room, .slice a2 m.log.length c2, .int .i64 M.certain, .slice a3 m.mark.length c3, .int .i64 M.fuse, .int .i64 M.ops, .bool M.dead, .int .i64 lp, .slice a4 n4 c4, .slice a5 m.tail.length c5, .bool M.torn.isSome], .int .i64 9]) (by simp [results, Try.results32, asAddr, run_loadVar_row wy (w.heap.size + 1) 52 52 _ (0, 0) _ HFIN.out.2 Try.underlying52 rfl info13]) rfl HFIN.out.1
    · have HOK : Hid (m.sync = ({ M with base := M.settled, waiting := [] }, 0)) := by
        show _ = _
        rw [← HMM.out]
        unfold DM.sync
        rw [hd, if_neg (by simp), if_neg hz]
        have e5 : m.spend.settled = m.settled := by
          unfold DM.settled
          rw [spend_base]
          exact List.map_congr_left (fun i _ => page_spend m i)
        rw [e5]

      have e9 : decide (m.fuse ≠ 0) = true := by simpa using hz
      rw [e9] at hs
      have HS := Lib.hid hs
      clear h hs hX1 hM hv hd hbm hlm hl24 hcl e9 hz
      go_enter Try.func32, Try.ntmps32
      go_wp2_with (refine wpList_load_row rfl _ _ rfl w.heap.size rfl _ _ (0, 0) _ HX1.out.bx Try.underlying52 rfl info13 ?_)
      refine HS.out.mono ?_
      rintro e w2 ⟨rfl, hb2⟩
      have hX2 := HX1.out.below hb2
      have hX3 := hX2.row #[.slice a0 m.base.length c0, .slice a1 ws.length c1, .int .i64 M.room, .slice a2 m.log.length c2, .int .i64 M.certain, .slice a3 m.mark.length c3, .int .i64 M.fuse, .int .i64 M.ops, .bool M.dead, .int .i64 lp, .slice a4 n4 c4, .slice a5 m.tail.length c5, .bool M.torn.isSome]
      obtain ⟨w3, hw3⟩ : ∃ w3, World.setRow w2 w.heap.size #[.slice a0 m.base.length c0, .slice a1 ws.length c1, .int .i64 M.room, .slice a2 m.log.length c2, .int .i64 M.certain, .slice a3 m.mark.length c3, .int .i64 M.fuse, .int .i64 M.ops, .bool M.dead, .int .i64 lp, .slice a4 n4 c4, .slice a5 m.tail.length c5, .bool M.torn.isSome] = w3 := ⟨_, rfl⟩
      rw [hw3] at hX3
      have HX2 := Lib.hid hX2
      have HX3 := Lib.hid hX3

      have hst := r6settle w3 M _ (rep_gf H.out.2 hX3) (fun k hk => by
        have hsz := hX3.sz
        rcases hk with h1 | h1 | h1
        · have := HF.out k h1; omega
        · omega
        · omega)
      have HST : Hid (Calls Try.prog 43 #[.agg #[.slice a0 m.base.length c0, .slice a1 ws.length c1, .int .i64 M.room, .slice a2 m.log.length c2, .int .i64 M.certain, .slice a3 m.mark.length c3, .int .i64 M.fuse, .int .i64 M.ops, .bool M.dead, .int .i64 lp, .slice a4 n4 c4, .slice a5 m.tail.length c5, .bool M.torn.isSome]] w3 (SetOut (Gf F w) w3 M)) := by
        show Calls _ _ _ _ _
        unfold rcells at hst
        simp only at hst
        exact hst
      clear hst
      go_wp2_with (first | (refine wpList_store_row rfl _ _ _ rfl w.heap.size _ rfl rfl _ _ HX2.out.bx info13 rfl (by simp [Value.oneCell']) ?_; rw [hw3]) | (refine wpList_load_row rfl _ _ rfl w.heap.size rfl _ _ (0, 0) _ HX3.out.bx Try.underlying52 rfl info13 ?_))
      refine HST.out.mono ?_
      rintro e w4 ⟨r', rfl, hr4, hb4⟩
      have hone := hr4.one
      obtain ⟨CS, hCS⟩ : ∃ CS, rcells { M with base := M.settled, waiting := [] } r' = CS := ⟨_, rfl⟩
      have hsize : CS.size = 13 := by rw [← hCS]; rfl
      rw [hCS] at hone ⊢
      have hX5 := (HX3.out.below hb4).row CS
      have HX4 := Lib.hid (HX3.out.below hb4)
      have hinf : (Try.prog.info? 52).map (·.size) = some CS.size := by rw [hsize]; exact info13
      obtain ⟨w5, hw5⟩ : ∃ w5, World.setRow w4 w.heap.size CS = w5 := ⟨_, rfl⟩
      rw [hw5] at hX5
      have HX5 := Lib.hid hX5
      have HR4 := Lib.hid hr4
      have HCS := Lib.hid (And.intro hCS (And.intro hone (And.intro hsize hinf)))
      clear hb2 hX2 hX3 hX5 HS HX1 x0 x2 x3 x4 x8 HST hr4 hb4 hone hCS hsize hinf

      obtain ⟨wy, hwy⟩ : ∃ wy, World.setRow w5 (w.heap.size + 1) CS = wy := ⟨_, rfl⟩
      have hf := HX5.out.fin CS
      rw [hwy] at hf
      have HFIN : Hid (DoOut F w m.sync (.returned (.tuple #[.agg CS, .int .i64 0])) wy ∧ BoxAt wy (w.heap.size + 1) CS) := by
        refine ⟨?_, hf.2.1⟩
        rw [HOK.out]
        refine ⟨r', by rw [HCS.out.1], (HR4.out.keep (fun k hk hG => ?_) (fun k _ hk => .inl hk)), hf.1⟩
        have g1 : k ≠ w.heap.size := fun e => hG (.inr (.inl e))
        have g2 : k ≠ w.heap.size + 1 := fun e => hG (.inr (.inr e))
        rw [← hwy, setRow_other _ _ _ _ g2, ← hw5, setRow_other _ _ _ _ g1]
      clear hf
      go_wp2_with (first
        | (refine wpList_store_row rfl _ _ _ rfl w.heap.size CS rfl rfl _ _ HX4.out.bx HCS.out.2.2.2 (by rw [HCS.out.2.2.1]; rfl) HCS.out.2.1 ?_; rw [hw5])
        | (refine wpList_load_row rfl _ _ rfl w.heap.size rfl _ _ (0, 0) _ HX5.out.bx Try.underlying52 rfl HCS.out.2.2.2 ?_)
        | (refine wpList_store_row rfl _ _ _ rfl (w.heap.size + 1) _ rfl rfl _ _ HX5.out.rs HCS.out.2.2.2 (by rw [HCS.out.2.2.1]; rfl) HCS.out.2.1 ?_; rw [hwy]))
      exact bodyPost_ret (v := .tuple #[.agg CS, .int .i64 0]) (by simp [results, Try.results32, asAddr, run_loadVar_row wy (w.heap.size + 1) 52 52 _ (0, 0) _ HFIN.out.2 Try.underlying52 rfl HCS.out.2.2.2]) rfl HFIN.out.1
end Mun
