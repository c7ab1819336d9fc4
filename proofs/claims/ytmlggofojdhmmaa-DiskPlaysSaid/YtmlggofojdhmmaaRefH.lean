/- Contract of munimentref6.Crash. -/
import Derived.Test.YtmlggofojdhmmaaRefH0
import Derived.Test.YtmlggofojdhmmaaRegU
import Derived.Deep.DeepCutAuto
set_option maxRecDepth 1000000
set_option linter.unusedVariables false
set_option linter.unusedSimpArgs false
namespace Mun
open Go Go.RowKit
open Go.Proofs

set_option maxHeartbeats 2000000 in
theorem r6crash {F : Foot} (w : World) (m : DM) (r : RV) (h : RRep F w m r) (hF : ∀ k, F k → k < w.heap.size) (ho : m.ops < 4398046511104) (v : Value) (c : Bytes) (hv : RdB F w v c) : Calls Try.prog 35 #[.agg (rcells m r), v] w (CraOut F w m c) := by
  obtain ⟨a0, c0, a1, c1, a2, c2, a3, c3, a4, n4, c4, a5, c5, e0, e1, e2, e3, e4, e5⟩ := h.forms
  obtain ⟨va, vn, vc, rfl, HVN, -, -⟩ := hv.formN
  obtain ⟨w1, hw1⟩ : ∃ w1, (w.alloc (.cells (rcells m r) 52)).alloc (.cells Z13 52) = w1 := ⟨_, rfl⟩
  have hb1 : Below w.heap.size w w1 := by rw [← hw1]; exact below_more (below_more (Below.refl _ _) _) _
  have hx1 : BoxAt w1 w.heap.size (rcells m r) := by rw [← hw1]; exact (heap_alloc_old _ _ (by rw [World.size_alloc]; omega)).trans (BoxAt.new w _)
  have hx2 : BoxAt w1 (w.heap.size + 1) Z13 := by rw [← hw1]; have := BoxAt.new (w.alloc (.cells (rcells m r) 52)) Z13; rw [World.size_alloc] at this; exact this
  have hs1 : w1.heap.size = w.heap.size + 2 := by rw [← hw1, World.size_alloc, World.size_alloc]
  have hwf := h.wf
  have hnp := hwf.npages
  have hr24 : m.room ≤ 16777216 := hwf.room24
  have hwl : m.waiting.length ≤ m.ops := hwf.nwait
  have hww : r.ws.length = m.waiting.length := by rw [h.wws, List.length_map]
  have HWF := Lib.hid hwf
  have HV := Lib.hid hv
  have hln : m.log.length + m.tail.length ≤ m.room := hwf.room
  have hct : m.certain ≤ m.log.length := hwf.certain
  obtain ⟨bv, wv, lv, mv, lb, tv, lp, bs, ws⟩ := r
  simp only at e0 e1 e2 e3 e4 e5 hww
  subst e0 e1 e2 e3 e4 e5
  obtain ⟨nb, hnb⟩ : ∃ nb, m.base.length = nb := ⟨_, rfl⟩
  obtain ⟨nw, hnw⟩ : ∃ nw, ws.length = nw := ⟨_, rfl⟩
  rw [hnb, hnw] at h
  unfold rcells at hw1 hx1 ⊢
  unfold Z13 at hw1
  simp only [hnb, hnw] at hw1 hx1 ⊢
  have H := Lib.hid (And.intro h hF)
  have H1 := Lib.hid (And.intro hb1 (And.intro hx1 (And.intro hx2 hs1)))
  have HNB := Lib.hid hnb
  have HNW : Hid (ws.length = nw ∧ nw = m.waiting.length) := ⟨hnw, by omega⟩
  have hnbi : (nb : Int) ≤ 65536 := by omega
  have HNWI : Hid ((nw : Int) < 4398046511104) := by show _ < _; omega
  have HLN : Hid (m.log.length + m.tail.length ≤ 16777216 ∧ m.certain ≤ m.log.length) := ⟨by omega, hct⟩
  have hx0 : w1.cell? ⟨w.heap.size, 0, none⟩ = some (.slice a0 nb c0) := hx1.cell 0 rfl
  have hxr : w1.cell? ⟨w.heap.size, 2, none⟩ = some (.int .i64 m.room) := hx1.cell 2 rfl
  have hnew := r6new w1 nb m.room (by omega) hr24
  have HNEW := Lib.hid hnew
  clear h hb1 hx1 hx2 hs1 hwf hnp hwl hww hln hct hnb hnw hF ho hv hr24 hnew
  go_enter Try.func35, Try.ntmps35
  go_wp2_with fail
  refine HNEW.out.mono ?_
  rintro e w2 ⟨a, cc, us, rfl, hN⟩
  unfold newC
  have hN2 : NewL (w.heap.size + 2) w1 w2 (.slice a nb cc) us (List.replicate nb page0) := by rw [← H1.out.2.2.2]; exact hN
  obtain ⟨w3, hw3⟩ : ∃ w3, World.setRow (w2.alloc (.cells Z13 52)) w2.heap.size #[.slice a nb cc, .slice none 0 0, .int .i64 m.room, .slice none 0 0, .int .i64 0, .slice none 0 0, .int .i64 (-1), .int .i64 0, .bool false, .int .i64 0, .slice none 0 0, .slice none 0 0, .bool false] = w3 := ⟨_, rfl⟩
  have HX0 := Lib.hid (BoxAt.new w2 Z13)
  have hw3' : w3 = w2.alloc (.cells (newC m.room (.slice a nb cc)) 52) := by rw [← hw3]; exact setRow_alloc _ _ _ _
  have hle : w.heap.size + 2 ≤ w2.heap.size := by have h1 := hN2.bl.size; have h2 := H1.out.2.2.2; omega
  have hC : CrX w w1 w3 m.room w2.heap.size 0 (.slice a nb cc) us (fillB m.base 0) := by
    rw [hw3', fillB_zero, HNB.out]
    refine ⟨⟨hN2.below (by omega) ((Below.refl _ _).alloc (Nat.le_refl _) _), fun i j u x _ _ _ hq => by omega⟩, BoxAt.new w2 _, by omega⟩
  have HC := Lib.hid hC
  unfold Z13 at hw3 HX0
  clear hN hN2 hw3' hC hle hx0 hxr HNEW
  go_wp2_with (refine wpList_store_row rfl _ _ _ rfl w2.heap.size _ rfl rfl _ _ HX0.out info13 rfl (by simp [Value.oneCell']) ?_; rw [hw3])

  go_loopw [6] (fun i wr => ∃ (q : Nat) (us : List Value), q ≤ nb ∧ i = .int .i64 (q : Int) ∧ CrX w w1 wr m.room w2.heap.size q (.slice a nb cc) us (fillB m.base q)) (fun i _ => nb - (intOf i).toNat)
  case atStart => exact ⟨0, _, by omega, rfl, HC.out⟩
  case round =>
    obtain ⟨q, us, hq, rfl, hC⟩ := hrel
    have hul : us.length = nb := by rw [hC.cr.new.len, fillB_length _ _ (by rw [HNB.out]; exact hq), HNB.out]
    have hrr := hC.rep H1.out.1 H.out.1
    have hx0 : wr.cell? ⟨w.heap.size, 0, none⟩ = some (.slice a0 nb c0) := (hC.box H1.out.2.1 (by omega)).cell 0 rfl
    rcases Nat.lt_or_eq_of_le hq with hlt | heq
    · obtain ⟨g0, off0, cb, an, nn, cn, e, hcell, hrd, -⟩ := hrr.base.cellAt q (by rw [HNB.out]; exact hlt)
      rw [HNB.out] at e
      injection e with e1 _ e3
      subst e1 e3
      obtain ⟨g, rfl⟩ := ownV_addr hC.cr.new.row (by omega)
      have hp512 := HWF.out.pages _ (List.getElem_mem (by rw [HNB.out]; exact hlt : q < m.base.length))
      have hsuc := fillB_succ m.base q (by rw [HNB.out]; exact hlt)
      obtain ⟨bq, hbq⟩ : ∃ bq, m.base[q]'(by rw [HNB.out]; exact hlt) = bq := ⟨_, rfl⟩
      rw [hbq] at hrd hp512 hsuc
      have hcp := r6copied wr.drew _ _ (RdB.drewN hrd 1) (by rw [hp512]; decide)
      have HCP := Lib.hid hcp
      have HC1 : Hid (CrX w w1 wr m.room w2.heap.size q (.slice (some ⟨g, 0, none⟩) nb cc) us (fillB m.base q) ∧ q < us.length) := ⟨hC, by omega⟩
      have HSUC := Lib.hid hsuc
      have hS : wr.cell? ⟨w2.heap.size, 0, none⟩ = some (.slice (some ⟨g, 0, none⟩) nb cc) ∧ wr.cell? ⟨w.heap.size, 0, none⟩ = some (.slice (some ⟨g0, off0, none⟩) nb c0) ∧ wr.cell? ⟨g0, off0 + q, none⟩ = some (.slice an nn cn) := ⟨hC.ob.cell 0 rfl, hx0, hcell⟩
      have hS0 : wr.drew.cell? ⟨w2.heap.size, 0, none⟩ = some (.slice (some ⟨g, 0, none⟩) nb cc) ∧ wr.drew.cell? ⟨w.heap.size, 0, none⟩ = some (.slice (some ⟨g0, off0, none⟩) nb c0) ∧ wr.drew.cell? ⟨g0, off0 + q, none⟩ = some (.slice an nn cn) := hS
      have hqi : (q : Int) < (nb : Int) := by omega
      have hq0 : (0 : Int) ≤ (q : Int) := by omega
      have HLT := Lib.hid hlt
      clear hC hul hrr hrd hcp hp512 hsuc hbq hlt hq
      go_upto_region 5 with (fail)
      refine wp_region_U (fun W => W.cell? ⟨w2.heap.size, 0, none⟩ = some (.slice (some ⟨g, 0, none⟩) nb cc) ∧ W.cell? ⟨w.heap.size, 0, none⟩ = some (.slice (some ⟨g0, off0, none⟩) nb c0) ∧ W.cell? ⟨g0, off0 + q, none⟩ = some (.slice an nn cn)) [10] (by kernel_rfl) ?_
      refine wpAnyU_take (i := 0) [1, 9, 10] rfl (by kernel_rfl) (by kernel_rfl) (by kernel_rfl) (by kernel_rfl) (by kernel_rfl) (by kernel_rfl) (fun _ _ _ h => h) (Or.inl ⟨by rfl, (by intro W hSW; (try dsimp only at hSW); (try go_split_ands); go_simp <;> with_reducible rfl)⟩) hS0 ?_
      try simp only [Act.put, List.setIfInBounds_toArray, List.set_cons_zero, List.set_cons_succ]
      refine wpAnyU_take (i := 1) [9, 10] rfl (by kernel_rfl) (by kernel_rfl) (by kernel_rfl) (by kernel_rfl) (by kernel_rfl) (by kernel_rfl) (fun _ _ _ h => h) (Or.inl ⟨by rfl, (by intro W hSW; (try dsimp only at hSW); (try go_split_ands); go_simp <;> with_reducible rfl)⟩) hS0 ?_
      try simp only [Act.put, List.setIfInBounds_toArray, List.set_cons_zero, List.set_cons_succ]
      refine wpAnyU_take (i := 2) [9, 10] rfl (by kernel_rfl) (by kernel_rfl) (by kernel_rfl) (by kernel_rfl) (by kernel_rfl) (by kernel_rfl) (fun _ _ _ h => h) (Or.inl ⟨by rfl, (by intro W hSW; (try dsimp only at hSW); (try go_split_ands); go_simp <;> with_reducible rfl)⟩) hS0 ?_
      try simp only [Act.put, List.setIfInBounds_toArray, List.set_cons_zero, List.set_cons_succ]
      refine wpAnyU_take (i := 3) [4, 6, 7, 8, 9, 10] rfl (by kernel_rfl) (by kernel_rfl) (by kernel_rfl) (by kernel_rfl) (by kernel_rfl) (by kernel_rfl) (fun _ _ _ h => h) (Or.inl ⟨by rfl, (by intro W hSW; (try dsimp only at hSW); (try go_split_ands); go_simp <;> with_reducible rfl)⟩) hS0 ?_
      try simp only [Act.put, List.setIfInBounds_toArray, List.set_cons_zero, List.set_cons_succ]
      refine wpAnyU_take (i := 4) [6, 7, 8, 9, 10] rfl (by kernel_rfl) (by kernel_rfl) (by kernel_rfl) (by kernel_rfl) (by kernel_rfl) (by kernel_rfl) (fun _ _ _ h => h) (Or.inl ⟨by rfl, (by intro W hSW; (try dsimp only at hSW); (try go_split_ands); go_simp <;> with_reducible rfl)⟩) hS0 ?_
      try simp only [Act.put, List.setIfInBounds_toArray, List.set_cons_zero, List.set_cons_succ]
      refine wpAnyU_take (i := 5) [6, 7, 8, 9, 10] rfl (by kernel_rfl) (by kernel_rfl) (by kernel_rfl) (by kernel_rfl) (by kernel_rfl) (by kernel_rfl) (fun _ _ _ h => h) (Or.inl ⟨by rfl, (by intro W hSW; (try dsimp only at hSW); (try go_split_ands); go_simp <;> with_reducible rfl)⟩) hS0 ?_
      try simp only [Act.put, List.setIfInBounds_toArray, List.set_cons_zero, List.set_cons_succ]
      refine wpAnyU_take (i := 6) [7, 8, 9, 10] rfl (by kernel_rfl) (by kernel_rfl) (by kernel_rfl) (by kernel_rfl) (by kernel_rfl) (by kernel_rfl) (fun _ _ _ h => h) (Or.inl ⟨by rfl, (by intro W hSW; (try dsimp only at hSW); (try go_split_ands); go_simp <;> with_reducible rfl)⟩) hS0 ?_
      try simp only [Act.put, List.setIfInBounds_toArray, List.set_cons_zero, List.set_cons_succ]
      refine wpAnyU_take (i := 7) [8, 9, 10] rfl (by kernel_rfl) (by kernel_rfl) (by kernel_rfl) (by kernel_rfl) (by kernel_rfl) (by kernel_rfl) (fun _ _ _ h => h) (Or.inl ⟨by rfl, (by intro W hSW; (try dsimp only at hSW); (try go_split_ands); go_simp <;> with_reducible rfl)⟩) hS0 ?_
      try simp only [Act.put, List.setIfInBounds_toArray, List.set_cons_zero, List.set_cons_succ]
      refine wpAnyU_one (i := 8) (by kernel_rfl) rfl (fun K hK => ?_)
      go_simp
      go_at_call 42
      refine HCP.out.mono ?_
      rintro e w5 ⟨x9, n9, k9, rfl, hn9, ho9, hb9⟩
      have hbw : Below wr.heap.size wr w5 := (below_drewN (Below.refl _ _) 1).trans hb9
      have f5 : w5.frozen? ⟨g, q, none⟩ = false := (ownV_cell (HC1.out.1.grow hbw).cr.new.row q HC1.out.2).2
      have k5 := (ownV_cell (HC1.out.1.grow hbw).cr.new.row q HC1.out.2).1
      have hC6 := HC1.out.1.put hbw q HC1.out.2 (q2 := q + 1) (fun a ha => by omega) ho9
      rw [HSUC.out] at hC6
      have HC6 := Lib.hid hC6
      have hS5 : w5.cell? ⟨w2.heap.size, 0, none⟩ = some (.slice (some ⟨g, 0, none⟩) nb cc) ∧ w5.cell? ⟨w.heap.size, 0, none⟩ = some (.slice (some ⟨g0, off0, none⟩) nb c0) ∧ w5.cell? ⟨g0, off0 + q, none⟩ = some (.slice an nn cn) :=
        ⟨(below_cell hbw hS.1), (below_cell hbw hS.2.1), (below_cell hbw hS.2.2)⟩
      clear hC6 hn9 ho9 hb9 hbw HCP
      refine hK.out _ _ (fun _ => hS5) (fun _ => ?_)
      clear hK K
      refine wpAnyU_take (i := 9) [10] rfl (by kernel_rfl) (by kernel_rfl) (by kernel_rfl) (by kernel_rfl) (by kernel_rfl) (by kernel_rfl) (fun _ _ _ h => h) (Or.inl ⟨by rfl, (by intro W hSW; (try dsimp only at hSW); (try go_split_ands); go_simp <;> with_reducible rfl)⟩) hS5 ?_
      try simp only [Act.put, List.setIfInBounds_toArray, List.set_cons_zero, List.set_cons_succ]
      refine wpAnyU_one (i := 10) (by kernel_rfl) rfl (fun K hK => ?_)
      go_simp
      refine hK.out _ _ (fun h => absurd h (by decide)) (fun _ => ?_)
      clear hK K
      refine wpAnyU_done (by kernel_rfl) ?_ _

      clear hS hS0 hS5 hx0 hcell k5
      go_wp2
      go_roundw
      case rel => exact ⟨q + 1, _, by have := HLT.out; omega, by go_num, HC6.out⟩
      case measure => have := HLT.out; simp [intOf]; omega
    · replace heq := heq.symm
      subst heq
      have hC0 : CrX w w1 wr m.room w2.heap.size nb (.slice a nb cc) us (crashBase m c 0) := by
        have h9 := hC
        rw [show fillB m.base nb = m.base by rw [← HNB.out]; exact fillB_full _] at h9
        exact h9
      have HC0 := Lib.hid hC0
      clear hC hul hrr hq hC0 HC
      obtain ⟨wcA, rfl⟩ : ∃ wcA : World, wcA = wr := ⟨_, rfl⟩
      go_wp2
      go_loopw [7] (fun i wr => ∃ (j : Nat) (us : List Value), j ≤ nw ∧ i = .int .i64 (j : Int) ∧ CrX w w1 wr m.room w2.heap.size nb (.slice a nb cc) us (crashBase m c j)) (fun i _ => nw - (intOf i).toNat)
      case atStart => exact ⟨0, _, by omega, rfl, HC0.out⟩
      case round =>
        obtain ⟨j, us, hj, rfl, hC⟩ := hrel
        have hul : us.length = nb := by rw [hC.cr.new.len, crashBase_length, HNB.out]
        have hrr := hC.rep H1.out.1 H.out.1
        have hx1 : wr.cell? ⟨w.heap.size, 1, none⟩ = some (.slice a1 nw c1) := (hC.box H1.out.2.1 (by omega)).cell 1 rfl
        rcases Nat.lt_or_eq_of_le hj with hlt | heq
        · have hjl : j < ws.length := by rw [HNW.out.1]; exact hlt
          obtain ⟨g1, off1, cw, an, nn, cn, e, hk0, hk1, hrd, -⟩ := hrr.waitAt j hjl
          simp only [HNW.out.1] at e
          injection e with e1 _ e3
          subst e1 e3
          obtain ⟨x, hx⟩ : ∃ x, ws[j] = x := ⟨_, rfl⟩
          simp only [hx] at hk0 hk1 hrd
          obtain ⟨x1, xb, xv⟩ := x
          simp only at hk0 hk1 hrd
          have hxw : m.waiting[j]? = some (x1, xb) := by rw [H.out.1.wws, List.getElem?_map]; simp only; rw [List.getElem?_eq_getElem hjl, hx]; rfl
          have hxp := HWF.out.waiting (x1, xb) (List.mem_of_getElem? hxw)
          rw [HNB.out] at hxp
          simp only at hxp
          obtain ⟨g, rfl⟩ := ownV_addr hC.cr.new.row (by omega)
          have hat := r6at wr _ c (hC.rd H1.out.1 HV.out) j (by have := HNWI.out; omega)
          have HNX : Hid (crashBase m c (j + 1) = if chAt c j % 2 = 0 then (crashBase m c j).set x1 xb else crashBase m c j) := by
            show _ = _
            rw [crashBase, hxw]
          have hcp := r6copied wr.drew _ _ (RdB.drewN hrd 1) (by rw [hxp.2]; decide)
          have HCP := Lib.hid hcp
          have HC1 : Hid (CrX w w1 wr m.room w2.heap.size nb (.slice (some ⟨g, 0, none⟩) nb cc) us (crashBase m c j) ∧ x1 < us.length) := ⟨hC, by omega⟩
          have hS : wr.cell? ⟨w2.heap.size, 0, none⟩ = some (.slice (some ⟨g, 0, none⟩) nb cc) ∧ wr.cell? ⟨w.heap.size, 1, none⟩ = some (.slice (some ⟨g1, off1, none⟩) nw c1) ∧ wr.cell? ⟨g1, off1 + j * 2, none⟩ = some (.int .i64 x1) ∧ wr.cell? ⟨g1, off1 + j * 2 + 1, none⟩ = some (.slice an nn cn) := ⟨hC.ob.cell 0 rfl, hx1, hk0, hk1⟩
          have hS0 : wr.drew.cell? ⟨w2.heap.size, 0, none⟩ = some (.slice (some ⟨g, 0, none⟩) nb cc) ∧ wr.drew.cell? ⟨w.heap.size, 1, none⟩ = some (.slice (some ⟨g1, off1, none⟩) nw c1) ∧ wr.drew.cell? ⟨g1, off1 + j * 2, none⟩ = some (.int .i64 x1) ∧ wr.drew.cell? ⟨g1, off1 + j * 2 + 1, none⟩ = some (.slice an nn cn) := hS
          have hji : (j : Int) < (nw : Int) := by omega
          have hj0 : (0 : Int) ≤ (j : Int) := by omega
          have hxi : (x1 : Int) < (nb : Int) := by omega
          have hx0 : (0 : Int) ≤ (x1 : Int) := by omega
          have HLT := Lib.hid hlt
          have HWJ : Hid (wrap64 ((j : Int) + 1) = (j : Int) + 1) := by show _ = _; have := HNWI.out; unfold wrap64; omega
          obtain ⟨z, hz⟩ : ∃ z, chAt c j = z := ⟨_, rfl⟩
          have hz256 : (z : Int) < 256 := by rw [← hz]; have := chAt_lt c j; omega
          have hz0 : (0 : Int) ≤ (z : Int) := by omega
          rw [hz] at hat HNX
          have HAT := Lib.hid hat
          clear hC hul hrr hrd hcp hlt hj hjl hx hxw hxp hz hat hk0 hk1
          go_wp2_with fail
          refine HAT.out.mono ?_
          rintro e w6 ⟨rfl, rfl⟩
          clear HAT
          rcases Nat.mod_two_eq_zero_or_one z with hz | hz
          · have t1 : ((z : Int) % 2 == 0) = true := by
              have h9 : (z : Int) % 2 = ((z % 2 : Nat) : Int) := rfl
              rw [h9, hz]; rfl
            rw [hz, if_pos rfl] at HNX
            clear hz
            go_upto_region 10 with (fail)
            refine wp_region_U (fun W => W.cell? ⟨w2.heap.size, 0, none⟩ = some (.slice (some ⟨g, 0, none⟩) nb cc) ∧ W.cell? ⟨w.heap.size, 1, none⟩ = some (.slice (some ⟨g1, off1, none⟩) nw c1) ∧ W.cell? ⟨g1, off1 + j * 2, none⟩ = some (.int .i64 x1) ∧ W.cell? ⟨g1, off1 + j * 2 + 1, none⟩ = some (.slice an nn cn)) [16] (by kernel_rfl) ?_
            refine wpAnyU_take (i := 0) [1, 15, 16] rfl (by kernel_rfl) (by kernel_rfl) (by kernel_rfl) (by kernel_rfl) (by kernel_rfl) (by kernel_rfl) (fun _ _ _ h => h) (Or.inl ⟨by rfl, (by intro W hSW; (try dsimp only at hSW); (try go_split_ands); go_simp <;> with_reducible rfl)⟩) hS0 ?_
            try simp only [Act.put, List.setIfInBounds_toArray, List.set_cons_zero, List.set_cons_succ]
            refine wpAnyU_take (i := 1) [15, 16] rfl (by kernel_rfl) (by kernel_rfl) (by kernel_rfl) (by kernel_rfl) (by kernel_rfl) (by kernel_rfl) (fun _ _ _ h => h) (Or.inl ⟨by rfl, (by intro W hSW; (try dsimp only at hSW); (try go_split_ands); go_simp <;> with_reducible rfl)⟩) hS0 ?_
            try simp only [Act.put, List.setIfInBounds_toArray, List.set_cons_zero, List.set_cons_succ]
            refine wpAnyU_take (i := 2) [3, 5, 6, 7, 15, 16] rfl (by kernel_rfl) (by kernel_rfl) (by kernel_rfl) (by kernel_rfl) (by kernel_rfl) (by kernel_rfl) (fun _ _ _ h => h) (Or.inl ⟨by rfl, (by intro W hSW; (try dsimp only at hSW); (try go_split_ands); go_simp <;> with_reducible rfl)⟩) hS0 ?_
            try simp only [Act.put, List.setIfInBounds_toArray, List.set_cons_zero, List.set_cons_succ]
            refine wpAnyU_take (i := 3) [5, 6, 7, 15, 16] rfl (by kernel_rfl) (by kernel_rfl) (by kernel_rfl) (by kernel_rfl) (by kernel_rfl) (by kernel_rfl) (fun _ _ _ h => h) (Or.inl ⟨by rfl, (by intro W hSW; (try dsimp only at hSW); (try go_split_ands); go_simp <;> with_reducible rfl)⟩) hS0 ?_
            try simp only [Act.put, List.setIfInBounds_toArray, List.set_cons_zero, List.set_cons_succ]
            refine wpAnyU_take (i := 4) [5, 6, 7, 15, 16] rfl (by kernel_rfl) (by kernel_rfl) (by kernel_rfl) (by kernel_rfl) (by kernel_rfl) (by kernel_rfl) (fun _ _ _ h => h) (Or.inl ⟨by rfl, (by intro W hSW; (try dsimp only at hSW); (try go_split_ands); go_simp <;> with_reducible rfl)⟩) hS0 ?_
            try simp only [Act.put, List.setIfInBounds_toArray, List.set_cons_zero, List.set_cons_succ]
            refine wpAnyU_take (i := 5) [6, 7, 15, 16] rfl (by kernel_rfl) (by kernel_rfl) (by kernel_rfl) (by kernel_rfl) (by kernel_rfl) (by kernel_rfl) (fun _ _ _ h => h) (Or.inl ⟨by rfl, (by intro W hSW; (try dsimp only at hSW); (try go_split_ands); go_simp <;> with_reducible rfl)⟩) hS0 ?_
            try simp only [Act.put, List.setIfInBounds_toArray, List.set_cons_zero, List.set_cons_succ]
            refine wpAnyU_take (i := 6) [7, 15, 16] rfl (by kernel_rfl) (by kernel_rfl) (by kernel_rfl) (by kernel_rfl) (by kernel_rfl) (by kernel_rfl) (fun _ _ _ h => h) (Or.inl ⟨by rfl, (by intro W hSW; (try dsimp only at hSW); (try go_split_ands); go_simp <;> with_reducible rfl)⟩) hS0 ?_
            try simp only [Act.put, List.setIfInBounds_toArray, List.set_cons_zero, List.set_cons_succ]
            refine wpAnyU_take (i := 7) [15, 16] rfl (by kernel_rfl) (by kernel_rfl) (by kernel_rfl) (by kernel_rfl) (by kernel_rfl) (by kernel_rfl) (fun _ _ _ h => h) (Or.inl ⟨by rfl, (by intro W hSW; (try dsimp only at hSW); (try go_split_ands); go_simp <;> with_reducible rfl)⟩) hS0 ?_
            try simp only [Act.put, List.setIfInBounds_toArray, List.set_cons_zero, List.set_cons_succ]
            refine wpAnyU_take (i := 8) [9, 11, 12, 13, 14, 15, 16] rfl (by kernel_rfl) (by kernel_rfl) (by kernel_rfl) (by kernel_rfl) (by kernel_rfl) (by kernel_rfl) (fun _ _ _ h => h) (Or.inl ⟨by rfl, (by intro W hSW; (try dsimp only at hSW); (try go_split_ands); go_simp <;> with_reducible rfl)⟩) hS0 ?_
            try simp only [Act.put, List.setIfInBounds_toArray, List.set_cons_zero, List.set_cons_succ]
            refine wpAnyU_take (i := 9) [11, 12, 13, 14, 15, 16] rfl (by kernel_rfl) (by kernel_rfl) (by kernel_rfl) (by kernel_rfl) (by kernel_rfl) (by kernel_rfl) (fun _ _ _ h => h) (Or.inl ⟨by rfl, (by intro W hSW; (try dsimp only at hSW); (try go_split_ands); go_simp <;> with_reducible rfl)⟩) hS0 ?_
            try simp only [Act.put, List.setIfInBounds_toArray, List.set_cons_zero, List.set_cons_succ]
            refine wpAnyU_take (i := 10) [11, 12, 13, 14, 15, 16] rfl (by kernel_rfl) (by kernel_rfl) (by kernel_rfl) (by kernel_rfl) (by kernel_rfl) (by kernel_rfl) (fun _ _ _ h => h) (Or.inl ⟨by rfl, (by intro W hSW; (try dsimp only at hSW); (try go_split_ands); go_simp <;> with_reducible rfl)⟩) hS0 ?_
            try simp only [Act.put, List.setIfInBounds_toArray, List.set_cons_zero, List.set_cons_succ]
            refine wpAnyU_take (i := 11) [12, 13, 14, 15, 16] rfl (by kernel_rfl) (by kernel_rfl) (by kernel_rfl) (by kernel_rfl) (by kernel_rfl) (by kernel_rfl) (fun _ _ _ h => h) (Or.inl ⟨by rfl, (by intro W hSW; (try dsimp only at hSW); (try go_split_ands); go_simp <;> with_reducible rfl)⟩) hS0 ?_
            try simp only [Act.put, List.setIfInBounds_toArray, List.set_cons_zero, List.set_cons_succ]
            refine wpAnyU_take (i := 12) [13, 14, 15, 16] rfl (by kernel_rfl) (by kernel_rfl) (by kernel_rfl) (by kernel_rfl) (by kernel_rfl) (by kernel_rfl) (fun _ _ _ h => h) (Or.inl ⟨by rfl, (by intro W hSW; (try dsimp only at hSW); (try go_split_ands); go_simp <;> with_reducible rfl)⟩) hS0 ?_
            try simp only [Act.put, List.setIfInBounds_toArray, List.set_cons_zero, List.set_cons_succ]
            refine wpAnyU_take (i := 13) [14, 15, 16] rfl (by kernel_rfl) (by kernel_rfl) (by kernel_rfl) (by kernel_rfl) (by kernel_rfl) (by kernel_rfl) (fun _ _ _ h => h) (Or.inl ⟨by rfl, (by intro W hSW; (try dsimp only at hSW); (try go_split_ands); go_simp <;> with_reducible rfl)⟩) hS0 ?_
            try simp only [Act.put, List.setIfInBounds_toArray, List.set_cons_zero, List.set_cons_succ]
            refine wpAnyU_one (i := 14) (by kernel_rfl) rfl (fun K hK => ?_)
            go_simp
            go_at_call 42
            refine HCP.out.mono ?_
            rintro e w5 ⟨x9, n9, k9, rfl, hn9, ho9, hb9⟩
            have hbw : Below wr.heap.size wr w5 := (below_drewN (Below.refl _ _) 1).trans hb9
            have f5 : w5.frozen? ⟨g, x1, none⟩ = false := (ownV_cell (HC1.out.1.grow hbw).cr.new.row x1 HC1.out.2).2
            have k5 := (ownV_cell (HC1.out.1.grow hbw).cr.new.row x1 HC1.out.2).1
            have hC6 := HC1.out.1.put hbw x1 HC1.out.2 (q2 := nb) (fun a ha => by omega) ho9
            have HC6 := Lib.hid hC6
            have hS5 : w5.cell? ⟨w2.heap.size, 0, none⟩ = some (.slice (some ⟨g, 0, none⟩) nb cc) ∧ w5.cell? ⟨w.heap.size, 1, none⟩ = some (.slice (some ⟨g1, off1, none⟩) nw c1) ∧ w5.cell? ⟨g1, off1 + j * 2, none⟩ = some (.int .i64 x1) ∧ w5.cell? ⟨g1, off1 + j * 2 + 1, none⟩ = some (.slice an nn cn) :=
              ⟨(below_cell hbw hS.1), (below_cell hbw hS.2.1), (below_cell hbw hS.2.2.1), (below_cell hbw hS.2.2.2)⟩
            clear hC6 hn9 ho9 hb9 hbw HCP
            refine hK.out _ _ (fun _ => hS5) (fun _ => ?_)
            clear hK K
            refine wpAnyU_take (i := 15) [16] rfl (by kernel_rfl) (by kernel_rfl) (by kernel_rfl) (by kernel_rfl) (by kernel_rfl) (by kernel_rfl) (fun _ _ _ h => h) (Or.inl ⟨by rfl, (by intro W hSW; (try dsimp only at hSW); (try go_split_ands); go_simp <;> with_reducible rfl)⟩) hS5 ?_
            try simp only [Act.put, List.setIfInBounds_toArray, List.set_cons_zero, List.set_cons_succ]
            refine wpAnyU_one (i := 16) (by kernel_rfl) rfl (fun K hK => ?_)
            go_simp
            refine hK.out _ _ (fun h => absurd h (by decide)) (fun _ => ?_)
            clear hK K
            refine wpAnyU_done (by kernel_rfl) ?_ _

            clear hS hS0 hS5 k5
            go_wp2
            go_roundw
            case rel => exact ⟨j + 1, _, by have := HLT.out; omega, by rw [HWJ.out]; rfl, by rw [HNX.out]; exact HC6.out⟩
            case measure => have := HLT.out; rw [HWJ.out]; simp [intOf]; omega
          · have t1 : ((z : Int) % 2 == 0) = false := by
              have h9 : (z : Int) % 2 = ((z % 2 : Nat) : Int) := rfl
              rw [h9, hz]; rfl
            rw [hz, if_neg (by decide)] at HNX
            clear hz hS hS0
            go_wp2
            go_roundw
            case rel => exact ⟨j + 1, _, by have := HLT.out; omega, by rw [HWJ.out]; rfl, by rw [HNX.out]; exact HC1.out.1⟩
            case measure => have := HLT.out; rw [HWJ.out]; simp [intOf]; omega
        · replace heq := heq.symm
          subst heq
          have hcw : crashBase m c nw = crashBase m c m.waiting.length := by rw [HNW.out.2]
          rw [hcw] at hC
          have HC2 := Lib.hid (And.intro hC (And.intro hul hrr))
          have hx12 : wr.cell? ⟨w.heap.size, 12, none⟩ = some (.bool m.torn.isSome) := (hC.box H1.out.2.1 (by omega)).cell 12 rfl
          have hat := r6at wr _ c (hC.rd H1.out.1 HV.out) nw (by have := HNWI.out; omega)
          have HAT := Lib.hid hat
          clear hat
          clear hC hul hrr hj hcw HC0 hx0 hnbi hx12
          obtain ⟨wc2, rfl⟩ : ∃ wc2 : World, wc2 = wr := ⟨_, rfl⟩
          go_upto_region 11 with (fail)
          obtain ⟨tb, htb⟩ : ∃ tb : Bool, m.torn.isSome = tb := ⟨_, rfl⟩
          have hx12 : wc2.cell? ⟨w.heap.size, 12, none⟩ = some (.bool tb) := by rw [← htb]; exact (HC2.out.1.box H1.out.2.1 (by omega)).cell 12 rfl
          have HTB := Lib.hid htb
          clear htb
          go_upto_if 64 with (fail)
          go_cut [] (fun wx => ∃ us, CrX w w1 wx m.room w2.heap.size nb (.slice a nb cc) us (m.crashPages c))
          case first =>
            have hcase : m.torn = none ∨ ∃ pt, m.torn = some pt := by cases m.torn with | none => exact .inl rfl | some p => exact .inr ⟨p, rfl⟩
            rcases hcase with ht | ⟨pt, ht⟩
            · obtain rfl : tb = false := by rw [← HTB.out, ht]; rfl
              have hfin : Hid (CrX w w1 wc2 m.room w2.heap.size nb (.slice a nb cc) us (m.crashPages c)) := by
                show CrX _ _ _ _ _ _ _ _ _
                have h9 := HC2.out.1
                rw [show m.crashPages c = crashBase m c m.waiting.length by unfold DM.crashPages; rw [ht]]
                exact h9
              clear ht
              go_wp2
              go_meet
              exact ⟨_, hfin.out⟩
            · obtain rfl : tb = true := by rw [← HTB.out, ht]; rfl
              obtain ⟨x1, xb⟩ := pt
              have hpt := HWF.out.torn _ ht
              have htr := H.out.1.torn _ ht
              simp only at hpt htr
              obtain ⟨hlp, htr⟩ := htr
              have htr1 := htr
              obtain ⟨gl, ol, cl, e, -, -, -, -, -⟩ := htr1.at_ (by rw [hpt.2]; decide)
              injection e with e1 e2 e3
              rw [hpt.2] at e2
              subst e1 e2 e3
              obtain ⟨g, rfl⟩ := ownV_addr HC2.out.1.cr.new.row (by rw [HC2.out.2.1, ← HNB.out]; omega)
              obtain ⟨z, hz⟩ : ∃ z, chAt c nw = z := ⟨_, rfl⟩
              have hz256 : (z : Int) < 256 := by rw [← hz]; have := chAt_lt c nw; omega
              have hz0 : (0 : Int) ≤ (z : Int) := by omega
              rw [hz] at HAT
              have hz2 : chAt c m.waiting.length = z := by rw [← HNW.out.2]; exact hz
              obtain ⟨kk, hkk⟩ : ∃ kk, z / 2 % 5 = kk := ⟨_, rfl⟩
              have hk5 : (kk : Int) ≤ 4 := by omega
              have hk0 : (0 : Int) ≤ (kk : Int) := by omega
              have hki : (z : Int) / 2 % 5 = (kk : Int) := by rw [← hkk]; rfl
              obtain ⟨old, hold⟩ : ∃ old, (crashBase m c m.waiting.length).getD x1 page0 = old := ⟨_, rfl⟩
              have hold5 : old.length = 512 := by rw [← hold]; exact crashBase_get HWF.out c _ x1 hpt.1
              have HP : Hid (m.crashPages c = (crashBase m c m.waiting.length).set x1 (mixB xb old (128 * kk)) ∧ x1 < nb ∧ xb.length = 512 ∧ old.length = 512) := by
                refine ⟨?_, by rw [← HNB.out]; exact hpt.1, hpt.2, hold5⟩
                unfold DM.crashPages DM.tornBytes mixB
                rw [ht]
                simp only [hold, hz2, hkk, Nat.mul_comm kk 128]
              have HS0 : Hid (CrX w w1 wc2 m.room w2.heap.size nb (.slice (some ⟨g, 0, none⟩) nb cc) us ((crashBase m c m.waiting.length).set x1 (mixB xb old 0))) := by
                show CrX _ _ _ _ _ _ _ _ _
                have h9 := HC2.out.1
                have h8 : (crashBase m c m.waiting.length).set x1 (mixB xb old 0) = crashBase m c m.waiting.length := by
                  have hxl : x1 < (crashBase m c m.waiting.length).length := by rw [crashBase_length]; exact hpt.1
                  have h7 : mixB xb old 0 = (crashBase m c m.waiting.length)[x1] := by rw [← hold, List.getD_eq_getElem?_getD, List.getElem?_eq_getElem hxl]; rfl
                  rw [h7]
                  exact List.set_getElem_self hxl
                rw [h8]
                exact h9
              have HTR := Lib.hid (And.intro htr hlp)
              clear ht hpt htr htr1 hz hz2 hkk hold hold5 hlp
              go_wp2_with fail
              refine HAT.out.mono ?_
              rintro e w6 ⟨rfl, rfl⟩
              clear HAT HTB hx12
              go_wp2
              go_loopw [9] (fun i wr => ∃ (t : Nat) (us : List Value), t ≤ 128 * kk ∧ i = .int .i64 (t : Int) ∧ CrX w w1 wr m.room w2.heap.size nb (.slice (some ⟨g, 0, none⟩) nb cc) us ((crashBase m c m.waiting.length).set x1 (mixB xb old t))) (fun i _ => 128 * kk - (intOf i).toNat)
              case atStart => exact ⟨0, _, by omega, rfl, HS0.out⟩
              case round =>
                obtain ⟨t, us, ht, rfl, hC⟩ := hrel
                rcases Nat.lt_or_eq_of_le ht with hlt | heq
                · have hul : us.length = nb := by rw [hC.cr.new.len, List.length_set, crashBase_length, HNB.out]
                  have hxl : x1 < us.length := by rw [hul]; exact HP.out.2.1
                  have hl : ((crashBase m c m.waiting.length).set x1 (mixB xb old t))[x1]? = some (mixB xb old t) := List.getElem?_set_self (by rw [crashBase_length, HNB.out]; exact HP.out.2.1)
                  have hm5 := mixB_length xb old t HP.out.2.2.1 HP.out.2.2.2 (by omega)
                  obtain ⟨p, cp, hup, hop⟩ := hC.page x1 hxl hl hm5
                  have hrow := (ownV_cell hC.cr.new.row x1 hxl).1
                  rw [hup] at hrow
                  have hrdw := hC.rd H1.out.1 HTR.out.1
                  obtain ⟨gl', ol', cl', e, -, -, -, -, hcs⟩ := hrdw.at_ (by rw [HP.out.2.2.1]; decide)
                  injection e with e1 e2 e3
                  injection e1 with e1
                  injection e1 with e1 e1b _
                  subst e1 e1b
                  clear e2 e3
                  have hbt := hcs t (by rw [HP.out.2.2.1]; omega)
                  have hC6 := (hC.byte x1 HP.out.2.1 (by rw [List.getElem?_eq_getElem hxl, hup]) hl t (by rw [hm5]; omega) (xb[t]'(by rw [HP.out.2.2.1]; omega)) _ rfl).drew
                  rw [List.set_set, mixB_succ xb old t HP.out.2.2.1 HP.out.2.2.2 (by omega)] at hC6
                  obtain ⟨bt, hbtn⟩ : ∃ bt : Nat, (xb[t]'(by rw [HP.out.2.2.1]; omega)).toNat = bt := ⟨_, rfl⟩
                  rw [hbtn] at hC6 hbt
                  have hb256 : (bt : Int) < 256 := by rw [← hbtn]; have := (xb[t]'(by rw [HP.out.2.2.1]; omega)).toNat_lt; omega
                  have hb0 : (0 : Int) ≤ (bt : Int) := by omega
                  have fz : wr.frozen? ⟨p, t, none⟩ = false := ownB_frozen hop t
                  have fc := hop.cellAt t (by rw [hm5]; omega)
                  obtain ⟨bo, hbo⟩ : ∃ bo : Int, ((mixB xb old t)[t]'(by rw [hm5]; omega)).toNat = bo := ⟨_, rfl⟩
                  rw [hbo] at fc
                  have hx9 : wr.cell? ⟨w.heap.size, 9, none⟩ = some (.int .i64 x1) := by rw [← HTR.out.2]; exact (hC.box H1.out.2.1 (by omega)).cell 9 rfl
                  have hx10 : wr.cell? ⟨w.heap.size, 10, none⟩ = some (.slice (some ⟨gl, ol, none⟩) 512 c4) := (hC.box H1.out.2.1 (by omega)).cell 10 rfl
                  have hS0 : wr.drew.cell? ⟨w2.heap.size, 0, none⟩ = some (.slice (some ⟨g, 0, none⟩) nb cc) ∧ wr.drew.cell? ⟨w.heap.size, 9, none⟩ = some (.int .i64 x1) ∧ wr.drew.cell? ⟨g, x1, none⟩ = some (.slice (some ⟨p, 0, none⟩) 512 cp) ∧ wr.drew.cell? ⟨w.heap.size, 10, none⟩ = some (.slice (some ⟨gl, ol, none⟩) 512 c4) ∧ wr.drew.cell? ⟨gl, ol + t, none⟩ = some (.int .u8 bt) := ⟨hC.ob.cell 0 rfl, hx9, hrow, hx10, hbt⟩
                  have HC6 := Lib.hid hC6
                  have HLT := Lib.hid hlt
                  have hxi : (x1 : Int) < (nb : Int) := by have := HP.out.2.1; omega
                  have hxi0 : (0 : Int) ≤ (x1 : Int) := by omega
                  have hti : (t : Int) < 128 * (kk : Int) := by omega
                  have hti2 : (t : Int) < 512 := by omega
                  have hti0 : (0 : Int) ≤ (t : Int) := by omega
                  clear hC hul hxl hl hm5 hup hop hrdw hcs hC6 hbtn hbo ht hlt hx9 hx10 hbt
                  go_upto_region 16 with (fail)
                  refine wp_region_U (fun W => W.cell? ⟨w2.heap.size, 0, none⟩ = some (.slice (some ⟨g, 0, none⟩) nb cc) ∧ W.cell? ⟨w.heap.size, 9, none⟩ = some (.int .i64 x1) ∧ W.cell? ⟨g, x1, none⟩ = some (.slice (some ⟨p, 0, none⟩) 512 cp) ∧ W.cell? ⟨w.heap.size, 10, none⟩ = some (.slice (some ⟨gl, ol, none⟩) 512 c4) ∧ W.cell? ⟨gl, ol + t, none⟩ = some (.int .u8 bt)) [15] (by kernel_rfl) ?_
                  refine wpAnyU_take (i := 0) [1, 5, 6, 14, 15] rfl (by kernel_rfl) (by kernel_rfl) (by kernel_rfl) (by kernel_rfl) (by kernel_rfl) (by kernel_rfl) (fun _ _ _ h => h) (Or.inl ⟨by rfl, (by intro W hSW; (try dsimp only at hSW); (try go_split_ands); go_simp <;> with_reducible rfl)⟩) hS0 ?_
                  try simp only [Act.put, List.setIfInBounds_toArray, List.set_cons_zero, List.set_cons_succ]
                  refine wpAnyU_take (i := 1) [5, 6, 14, 15] rfl (by kernel_rfl) (by kernel_rfl) (by kernel_rfl) (by kernel_rfl) (by kernel_rfl) (by kernel_rfl) (fun _ _ _ h => h) (Or.inl ⟨by rfl, (by intro W hSW; (try dsimp only at hSW); (try go_split_ands); go_simp <;> with_reducible rfl)⟩) hS0 ?_
                  try simp only [Act.put, List.setIfInBounds_toArray, List.set_cons_zero, List.set_cons_succ]
                  refine wpAnyU_take (i := 2) [3, 4, 5, 6, 14, 15] rfl (by kernel_rfl) (by kernel_rfl) (by kernel_rfl) (by kernel_rfl) (by kernel_rfl) (by kernel_rfl) (fun _ _ _ h => h) (Or.inl ⟨by rfl, (by intro W hSW; (try dsimp only at hSW); (try go_split_ands); go_simp <;> with_reducible rfl)⟩) hS0 ?_
                  try simp only [Act.put, List.setIfInBounds_toArray, List.set_cons_zero, List.set_cons_succ]
                  refine wpAnyU_take (i := 3) [4, 5, 6, 14, 15] rfl (by kernel_rfl) (by kernel_rfl) (by kernel_rfl) (by kernel_rfl) (by kernel_rfl) (by kernel_rfl) (fun _ _ _ h => h) (Or.inl ⟨by rfl, (by intro W hSW; (try dsimp only at hSW); (try go_split_ands); go_simp <;> with_reducible rfl)⟩) hS0 ?_
                  try simp only [Act.put, List.setIfInBounds_toArray, List.set_cons_zero, List.set_cons_succ]
                  refine wpAnyU_take (i := 4) [5, 6, 14, 15] rfl (by kernel_rfl) (by kernel_rfl) (by kernel_rfl) (by kernel_rfl) (by kernel_rfl) (by kernel_rfl) (fun _ _ _ h => h) (Or.inl ⟨by rfl, (by intro W hSW; (try dsimp only at hSW); (try go_split_ands); go_simp <;> with_reducible rfl)⟩) hS0 ?_
                  try simp only [Act.put, List.setIfInBounds_toArray, List.set_cons_zero, List.set_cons_succ]
                  refine wpAnyU_take (i := 5) [6, 14, 15] rfl (by kernel_rfl) (by kernel_rfl) (by kernel_rfl) (by kernel_rfl) (by kernel_rfl) (by kernel_rfl) (fun _ _ _ h => h) (Or.inl ⟨by rfl, (by intro W hSW; (try dsimp only at hSW); (try go_split_ands); go_simp <;> with_reducible rfl)⟩) hS0 ?_
                  try simp only [Act.put, List.setIfInBounds_toArray, List.set_cons_zero, List.set_cons_succ]
                  refine wpAnyU_take (i := 6) [14, 15] rfl (by kernel_rfl) (by kernel_rfl) (by kernel_rfl) (by kernel_rfl) (by kernel_rfl) (by kernel_rfl) (fun _ _ _ h => h) (Or.inl ⟨by rfl, (by intro W hSW; (try dsimp only at hSW); (try go_split_ands); go_simp <;> with_reducible rfl)⟩) hS0 ?_
                  try simp only [Act.put, List.setIfInBounds_toArray, List.set_cons_zero, List.set_cons_succ]
                  refine wpAnyU_take (i := 7) [14, 15] rfl (by kernel_rfl) (by kernel_rfl) (by kernel_rfl) (by kernel_rfl) (by kernel_rfl) (by kernel_rfl) (fun _ _ _ h => h) (Or.inl ⟨by rfl, (by intro W hSW; (try dsimp only at hSW); (try go_split_ands); go_simp <;> with_reducible rfl)⟩) hS0 ?_
                  try simp only [Act.put, List.setIfInBounds_toArray, List.set_cons_zero, List.set_cons_succ]
                  refine wpAnyU_take (i := 8) [9, 10, 12, 13, 14, 15] rfl (by kernel_rfl) (by kernel_rfl) (by kernel_rfl) (by kernel_rfl) (by kernel_rfl) (by kernel_rfl) (fun _ _ _ h => h) (Or.inl ⟨by rfl, (by intro W hSW; (try dsimp only at hSW); (try go_split_ands); go_simp <;> with_reducible rfl)⟩) hS0 ?_
                  try simp only [Act.put, List.setIfInBounds_toArray, List.set_cons_zero, List.set_cons_succ]
                  refine wpAnyU_take (i := 9) [10, 12, 13, 14, 15] rfl (by kernel_rfl) (by kernel_rfl) (by kernel_rfl) (by kernel_rfl) (by kernel_rfl) (by kernel_rfl) (fun _ _ _ h => h) (Or.inl ⟨by rfl, (by intro W hSW; (try dsimp only at hSW); (try go_split_ands); go_simp <;> with_reducible rfl)⟩) hS0 ?_
                  try simp only [Act.put, List.setIfInBounds_toArray, List.set_cons_zero, List.set_cons_succ]
                  refine wpAnyU_take (i := 10) [12, 13, 14, 15] rfl (by kernel_rfl) (by kernel_rfl) (by kernel_rfl) (by kernel_rfl) (by kernel_rfl) (by kernel_rfl) (fun _ _ _ h => h) (Or.inl ⟨by rfl, (by intro W hSW; (try dsimp only at hSW); (try go_split_ands); go_simp <;> with_reducible rfl)⟩) hS0 ?_
                  try simp only [Act.put, List.setIfInBounds_toArray, List.set_cons_zero, List.set_cons_succ]
                  refine wpAnyU_take (i := 11) [12, 13, 14, 15] rfl (by kernel_rfl) (by kernel_rfl) (by kernel_rfl) (by kernel_rfl) (by kernel_rfl) (by kernel_rfl) (fun _ _ _ h => h) (Or.inl ⟨by rfl, (by intro W hSW; (try dsimp only at hSW); (try go_split_ands); go_simp <;> with_reducible rfl)⟩) hS0 ?_
                  try simp only [Act.put, List.setIfInBounds_toArray, List.set_cons_zero, List.set_cons_succ]
                  refine wpAnyU_take (i := 12) [13, 14, 15] rfl (by kernel_rfl) (by kernel_rfl) (by kernel_rfl) (by kernel_rfl) (by kernel_rfl) (by kernel_rfl) (fun _ _ _ h => h) (Or.inl ⟨by rfl, (by intro W hSW; (try dsimp only at hSW); (try go_split_ands); go_simp <;> with_reducible rfl)⟩) hS0 ?_
                  try simp only [Act.put, List.setIfInBounds_toArray, List.set_cons_zero, List.set_cons_succ]
                  refine wpAnyU_take (i := 13) [14, 15] rfl (by kernel_rfl) (by kernel_rfl) (by kernel_rfl) (by kernel_rfl) (by kernel_rfl) (by kernel_rfl) (fun _ _ _ h => h) (Or.inl ⟨by rfl, (by intro W hSW; (try dsimp only at hSW); (try go_split_ands); go_simp <;> with_reducible rfl)⟩) hS0 ?_
                  try simp only [Act.put, List.setIfInBounds_toArray, List.set_cons_zero, List.set_cons_succ]
                  refine wpAnyU_take (i := 14) [15] rfl (by kernel_rfl) (by kernel_rfl) (by kernel_rfl) (by kernel_rfl) (by kernel_rfl) (by kernel_rfl) (fun _ _ _ h => h) (Or.inl ⟨by rfl, (by intro W hSW; (try dsimp only at hSW); (try go_split_ands); go_simp <;> with_reducible rfl)⟩) hS0 ?_
                  try simp only [Act.put, List.setIfInBounds_toArray, List.set_cons_zero, List.set_cons_succ]
                  refine wpAnyU_one (i := 15) (by kernel_rfl) rfl (fun K hK => ?_)
                  go_simp
                  refine hK.out _ _ (fun h => absurd h (by decide)) (fun _ => ?_)
                  clear hK K
                  refine wpAnyU_done (by kernel_rfl) ?_ _
                  go_wp2
                  go_roundw
                  case rel =>
                    have h9 : t < 128 * kk := HLT.out
                    have h8 : t + 1 ≤ 128 * kk := by omega
                    first
                      | exact ⟨t + 1, us, h8, by go_num, HC6.out⟩
                      | exact ⟨t + 1, h8, by go_num, us, HC6.out⟩
                  case measure =>
                    have h9 : t < 128 * kk := HLT.out
                    simp [intOf]
                    omega
                · replace heq := heq.symm
                  have hfin : Hid (CrX w w1 wr m.room w2.heap.size nb (.slice (some ⟨g, 0, none⟩) nb cc) us (m.crashPages c)) := by
                    show CrX _ _ _ _ _ _ _ _ _
                    rw [HP.out.1, heq]
                    exact hC
                  have htk : ((t : Int) : Int) = 128 * (kk : Int) := by omega
                  clear hC ht heq HS0
                  go_wp2
                  go_meet
                  exact ⟨_, hfin.out⟩
          case rest =>
            obtain ⟨us, hC⟩ := hcut
            obtain ⟨wx, hwx⟩ : ∃ wx, wc = wx := ⟨_, rfl⟩
            rw [hwx] at hC ⊢
            clear hwx HC2 hx1 hx12 HAT HTB
            have hX0 := FiX.start hC H1.out.1 H1.out.2.1 H1.out.2.2.1
            have hO := hX0.bx.lt
            have hg3 : wx.cell? ⟨w.heap.size, 3, none⟩ = some (.slice a2 m.log.length c2) := hX0.pb.cell 3 rfl
            have hg11 : wx.cell? ⟨w.heap.size, 11, none⟩ = some (.slice a5 m.tail.length c5) := hX0.pb.cell 11 rfl
            have hcp := r6copied wx.drew _ _ (RdB.drewN (hX0.rdOld H.out.1.log) 1) (by have := HLN.out; omega)
            have HCP := Lib.hid hcp
            have HX := Lib.hid (And.intro hX0 hO)
            have hS0 : wx.drew.cell? ⟨w.heap.size, 3, none⟩ = some (.slice a2 m.log.length c2) ∧ wx.drew.cell? ⟨w.heap.size, 11, none⟩ = some (.slice a5 m.tail.length c5) := ⟨hg3, hg11⟩
            clear hC hcp hX0 hO
            go_upto_region 17 with (fail)
            refine wp_region_U (fun W => W.cell? ⟨w.heap.size, 3, none⟩ = some (.slice a2 m.log.length c2) ∧ W.cell? ⟨w.heap.size, 11, none⟩ = some (.slice a5 m.tail.length c5)) [] (by kernel_rfl) ?_
            refine wpAnyU_take (i := 0) [1, 2, 5, 6] rfl (by kernel_rfl) (by kernel_rfl) (by kernel_rfl) (by kernel_rfl) (by kernel_rfl) (by kernel_rfl) (fun _ _ _ h => h) (Or.inl ⟨by rfl, (by intro W hSW; (try dsimp only at hSW); (try go_split_ands); go_simp <;> with_reducible rfl)⟩) hS0 ?_
            try simp only [Act.put, List.setIfInBounds_toArray, List.set_cons_zero, List.set_cons_succ]
            refine wpAnyU_take (i := 1) [2, 5, 6] rfl (by kernel_rfl) (by kernel_rfl) (by kernel_rfl) (by kernel_rfl) (by kernel_rfl) (by kernel_rfl) (fun _ _ _ h => h) (Or.inl ⟨by rfl, (by intro W hSW; (try dsimp only at hSW); (try go_split_ands); go_simp <;> with_reducible rfl)⟩) hS0 ?_
            try simp only [Act.put, List.setIfInBounds_toArray, List.set_cons_zero, List.set_cons_succ]
            refine wpAnyU_take (i := 3) [4, 5, 6] rfl (by kernel_rfl) (by kernel_rfl) (by kernel_rfl) (by kernel_rfl) (by kernel_rfl) (by kernel_rfl) (fun _ _ _ h => h) (Or.inl ⟨by rfl, (by intro W hSW; (try dsimp only at hSW); (try go_split_ands); go_simp <;> with_reducible rfl)⟩) hS0 ?_
            try simp only [Act.put, List.setIfInBounds_toArray, List.set_cons_zero, List.set_cons_succ]
            refine wpAnyU_take (i := 4) [5, 6] rfl (by kernel_rfl) (by kernel_rfl) (by kernel_rfl) (by kernel_rfl) (by kernel_rfl) (by kernel_rfl) (fun _ _ _ h => h) (Or.inl ⟨by rfl, (by intro W hSW; (try dsimp only at hSW); (try go_split_ands); go_simp <;> with_reducible rfl)⟩) hS0 ?_
            try simp only [Act.put, List.setIfInBounds_toArray, List.set_cons_zero, List.set_cons_succ]
            refine wpAnyU_one (i := 2) (by kernel_rfl) rfl (fun K hK => ?_)
            go_simp
            go_at_call 42
            refine HCP.out.mono ?_
            rintro e w5 ⟨x9, n9, k9, rfl, hn9, ho9, hb9⟩
            have hbw : Below wx.heap.size wx w5 := (below_drewN (Below.refl _ _) 1).trans hb9
            obtain ⟨z, w6, hr6, ho6, hg6, -, -⟩ := append_bytes (ty := 28) ho9 (RdB.below (HX.out.1.rdOld H.out.1.tail) hbw) (by have := HLN.out; omega) hb9.size
            obtain ⟨z6, k6, e6, -, -⟩ := (OwnB.rd (F := NoF) ho6 (fun _ _ => noF _)).form
            obtain ⟨n6, hn6⟩ : ∃ n6, (m.log ++ m.tail).length = n6 := ⟨_, rfl⟩
            rw [hn6] at e6
            subst e6
            have hb6 : Below wx.heap.size wx w6 := (below_drewN (Below.refl _ _) 1).trans (hb9.grown hg6 hb9.size (fun k hk => (ho9.lt k hk).1))
            have HX6 := Lib.hid (And.intro (HX.out.1.below hb6) (And.intro hn6 (own_go6 (w := w) ho6 HX.out.2 HX.out.1.hO)))
            have HR6 := Lib.hid hr6
            have hS5 : w5.cell? ⟨w.heap.size, 3, none⟩ = some (.slice a2 m.log.length c2) ∧ w5.cell? ⟨w.heap.size, 11, none⟩ = some (.slice a5 m.tail.length c5) := ⟨below_cell hbw hS0.1, below_cell hbw hS0.2⟩
            have hS6 : w6.cell? ⟨w.heap.size, 3, none⟩ = some (.slice a2 m.log.length c2) ∧ w6.cell? ⟨w.heap.size, 11, none⟩ = some (.slice a5 m.tail.length c5) := ⟨below_cell hb6 hS0.1, below_cell hb6 hS0.2⟩
            clear hn9 ho9 hb9 hbw hr6 ho6 hg6 hb6 hn6 HCP HX
            refine hK.out _ _ (fun _ => hS5) (fun _ => ?_)
            clear hK K
            refine wpAnyU_one (i := 5) (by kernel_rfl) rfl (fun K hK => ?_)
            refine step_append_eq rfl rfl HR6.out rfl rfl ?_
            refine hK.out _ _ (fun _ => hS6) (fun _ => ?_)
            clear hK K
            refine wpAnyU_take (i := 6) [] rfl (by kernel_rfl) (by kernel_rfl) (by kernel_rfl) (by kernel_rfl) (by kernel_rfl) (by kernel_rfl) (fun _ _ _ h => h) (Or.inl ⟨by rfl, (by intro W hSW; (try dsimp only at hSW); (try go_split_ands); go_simp <;> with_reducible rfl)⟩) hS6 ?_
            try simp only [Act.put, List.setIfInBounds_toArray, List.set_cons_zero, List.set_cons_succ]
            refine wpAnyU_done (by kernel_rfl) ?_ _
            clear hS0 hS5 hS6 hg3 hg11 HR6
            obtain ⟨z0, hz0⟩ : ∃ z, chAt c 0 = z := ⟨_, rfl⟩
            obtain ⟨z1, hz1⟩ : ∃ z, chAt c 1 = z := ⟨_, rfl⟩
            have hz0l : (z0 : Int) < 256 := by rw [← hz0]; have := chAt_lt c 0; omega
            have hz1l : (z1 : Int) < 256 := by rw [← hz1]; have := chAt_lt c 1; omega
            have hz00 : (0 : Int) ≤ (z0 : Int) := by omega
            have hz10 : (0 : Int) ≤ (z1 : Int) := by omega
            have hat0 : Calls Try.prog 46 #[.slice va vn vc, .int .i64 0] w6.drew fun e w' => e = .returned (.int .i64 z0) ∧ w6.drew = w' := by
              have h9 := r6at w6.drew _ c (RdB.drewN (HX6.out.1.rdOld HV.out) 1) 0 (by decide)
              rw [hz0] at h9
              exact h9
            have hat1 : Calls Try.prog 46 #[.slice va vn vc, .int .i64 1] w6.drew fun e w' => e = .returned (.int .i64 z1) ∧ w6.drew = w' := by
              have h9 := r6at w6.drew _ c (RdB.drewN (HX6.out.1.rdOld HV.out) 1) 1 (by decide)
              rw [hz1] at h9
              exact h9
            have HAT0 := Lib.hid hat0
            have HAT1 := Lib.hid hat1
            have hx4 : w6.cell? ⟨w.heap.size, 4, none⟩ = some (.int .i64 m.certain) := HX6.out.1.pb.cell 4 rfl
            obtain ⟨L, hL⟩ : ∃ L, m.left c = L := ⟨_, rfl⟩
            have hn6 : n6 = m.certain + m.rest.length := by rw [← HX6.out.2.1]; exact crashAll_length HWF.out
            have hLe : L ≤ m.rest.length := by rw [← hL]; exact left_le c
            have HL : Hid (m.left c = L ∧ m.certain + L ≤ n6 ∧ n6 ≤ 16777216 ∧ (m.log ++ m.tail).take (m.certain + L) = m.crashLog c) := by
              refine ⟨hL, by omega, ?_, by rw [← hL]; exact crashLog_cut HWF.out c⟩
              rw [← HX6.out.2.1, List.length_append]
              have := HLN.out
              omega
            obtain ⟨ct, hct⟩ : ∃ ct, m.certain = ct := ⟨_, rfl⟩
            have hmod : ((z0 : Int) + 256 * (z1 : Int)).tmod ((n6 : Int) - (ct : Int) + 1) = (L : Int) := by
              have h9 : ((n6 : Int) - (ct : Int) + 1) = ((m.rest.length + 1 : Nat) : Int) := by omega
              rw [h9, ← hL]
              unfold DM.left
              rw [hz0, hz1]
              rfl
            rw [hct] at hx4 HL
            have hn6l : (n6 : Int) ≤ 16777216 := by have := HL.out.2.2.1; omega
            have hcn : (ct : Int) ≤ (n6 : Int) := by have := HL.out.2.1; omega
            have hc0 : (0 : Int) ≤ (ct : Int) := by omega
            have hne : ¬ ((n6 : Int) - (ct : Int) + 1) = 0 := by omega
            have we1 : IntKind.i64.wrap ((n6 : Int) - (ct : Int)) = (n6 : Int) - (ct : Int) := w64 _ (by omega) (by omega)
            have we2 : IntKind.i64.wrap ((n6 : Int) - (ct : Int) + 1) = (n6 : Int) - (ct : Int) + 1 := w64 _ (by omega) (by omega)
            have we3 : IntKind.i64.wrap (256 * (z1 : Int)) = 256 * (z1 : Int) := w64 _ (by omega) (by omega)
            have we4 : IntKind.i64.wrap ((z0 : Int) + 256 * (z1 : Int)) = (z0 : Int) + 256 * (z1 : Int) := w64 _ (by omega) (by omega)
            have HCT := Lib.hid hct
            clear hz0 hz1 hat0 hat1 hn6 hL hLe hct
            have hS0 : w6.drew.cell? ⟨w.heap.size, 4, none⟩ = some (.int .i64 ct) := hx4
            go_upto_region 18 with (fail)
            refine wp_region_U (fun W => W.cell? ⟨w.heap.size, 4, none⟩ = some (.int .i64 ct)) [] (by kernel_rfl) ?_
            refine wpAnyU_take (i := 0) [1, 3, 4, 5, 12, 13] rfl (by kernel_rfl) (by kernel_rfl) (by kernel_rfl) (by kernel_rfl) (by kernel_rfl) (by kernel_rfl) (fun _ _ _ h => h) (Or.inl ⟨by rfl, (by intro W hSW; (try dsimp only at hSW); (try go_split_ands); go_simp <;> with_reducible rfl)⟩) hS0 ?_
            try simp only [Act.put, List.setIfInBounds_toArray, List.set_cons_zero, List.set_cons_succ]
            refine wpAnyU_take (i := 2) [3, 4, 5, 12, 13] rfl (by kernel_rfl) (by kernel_rfl) (by kernel_rfl) (by kernel_rfl) (by kernel_rfl) (by kernel_rfl) (fun _ _ _ h => h) (Or.inl ⟨by rfl, (by intro W hSW; (try dsimp only at hSW); (try go_split_ands); go_simp <;> with_reducible rfl)⟩) hS0 ?_
            try simp only [Act.put, List.setIfInBounds_toArray, List.set_cons_zero, List.set_cons_succ]
            refine wpAnyU_take (i := 6) [7, 10, 11, 12, 13] rfl (by kernel_rfl) (by kernel_rfl) (by kernel_rfl) (by kernel_rfl) (by kernel_rfl) (by kernel_rfl) (fun _ _ _ h => h) (Or.inl ⟨by rfl, (by intro W hSW; (try dsimp only at hSW); (try go_split_ands); go_simp <;> with_reducible rfl)⟩) hS0 ?_
            try simp only [Act.put, List.setIfInBounds_toArray, List.set_cons_zero, List.set_cons_succ]
            refine wpAnyU_take (i := 7) [10, 11, 12, 13] rfl (by kernel_rfl) (by kernel_rfl) (by kernel_rfl) (by kernel_rfl) (by kernel_rfl) (by kernel_rfl) (fun _ _ _ h => h) (Or.inl ⟨by rfl, (by intro W hSW; (try dsimp only at hSW); (try go_split_ands); go_simp <;> with_reducible rfl)⟩) hS0 ?_
            try simp only [Act.put, List.setIfInBounds_toArray, List.set_cons_zero, List.set_cons_succ]
            refine wpAnyU_take (i := 8) [9, 10, 11, 12, 13] rfl (by kernel_rfl) (by kernel_rfl) (by kernel_rfl) (by kernel_rfl) (by kernel_rfl) (by kernel_rfl) (fun _ _ _ h => h) (Or.inl ⟨by rfl, (by intro W hSW; (try dsimp only at hSW); (try go_split_ands); go_simp <;> with_reducible rfl)⟩) hS0 ?_
            try simp only [Act.put, List.setIfInBounds_toArray, List.set_cons_zero, List.set_cons_succ]
            refine wpAnyU_take (i := 9) [10, 11, 12, 13] rfl (by kernel_rfl) (by kernel_rfl) (by kernel_rfl) (by kernel_rfl) (by kernel_rfl) (by kernel_rfl) (fun _ _ _ h => h) (Or.inl ⟨by rfl, (by intro W hSW; (try dsimp only at hSW); (try go_split_ands); go_simp <;> with_reducible rfl)⟩) hS0 ?_
            try simp only [Act.put, List.setIfInBounds_toArray, List.set_cons_zero, List.set_cons_succ]
            refine wpAnyU_take (i := 10) [11, 12, 13] rfl (by kernel_rfl) (by kernel_rfl) (by kernel_rfl) (by kernel_rfl) (by kernel_rfl) (by kernel_rfl) (fun _ _ _ h => h) (Or.inl ⟨by rfl, (by intro W hSW; (try dsimp only at hSW); (try go_split_ands); go_simp <;> with_reducible rfl)⟩) hS0 ?_
            try simp only [Act.put, List.setIfInBounds_toArray, List.set_cons_zero, List.set_cons_succ]
            refine wpAnyU_take (i := 11) [12, 13] rfl (by kernel_rfl) (by kernel_rfl) (by kernel_rfl) (by kernel_rfl) (by kernel_rfl) (by kernel_rfl) (fun _ _ _ h => h) (Or.inl ⟨by rfl, (by intro W hSW; (try dsimp only at hSW); (try go_split_ands); go_simp <;> with_reducible rfl)⟩) hS0 ?_
            try simp only [Act.put, List.setIfInBounds_toArray, List.set_cons_zero, List.set_cons_succ]
            refine wpAnyU_one (i := 1) (by kernel_rfl) rfl (fun K hK => ?_)
            go_simp
            go_at_call 46
            refine HAT0.out.mono ?_
            rintro e w' ⟨rfl, rfl⟩
            clear HAT0
            refine hK.out _ _ (fun _ => hS0) (fun _ => ?_)
            clear hK K
            refine wpAnyU_one (i := 3) (by kernel_rfl) rfl (fun K hK => ?_)
            go_simp
            go_at_call 46
            refine HAT1.out.mono ?_
            rintro e w' ⟨rfl, rfl⟩
            clear HAT1
            refine hK.out _ _ (fun _ => hS0) (fun _ => ?_)
            clear hK K
            refine wpAnyU_take (i := 4) [5, 12, 13] rfl (by kernel_rfl) (by kernel_rfl) (by kernel_rfl) (by kernel_rfl) (by kernel_rfl) (by kernel_rfl) (fun _ _ _ h => h) (Or.inl ⟨by rfl, (by intro W hSW; (try dsimp only at hSW); (try go_split_ands); go_simp <;> with_reducible rfl)⟩) hS0 ?_
            try simp only [Act.put, List.setIfInBounds_toArray, List.set_cons_zero, List.set_cons_succ]
            refine wpAnyU_take (i := 5) [12, 13] rfl (by kernel_rfl) (by kernel_rfl) (by kernel_rfl) (by kernel_rfl) (by kernel_rfl) (by kernel_rfl) (fun _ _ _ h => h) (Or.inl ⟨by rfl, (by intro W hSW; (try dsimp only at hSW); (try go_split_ands); go_simp <;> with_reducible rfl)⟩) hS0 ?_
            try simp only [Act.put, List.setIfInBounds_toArray, List.set_cons_zero, List.set_cons_succ]
            refine wpAnyU_take (i := 12) [13] rfl (by kernel_rfl) (by kernel_rfl) (by kernel_rfl) (by kernel_rfl) (by kernel_rfl) (by kernel_rfl) (fun _ _ _ h => h) (Or.inl ⟨by rfl, (by intro W hSW; (try dsimp only at hSW); (try go_split_ands); go_simp <;> with_reducible rfl)⟩) hS0 ?_
            try simp only [Act.put, List.setIfInBounds_toArray, List.set_cons_zero, List.set_cons_succ]
            refine wpAnyU_take (i := 13) [] rfl (by kernel_rfl) (by kernel_rfl) (by kernel_rfl) (by kernel_rfl) (by kernel_rfl) (by kernel_rfl) (fun _ _ _ h => h) (Or.inl ⟨by rfl, (by intro W hSW; (try dsimp only at hSW); (try go_split_ands); go_simp <;> with_reducible rfl)⟩) hS0 ?_
            try simp only [Act.put, List.setIfInBounds_toArray, List.set_cons_zero, List.set_cons_succ]
            refine wpAnyU_done (by kernel_rfl) ?_ _
            clear hS0 hx4 hmod hne we1 we2 we3 we4 hz0l hz1l hz00 hz10 hcn
            have hx4 : w6.drew.cell? ⟨w.heap.size, 4, none⟩ = some (.int .i64 ct) := by rw [← HCT.out]; exact HX6.out.1.pb.cell 4 rfl
            obtain ⟨q1, q2, hcut, hrd⟩ := slice_bytes_to (RdB.drewN HX6.out.2.2 1) (ct + L) (by rw [HX6.out.2.1]; exact HL.out.2.1)
            rw [HL.out.2.2.2] at hrd
            have hcut2 : ∀ W, (Instr.sliceAt 28 (.slice z6 n6 k6) none (some (.int .i64 ((ct : Int) + (L : Int)))) none).run Try.prog W = .ok (.slice q1 (ct + L) q2) W := hcut
            have hli : (ct : Int) + (L : Int) ≤ (n6 : Int) := by have := HL.out.2.1; omega
            have hl0 : (0 : Int) ≤ (L : Int) := by omega
            have hcp19 := r6copied w6.drew _ _ hrd (by rw [← HL.out.2.2.2, List.length_take]; have := HL.out.2.1; have := HL.out.2.2.1; omega)
            have HCP := Lib.hid hcp19
            clear hrd hcut hcp19
            go_wp2_with fail
            refine HCP.out.mono ?_
            rintro e w7 ⟨x9, n9, k9, rfl, hn9, ho9, hb9⟩
            have HX7 : Hid (FiX w w7 w2.heap.size #[.slice a0 nb c0, .slice a1 nw c1, .int .i64 m.room, .slice a2 m.log.length c2, .int .i64 m.certain, .slice a3 m.mark.length c3, .int .i64 m.fuse, .int .i64 m.ops, .bool m.dead, .int .i64 lp, .slice a4 n4 c4, .slice a5 m.tail.length c5, .bool m.torn.isSome] #[.slice a nb cc, .slice none 0 0, .int .i64 m.room, .slice none 0 0, .int .i64 0, .slice none 0 0, .int .i64 (-1), .int .i64 0, .bool false, .int .i64 0, .slice none 0 0, .slice none 0 0, .bool false] (.slice a nb cc) (m.crashPages c) us [(.slice x9 n9 k9, m.crashLog c)]) := ((HX6.out.1.drewN 1).below hb9).push (own_go6 (w := w) ho9 HX6.out.1.bx.lt HX6.out.1.hO)
            have HN9 := Lib.hid hn9
            clear hn9 ho9 hb9 HCP hx4 hcut2
            obtain ⟨w8, hw8⟩ : ∃ w8, World.setCell w7 ⟨w2.heap.size, 3, none⟩ (.slice x9 n9 k9) = w8 := ⟨_, rfl⟩
            have hX8 : FiX w w8 w2.heap.size #[.slice a0 nb c0, .slice a1 nw c1, .int .i64 m.room, .slice a2 m.log.length c2, .int .i64 m.certain, .slice a3 m.mark.length c3, .int .i64 m.fuse, .int .i64 m.ops, .bool m.dead, .int .i64 lp, .slice a4 n4 c4, .slice a5 m.tail.length c5, .bool m.torn.isSome] #[.slice a nb cc, .slice none 0 0, .int .i64 m.room, .slice x9 n9 k9, .int .i64 0, .slice none 0 0, .int .i64 (-1), .int .i64 0, .bool false, .int .i64 0, .slice none 0 0, .slice none 0 0, .bool false] (.slice a nb cc) (m.crashPages c) us [(.slice x9 n9 k9, m.crashLog c)] := by rw [← hw8]; exact HX7.out.set 3 (.slice x9 n9 k9)
            have HX8 := Lib.hid hX8
            have of3 : w7.frozen? ⟨w2.heap.size, 3, none⟩ = false := HX7.out.bx.frozen 3
            have oc3 : w7.cell? ⟨w2.heap.size, 3, none⟩ = some (.slice none 0 0) := HX7.out.bx.cell 3 rfl
            have y3 : w8.cell? ⟨w2.heap.size, 3, none⟩ = some (.slice x9 n9 k9) := HX8.out.bx.cell 3 rfl
            obtain ⟨w9, hw9⟩ : ∃ w9, World.setCell w8 ⟨w2.heap.size, 4, none⟩ (.int .i64 n9) = w9 := ⟨_, rfl⟩
            have hX9 : FiX w w9 w2.heap.size #[.slice a0 nb c0, .slice a1 nw c1, .int .i64 m.room, .slice a2 m.log.length c2, .int .i64 m.certain, .slice a3 m.mark.length c3, .int .i64 m.fuse, .int .i64 m.ops, .bool m.dead, .int .i64 lp, .slice a4 n4 c4, .slice a5 m.tail.length c5, .bool m.torn.isSome] #[.slice a nb cc, .slice none 0 0, .int .i64 m.room, .slice x9 n9 k9, .int .i64 n9, .slice none 0 0, .int .i64 (-1), .int .i64 0, .bool false, .int .i64 0, .slice none 0 0, .slice none 0 0, .bool false] (.slice a nb cc) (m.crashPages c) us [(.slice x9 n9 k9, m.crashLog c)] := by rw [← hw9]; exact HX8.out.set 4 (.int .i64 n9)
            have HX9 := Lib.hid hX9
            have of4 : w8.frozen? ⟨w2.heap.size, 4, none⟩ = false := HX8.out.bx.frozen 4
            have oc4 : w8.cell? ⟨w2.heap.size, 4, none⟩ = some (.int .i64 0) := HX8.out.bx.cell 4 rfl
            have y5 : w9.cell? ⟨w.heap.size, 5, none⟩ = some (.slice a3 m.mark.length c3) := HX9.out.pb.cell 5 rfl
            have hcp21 := r6copied w9 _ _ (HX9.out.rdOld H.out.1.mark) (by have := HWF.out.mark; omega)
            have HCP := Lib.hid hcp21
            clear hX8 hX9 hcp21
            go_wp2_with fail
            refine HCP.out.mono ?_
            rintro e w10 ⟨x8, n8, k8, rfl, hn8, ho8, hb8⟩
            have HX10 : Hid (FiX w w10 w2.heap.size #[.slice a0 nb c0, .slice a1 nw c1, .int .i64 m.room, .slice a2 m.log.length c2, .int .i64 m.certain, .slice a3 m.mark.length c3, .int .i64 m.fuse, .int .i64 m.ops, .bool m.dead, .int .i64 lp, .slice a4 n4 c4, .slice a5 m.tail.length c5, .bool m.torn.isSome] #[.slice a nb cc, .slice none 0 0, .int .i64 m.room, .slice x9 n9 k9, .int .i64 n9, .slice none 0 0, .int .i64 (-1), .int .i64 0, .bool false, .int .i64 0, .slice none 0 0, .slice none 0 0, .bool false] (.slice a nb cc) (m.crashPages c) us [(.slice x8 n8 k8, m.mark), (.slice x9 n9 k9, m.crashLog c)]) := (HX9.out.below hb8).push (own_go6 (w := w) ho8 HX9.out.bx.lt HX9.out.hO)
            clear hn8 ho8 hb8 HCP of3 oc3 of4 oc4 y3 y5 hw8 hw9
            obtain ⟨w11, hw11⟩ : ∃ w11, World.setCell w10 ⟨w2.heap.size, 5, none⟩ (.slice x8 n8 k8) = w11 := ⟨_, rfl⟩
            have hX11 : FiX w w11 w2.heap.size #[.slice a0 nb c0, .slice a1 nw c1, .int .i64 m.room, .slice a2 m.log.length c2, .int .i64 m.certain, .slice a3 m.mark.length c3, .int .i64 m.fuse, .int .i64 m.ops, .bool m.dead, .int .i64 lp, .slice a4 n4 c4, .slice a5 m.tail.length c5, .bool m.torn.isSome] #[.slice a nb cc, .slice none 0 0, .int .i64 m.room, .slice x9 n9 k9, .int .i64 n9, .slice x8 n8 k8, .int .i64 (-1), .int .i64 0, .bool false, .int .i64 0, .slice none 0 0, .slice none 0 0, .bool false] (.slice a nb cc) (m.crashPages c) us [(.slice x8 n8 k8, m.mark), (.slice x9 n9 k9, m.crashLog c)] := by rw [← hw11]; exact HX10.out.set 5 (.slice x8 n8 k8)
            have HX11 := Lib.hid hX11
            have of5 : w10.frozen? ⟨w2.heap.size, 5, none⟩ = false := HX10.out.bx.frozen 5
            have oc5 : w10.cell? ⟨w2.heap.size, 5, none⟩ = some (.slice none 0 0) := HX10.out.bx.cell 5 rfl
            obtain ⟨wy, hwy⟩ : ∃ wy, World.setRow w11 (w.heap.size + 1) #[.slice a nb cc, .slice none 0 0, .int .i64 m.room, .slice x9 n9 k9, .int .i64 n9, .slice x8 n8 k8, .int .i64 (-1), .int .i64 0, .bool false, .int .i64 0, .slice none 0 0, .slice none 0 0, .bool false] = wy := ⟨_, rfl⟩
            have hf := HX11.out.fin #[.slice a nb cc, .slice none 0 0, .int .i64 m.room, .slice x9 n9 k9, .int .i64 n9, .slice x8 n8 k8, .int .i64 (-1), .int .i64 0, .bool false, .int .i64 0, .slice none 0 0, .slice none 0 0, .bool false]
            rw [hwy] at hf
            have HFIN : Hid (CraOut F w m c (.returned (.agg #[.slice a nb cc, .slice none 0 0, .int .i64 m.room, .slice x9 n9 k9, .int .i64 n9, .slice x8 n8 k8, .int .i64 (-1), .int .i64 0, .bool false, .int .i64 0, .slice none 0 0, .slice none 0 0, .bool false])) wy ∧ BoxAt wy (w.heap.size + 1) #[.slice a nb cc, .slice none 0 0, .int .i64 m.room, .slice x9 n9 k9, .int .i64 n9, .slice x8 n8 k8, .int .i64 (-1), .int .i64 0, .bool false, .int .i64 0, .slice none 0 0, .slice none 0 0, .bool false]) := by
              refine ⟨⟨⟨.slice a nb cc, .slice none 0 0, .slice x9 n9 k9, .slice x8 n8 k8, .slice none 0 0, .slice none 0 0, 0, us, []⟩, ?_, ?_, hf.1⟩, hf.2.1⟩
              · rw [HN9.out]; rfl
              · exact crash_rep (w := w) (O := w2.heap.size) HWF.out H.out.2 hf.2.2.1 (hf.2.2.2 _ (List.mem_cons_of_mem _ (List.mem_cons_self ..))) (hf.2.2.2 _ (List.mem_cons_self ..))
            have hrs : BoxAt w11 (w.heap.size + 1) #[.slice none 0 0, .slice none 0 0, .int .i64 0, .slice none 0 0, .int .i64 0, .slice none 0 0, .int .i64 0, .int .i64 0, .bool false, .int .i64 0, .slice none 0 0, .slice none 0 0, .bool false] := HX11.out.rs
            have HRS := Lib.hid hrs
            clear hf hX11 hrs
            go_wp2_with (first
              | (refine wpList_load_row rfl _ _ rfl w2.heap.size rfl _ _ (0, 0) _ HX11.out.bx Try.underlying52 rfl info13 ?_)
              | (refine wpList_store_row rfl _ _ _ rfl (w.heap.size + 1) _ rfl rfl _ _ HRS.out info13 rfl (by simp [Value.oneCell']) ?_; rw [hwy]))
            exact bodyPost_ret (results_cell_row (fn := Try.f35) (p := 4) (ty := 52) rfl _ _ (w.heap.size + 1) 52 _ (0, 0) _ rfl HFIN.out.2 Try.underlying52 rfl info13) rfl HFIN.out.1
end Mun
