/- Contract of the reference's body: the walk. -/
import Derived.Test.YtoblajbffnkkiaaW7B
import Derived.Test.YtoblajbffnkkiaaRecC
import Derived.Deep.DeepCutAuto
set_option maxRecDepth 100000
set_option linter.unusedVariables false
set_option linter.unusedSimpArgs false
namespace Mun
open Go Go.RowKit
open Go.Proofs

set_option maxHeartbeats 1000000 in
theorem r7body {F : Foot} (w : World) (r : PR) (x : RV) (h : RecAt F w r x) (hg : goodR r = true) (hsz : szR r ≤ 4194304) :
    Calls Try.prog 50 #[rval r x] w (BodyOut w (bodyR r)) := by
  have hG := (goodR_iff r).1 hg
  have hd1 : Hid (∀ k, (hdK r k).length ≤ 31) := fun k => hdK_len r x h k
  have hd2 : Hid (∀ k, (bdK r k).length ≤ 4194400) := fun k => bdK_len r x h hg hsz k
  have hk0 : 0 ≤ r.kind := by omega
  have hk1 : r.kind < 256 := by omega
  obtain ⟨kd, hkd⟩ := Int.eq_ofNat_of_zero_le hk0
  have HKD := Lib.hid hkd
  unfold rval
  rw [hkd]
  obtain ⟨dn, hdn⟩ : ∃ dn, r.data.length = dn := ⟨_, rfl⟩
  obtain ⟨da, dc, hdv, _, _⟩ := h.data.form
  obtain ⟨ca, cc, hcv, hcc, hcm⟩ := h.cs.row.form
  rw [hdn] at hdv
  obtain ⟨n, hnn⟩ : ∃ n, x.cs.length = n := ⟨_, rfl⟩
  rw [hnn] at hcv
  rw [hdv, hcv]
  have HN := Lib.hid hnn
  have HDN := Lib.hid hdn
  have HH := Lib.hid h
  have HDV := Lib.hid hdv
  have HCV := Lib.hid hcv
  have HS := Lib.hid hsz
  have HGG := Lib.hid hG
  have hn1 : n ≤ 4194304 := by rw [← hnn, h.len]; unfold szR at hsz; omega
  have hdl : dn ≤ 4194304 := by rw [← hdn]; unfold szR at hsz; omega
  have hkk : (kd : Int) < 256 := by omega
  have hni : (n : Int) ≤ 4194304 := by omega
  have hni0 : (0 : Int) ≤ (n : Int) := by omega
  clear hG hkd hk0 hk1 hdn hdv hcv hcc hcm hnn h hsz hg
  obtain ⟨w1, hw1⟩ : ∃ w1, w.alloc (.cells #[.int .i64 kd, .int .u64 r.tx, .int .u64 r.prev, .int .u64 r.next, .slice da dn dc, .slice ca n cc] 26) = w1 := ⟨_, rfl⟩
  have hbx : w1.heap[w.heap.size]? = some (.cells #[.int .i64 kd, .int .u64 r.tx, .int .u64 r.prev, .int .u64 r.next, .slice da dn dc, .slice ca n cc] 26 (0, 0)) := by rw [← hw1]; exact heap_alloc_new w _
  have hs1 : w1.heap.size = w.heap.size + 1 := by rw [← hw1]; simp
  have hb1 : Below w.heap.size w w1 := by rw [← hw1]; exact (Below.refl _ _).alloc (Nat.le_refl _) _
  have c0 : w1.cell? ⟨w.heap.size, 0, none⟩ = some (.int .i64 kd) := cell_of_row w1 _ 0 _ _ _ hbx
  have HB1 := Lib.hid (And.intro hb1 (And.intro hbx hs1))
  have hst : BSt (w.heap.size + 1) w1 (w1.alloc (.cells #[.int .u8 kd] 5)) (.slice (some ⟨w1.heap.size, 0, none⟩) 1 1) (hdK r 0) := by
    refine ⟨?_, (Below.refl _ _).alloc (by omega) _, by omega⟩
    have := own_one w1 (UInt8.ofNat r.kind.toNat) kd (by rw [HKD.out, UInt8.toNat_ofNat']; simp; omega)
    rw [hs1] at this ⊢
    exact this
  have HST := Lib.hid hst
  have e1 : w.heap.size + 1 = w1.heap.size := hs1.symm
  have E1 := Lib.hid e1
  clear hst hb1 hbx hs1 e1
  go_enter Try.func50, Try.ntmps50
  go_upto_region 2 with (fail)
  clear hw1 c0
  obtain ⟨w2, hw2⟩ : ∃ w2, w1.alloc (.cells #[.int .u8 kd] 5) = w2 := ⟨_, rfl⟩
  rw [hw2] at HST ⊢
  clear hw2
  have hsd := HST.out.drew
  have HSD := Lib.hid hsd
  have hS0 : w2.drew.cell? ⟨w.heap.size, 1, none⟩ = some (.int .u64 r.tx) ∧ w2.drew.cell? ⟨w.heap.size, 2, none⟩ = some (.int .u64 r.prev) ∧ w2.drew.cell? ⟨w.heap.size, 3, none⟩ = some (.int .u64 r.next) ∧ w2.drew.cell? ⟨w.heap.size, 4, none⟩ = some (.slice da dn dc) := ⟨hsd.boxcell HB1.out.2.1 (Nat.lt_succ_self _) 1, hsd.boxcell HB1.out.2.1 (Nat.lt_succ_self _) 2, hsd.boxcell HB1.out.2.1 (Nat.lt_succ_self _) 3, hsd.boxcell HB1.out.2.1 (Nat.lt_succ_self _) 4⟩
  have hv0 := r7varint w2.drew (w.heap.size + 1) _ _ r.tx HH.out.tx hsd.own hsd.size (by have := hd1.out 0; omega)
  have HV0 := Lib.hid hv0
  clear hsd hv0
  refine wp_region_U (fun W => W.cell? ⟨w.heap.size, 1, none⟩ = some (.int .u64 r.tx) ∧ W.cell? ⟨w.heap.size, 2, none⟩ = some (.int .u64 r.prev) ∧ W.cell? ⟨w.heap.size, 3, none⟩ = some (.int .u64 r.next) ∧ W.cell? ⟨w.heap.size, 4, none⟩ = some (.slice da dn dc)) [] (by kernel_rfl) ?_
  refine wpAnyU_take (i := 0) [3, 6, 9, 12, 13] rfl (by kernel_rfl) (by kernel_rfl) (by kernel_rfl) (by kernel_rfl) (by kernel_rfl) (by kernel_rfl) (fun _ _ _ h => h) (Or.inl ⟨by rfl, (by intro W hSW; (try dsimp only at hSW); (try go_split_ands); go_simp <;> with_reducible rfl)⟩) hS0 ?_
  try simp only [Act.put, List.getElem_toArray, List.getElem_cons_succ, List.getElem_cons_zero, List.setIfInBounds_toArray, List.set_cons_zero, List.set_cons_succ]
  refine wpAnyU_take (i := 1) [2, 3, 6, 9, 12, 13] rfl (by kernel_rfl) (by kernel_rfl) (by kernel_rfl) (by kernel_rfl) (by kernel_rfl) (by kernel_rfl) (fun _ _ _ h => h) (Or.inl ⟨by rfl, (by intro W hSW; (try dsimp only at hSW); (try go_split_ands); go_simp <;> with_reducible rfl)⟩) hS0 ?_
  try simp only [Act.put, List.getElem_toArray, List.getElem_cons_succ, List.getElem_cons_zero, List.setIfInBounds_toArray, List.set_cons_zero, List.set_cons_succ]
  refine wpAnyU_take (i := 2) [3, 6, 9, 12, 13] rfl (by kernel_rfl) (by kernel_rfl) (by kernel_rfl) (by kernel_rfl) (by kernel_rfl) (by kernel_rfl) (fun _ _ _ h => h) (Or.inl ⟨by rfl, (by intro W hSW; (try dsimp only at hSW); (try go_split_ands); go_simp <;> with_reducible rfl)⟩) hS0 ?_
  try simp only [Act.put, List.getElem_toArray, List.getElem_cons_succ, List.getElem_cons_zero, List.setIfInBounds_toArray, List.set_cons_zero, List.set_cons_succ]
  refine wpAnyU_take (i := 4) [5, 6, 9, 12, 13] rfl (by kernel_rfl) (by kernel_rfl) (by kernel_rfl) (by kernel_rfl) (by kernel_rfl) (by kernel_rfl) (fun _ _ _ h => h) (Or.inl ⟨by rfl, (by intro W hSW; (try dsimp only at hSW); (try go_split_ands); go_simp <;> with_reducible rfl)⟩) hS0 ?_
  try simp only [Act.put, List.getElem_toArray, List.getElem_cons_succ, List.getElem_cons_zero, List.setIfInBounds_toArray, List.set_cons_zero, List.set_cons_succ]
  refine wpAnyU_take (i := 5) [6, 9, 12, 13] rfl (by kernel_rfl) (by kernel_rfl) (by kernel_rfl) (by kernel_rfl) (by kernel_rfl) (by kernel_rfl) (fun _ _ _ h => h) (Or.inl ⟨by rfl, (by intro W hSW; (try dsimp only at hSW); (try go_split_ands); go_simp <;> with_reducible rfl)⟩) hS0 ?_
  try simp only [Act.put, List.getElem_toArray, List.getElem_cons_succ, List.getElem_cons_zero, List.setIfInBounds_toArray, List.set_cons_zero, List.set_cons_succ]
  refine wpAnyU_take (i := 7) [8, 9, 12, 13] rfl (by kernel_rfl) (by kernel_rfl) (by kernel_rfl) (by kernel_rfl) (by kernel_rfl) (by kernel_rfl) (fun _ _ _ h => h) (Or.inl ⟨by rfl, (by intro W hSW; (try dsimp only at hSW); (try go_split_ands); go_simp <;> with_reducible rfl)⟩) hS0 ?_
  try simp only [Act.put, List.getElem_toArray, List.getElem_cons_succ, List.getElem_cons_zero, List.setIfInBounds_toArray, List.set_cons_zero, List.set_cons_succ]
  refine wpAnyU_take (i := 8) [9, 12, 13] rfl (by kernel_rfl) (by kernel_rfl) (by kernel_rfl) (by kernel_rfl) (by kernel_rfl) (by kernel_rfl) (fun _ _ _ h => h) (Or.inl ⟨by rfl, (by intro W hSW; (try dsimp only at hSW); (try go_split_ands); go_simp <;> with_reducible rfl)⟩) hS0 ?_
  try simp only [Act.put, List.getElem_toArray, List.getElem_cons_succ, List.getElem_cons_zero, List.setIfInBounds_toArray, List.set_cons_zero, List.set_cons_succ]
  refine wpAnyU_take (i := 10) [11, 12, 13] rfl (by kernel_rfl) (by kernel_rfl) (by kernel_rfl) (by kernel_rfl) (by kernel_rfl) (by kernel_rfl) (fun _ _ _ h => h) (Or.inl ⟨by rfl, (by intro W hSW; (try dsimp only at hSW); (try go_split_ands); go_simp <;> with_reducible rfl)⟩) hS0 ?_
  try simp only [Act.put, List.getElem_toArray, List.getElem_cons_succ, List.getElem_cons_zero, List.setIfInBounds_toArray, List.set_cons_zero, List.set_cons_succ]
  refine wpAnyU_take (i := 11) [12, 13] rfl (by kernel_rfl) (by kernel_rfl) (by kernel_rfl) (by kernel_rfl) (by kernel_rfl) (by kernel_rfl) (fun _ _ _ h => h) (Or.inl ⟨by rfl, (by intro W hSW; (try dsimp only at hSW); (try go_split_ands); go_simp <;> with_reducible rfl)⟩) hS0 ?_
  try simp only [Act.put, List.getElem_toArray, List.getElem_cons_succ, List.getElem_cons_zero, List.setIfInBounds_toArray, List.set_cons_zero, List.set_cons_succ]
  refine wpAnyU_one (i := 3) (by kernel_rfl) rfl (fun K hK => ?_)
  go_simp
  go_at_call 69
  (with_reducible refine HV0.out.mono ?_)
  rintro e w3 ⟨gw3, mw3, cpw3, rfl, hm, ho, hc, hgg⟩
  have HX3 := Lib.hid (HSD.out.step ho hc)
  have hSw3 : w3.cell? ⟨w.heap.size, 1, none⟩ = some (.int .u64 r.tx) ∧ w3.cell? ⟨w.heap.size, 2, none⟩ = some (.int .u64 r.prev) ∧ w3.cell? ⟨w.heap.size, 3, none⟩ = some (.int .u64 r.next) ∧ w3.cell? ⟨w.heap.size, 4, none⟩ = some (.slice da dn dc) := ⟨HX3.out.boxcell HB1.out.2.1 (Nat.lt_succ_self _) 1, HX3.out.boxcell HB1.out.2.1 (Nat.lt_succ_self _) 2, HX3.out.boxcell HB1.out.2.1 (Nat.lt_succ_self _) 3, HX3.out.boxcell HB1.out.2.1 (Nat.lt_succ_self _) 4⟩
  have hv1 := r7varint w3 (w.heap.size + 1) _ _ r.prev HH.out.prev HX3.out.own HX3.out.size (by have := hd1.out 1; exact Nat.le_trans this (by omega))
  have HV1 := Lib.hid hv1
  clear hv1
  clear hm ho hc hgg HV0
  refine hK.out _ _ (fun _ => hSw3) (fun _ => ?_)
  clear hK K
  try simp only [Act.put, List.getElem_toArray, List.getElem_cons_succ, List.getElem_cons_zero, List.setIfInBounds_toArray, List.set_cons_zero, List.set_cons_succ]
  refine wpAnyU_one (i := 6) (by kernel_rfl) rfl (fun K hK => ?_)
  go_simp
  go_at_call 69
  (with_reducible refine HV1.out.mono ?_)
  rintro e w4 ⟨gw4, mw4, cpw4, rfl, hm, ho, hc, hgg⟩
  have HX4 := Lib.hid (HX3.out.step ho hc)
  have hSw4 : w4.cell? ⟨w.heap.size, 1, none⟩ = some (.int .u64 r.tx) ∧ w4.cell? ⟨w.heap.size, 2, none⟩ = some (.int .u64 r.prev) ∧ w4.cell? ⟨w.heap.size, 3, none⟩ = some (.int .u64 r.next) ∧ w4.cell? ⟨w.heap.size, 4, none⟩ = some (.slice da dn dc) := ⟨HX4.out.boxcell HB1.out.2.1 (Nat.lt_succ_self _) 1, HX4.out.boxcell HB1.out.2.1 (Nat.lt_succ_self _) 2, HX4.out.boxcell HB1.out.2.1 (Nat.lt_succ_self _) 3, HX4.out.boxcell HB1.out.2.1 (Nat.lt_succ_self _) 4⟩
  have hv2 := r7varint w4 (w.heap.size + 1) _ _ r.next HH.out.next HX4.out.own HX4.out.size (by have := hd1.out 2; exact Nat.le_trans this (by omega))
  have HV2 := Lib.hid hv2
  clear hv2
  clear hm ho hc hgg HV1
  refine hK.out _ _ (fun _ => hSw4) (fun _ => ?_)
  clear hK K
  try simp only [Act.put, List.getElem_toArray, List.getElem_cons_succ, List.getElem_cons_zero, List.setIfInBounds_toArray, List.set_cons_zero, List.set_cons_succ]
  refine wpAnyU_one (i := 9) (by kernel_rfl) rfl (fun K hK => ?_)
  go_simp
  go_at_call 69
  (with_reducible refine HV2.out.mono ?_)
  rintro e w5 ⟨gw5, mw5, cpw5, rfl, hm, ho, hc, hgg⟩
  have HX5 := Lib.hid (HX4.out.step ho hc)
  have hSw5 : w5.cell? ⟨w.heap.size, 1, none⟩ = some (.int .u64 r.tx) ∧ w5.cell? ⟨w.heap.size, 2, none⟩ = some (.int .u64 r.prev) ∧ w5.cell? ⟨w.heap.size, 3, none⟩ = some (.int .u64 r.next) ∧ w5.cell? ⟨w.heap.size, 4, none⟩ = some (.slice da dn dc) := ⟨HX5.out.boxcell HB1.out.2.1 (Nat.lt_succ_self _) 1, HX5.out.boxcell HB1.out.2.1 (Nat.lt_succ_self _) 2, HX5.out.boxcell HB1.out.2.1 (Nat.lt_succ_self _) 3, HX5.out.boxcell HB1.out.2.1 (Nat.lt_succ_self _) 4⟩
  have hrd5 := (HH.out.newer HB1.out.1 HX5.out.bl (Nat.le_succ _)).data
  rw [HDV.out] at hrd5
  have ht5 := r7chunk w5 (w.heap.size + 1) _ _ _ _ (by rw [HDN.out]; omega) HX5.out.own HX5.out.size (by have h9 : (hdK r 0 ++ vi r.tx ++ vi r.prev ++ vi r.next).length ≤ 31 := hd1.out 3; rw [HDN.out]; omega) hrd5 (fun _ h => h)
  have HT5 := Lib.hid ht5
  clear hrd5 ht5
  clear hm ho hc hgg HV2
  refine hK.out _ _ (fun _ => hSw5) (fun _ => ?_)
  clear hK K
  try simp only [Act.put, List.getElem_toArray, List.getElem_cons_succ, List.getElem_cons_zero, List.setIfInBounds_toArray, List.set_cons_zero, List.set_cons_succ]
  refine wpAnyU_one (i := 12) (by kernel_rfl) rfl (fun K hK => ?_)
  go_simp
  go_at_call 68
  (with_reducible refine HT5.out.mono ?_)
  rintro e w6 ⟨gw6, mw6, cpw6, rfl, hm, ho, hc, hgg⟩
  have HX6 := Lib.hid (HX5.out.step ho hc)
  have hSw6 : w6.cell? ⟨w.heap.size, 1, none⟩ = some (.int .u64 r.tx) ∧ w6.cell? ⟨w.heap.size, 2, none⟩ = some (.int .u64 r.prev) ∧ w6.cell? ⟨w.heap.size, 3, none⟩ = some (.int .u64 r.next) ∧ w6.cell? ⟨w.heap.size, 4, none⟩ = some (.slice da dn dc) := ⟨HX6.out.boxcell HB1.out.2.1 (Nat.lt_succ_self _) 1, HX6.out.boxcell HB1.out.2.1 (Nat.lt_succ_self _) 2, HX6.out.boxcell HB1.out.2.1 (Nat.lt_succ_self _) 3, HX6.out.boxcell HB1.out.2.1 (Nat.lt_succ_self _) 4⟩
  clear hm ho hc hgg HT5
  refine hK.out _ _ (fun _ => hSw6) (fun _ => ?_)
  clear hK K
  try simp only [Act.put, List.getElem_toArray, List.getElem_cons_succ, List.getElem_cons_zero, List.setIfInBounds_toArray, List.set_cons_zero, List.set_cons_succ]
  refine wpAnyU_take (i := 13) [] rfl (by kernel_rfl) (by kernel_rfl) (by kernel_rfl) (by kernel_rfl) (by kernel_rfl) (by kernel_rfl) (fun _ _ _ h => h) (Or.inl ⟨by rfl, (by intro W hSW; (try dsimp only at hSW); (try go_split_ands); go_simp <;> with_reducible rfl)⟩) hSw6 ?_
  try simp only [Act.put, List.getElem_toArray, List.getElem_cons_succ, List.getElem_cons_zero, List.setIfInBounds_toArray, List.set_cons_zero, List.set_cons_succ]
  refine wpAnyU_done (by kernel_rfl) ?_ _
  have q5 : w6.cell? ⟨w.heap.size, 5, none⟩ = some (.slice ca n cc) := HX6.out.boxcell HB1.out.2.1 (Nat.lt_succ_self _) 5
  have hl6 : (hdK r 0 ++ vi r.tx ++ vi r.prev ++ vi r.next ++ txt r.data).length ≤ 140737488355000 := by
    have h9 : (hdK r 0 ++ vi r.tx ++ vi r.prev ++ vi r.next).length ≤ 31 := hd1.out 3
    have := vi_length64 r.data.length (by rw [HDN.out]; omega)
    rw [List.length_append]
    simp only [txt, List.length_append]
    rw [HDN.out] at *
    simp only [List.length_append] at h9
    omega
  have hv6 := r7varint w6 (w.heap.size + 1) _ _ n (by omega) HX6.out.own HX6.out.size hl6
  have HV6 := Lib.hid hv6
  clear hS0 hSw3 hSw4 hSw5 hSw6 HX3 HX4 HX5 hl6 hv6
  go_upto_region 4 with (go_at_call 69; refine HV6.out.mono ?_; rintro e w7 ⟨gw7, mw7, cpw7, rfl, hm, ho, hc, hgg⟩; have HX7 := Lib.hid (HX6.out.step ho hc); clear hm ho hc hgg)
  have HX8 : Hid (BSt (w.heap.size + 1) w1 w7 (.slice (some ⟨gw7, 0, none⟩) mw7 cpw7) (bdK r 0)) := by
    have h9 := HX7.out
    unfold Hid
    rw [bdK_zero, ← HH.out.len, HN.out]
    exact h9
  clear q5 HX7
  go_wp2
  go_loopw [3, 4] (fun u i wr => ∃ k : Nat, k ≤ n ∧ i = .int .i64 k ∧ BSt (w.heap.size + 1) w1 wr u (bdK r k)) (fun _ i _ => n - (intOf i).toNat)
  case atStart => exact ⟨0, Nat.zero_le _, rfl, HX8.out⟩
  case round =>
    obtain ⟨k, hk, rfl, hs⟩ := hrel
    obtain ⟨ua, un, uc, rfl⟩ := hs.form
    have HSS := Lib.hid hs
    have q55 : wr.cell? ⟨w.heap.size, 5, none⟩ = some (.slice ca n cc) := HSS.out.boxcell HB1.out.2.1 (Nat.lt_succ_self _) 5
    clear hs HX8
    by_cases hlt : k < n
    · have hkl : k < x.cs.length := by rw [HN.out]; exact hlt
      have hN := HH.out.newer HB1.out.1 HSS.out.bl (Nat.le_succ _)
      obtain ⟨g, off, c', hv, -, -, -, -, q0, q1, q2, q3⟩ := hN.cs.at_ k hkl
      rw [HCV.out] at hv
      injection hv with e1 e2 e3
      subst e1
      clear e2 e3
      have hrd := hN.cs.rd _ (List.getElem_mem hkl)
      obtain ⟨pc, hpc⟩ : ∃ pc, x.cs[k].1 = pc := ⟨_, rfl⟩
      obtain ⟨bw, hbw⟩ : ∃ bw, x.cs[k].2 = bw := ⟨_, rfl⟩
      rw [hpc] at q0 q1 q2 hrd
      rw [hbw] at q3 hrd
      obtain ⟨ba, bn, bc, rfl, HBN, -, -⟩ := hrd.formN
      have hget := HH.out.get k hkl
      have hkr : k < r.cs.length := by rw [← HH.out.len]; exact hkl
      have HKR := Lib.hid hkr
      have HPC2 : Hid (r.cs[k] = pc) := hget.trans hpc
      have hgc : GoodC pc := by rw [← HPC2.out]; exact HGG.out.2.2 _ (List.getElem_mem hkr)
      obtain ⟨pg, hpg⟩ := Int.eq_ofNat_of_zero_le hgc.p0
      obtain ⟨ag, hag⟩ := Int.eq_ofNat_of_zero_le hgc.a0
      rw [hpg] at q0
      rw [hag] at q1
      have p1 : (pg : Int) < 65536 := by have := hgc.p1; omega
      have p0 : (0 : Int) ≤ (pg : Int) := by omega
      have a1 : (ag : Int) ≤ 512 := by have := hgc.a1; omega
      have a0 : (0 : Int) ≤ (ag : Int) := by omega
      have hbn : bn ≤ 512 := by have := hgc.len; have := HBN.out; omega
      have HPA := Lib.hid (And.intro hpg hag)
      have HPC := Lib.hid (And.intro hpc hbw)
      have HLT := Lib.hid hlt
      obtain ⟨w2, hw2⟩ : ∃ w2, wr.alloc (.cells #[.int .i64 pg, .int .i64 ag, .bool pc.whole, .slice ba bn bc] 81) = w2 := ⟨_, rfl⟩
      have hs2 : BSt (w.heap.size + 1) w1 w2 (.slice ua un uc) (bdK r k) := by rw [← hw2]; exact HSS.out.grow ((Below.refl _ _).alloc (Nat.le_refl _) _)
      have hcb : w2.heap[wr.heap.size]? = some (.cells #[.int .i64 pg, .int .i64 ag, .bool pc.whole, .slice ba bn bc] 81 (0, 0)) := by rw [← hw2]; exact heap_alloc_new wr _
      have HCB : Hid (w2.drew.heap[wr.heap.size]? = some (.cells #[.int .i64 pg, .int .i64 ag, .bool pc.whole, .slice ba bn bc] 81 (0, 0)) ∧ ¬ bf (.slice ua un uc) wr.heap.size) := ⟨hcb, fun h => by have := (HSS.out.own.lt _ h).2; omega⟩
      have HX2 := Lib.hid hs2.drew
      have hL0 := hd2.out k
      have hv3 := r7varint w2.drew (w.heap.size + 1) _ _ pg (by omega) HX2.out.own HX2.out.size (by omega)
      have HV3 := Lib.hid hv3
      have hS0 : w2.drew.cell? ⟨wr.heap.size, 0, none⟩ = some (.int .i64 pg) ∧ w2.drew.cell? ⟨wr.heap.size, 1, none⟩ = some (.int .i64 ag) := ⟨cell_of_row _ _ 0 _ _ _ HCB.out.1, cell_of_row _ _ 1 _ _ _ HCB.out.1⟩
      have HL0 := Lib.hid hL0
      clear hN hrd hpc hbw hget hkr hgc hpg hag hs2 hcb hv3 hL0
      go_upto_region 8 with (fail)
      clear hw2 q0 q1 q2 q3 q55
      have hw64 : IntKind.u64.wrap (pg : Int) = (pg : Int) := wrap_u64_nat pg (by omega)
      have hw65 : IntKind.u64.wrap (ag : Int) = (ag : Int) := wrap_u64_nat ag (by omega)
      refine wp_region_U (fun W => W.cell? ⟨wr.heap.size, 0, none⟩ = some (.int .i64 pg) ∧ W.cell? ⟨wr.heap.size, 1, none⟩ = some (.int .i64 ag)) [] (by kernel_rfl) ?_
      refine wpAnyU_take (i := 0) [4, 8, 9] rfl (by kernel_rfl) (by kernel_rfl) (by kernel_rfl) (by kernel_rfl) (by kernel_rfl) (by kernel_rfl) (fun _ _ _ h => h) (Or.inl ⟨by rfl, (by intro W hSW; (try dsimp only at hSW); (try go_split_ands); go_simp <;> with_reducible rfl)⟩) hS0 ?_
      try simp only [Act.put, List.getElem_toArray, List.getElem_cons_succ, List.getElem_cons_zero, List.setIfInBounds_toArray, List.set_cons_zero, List.set_cons_succ]
      refine wpAnyU_take (i := 1) [2, 3, 4, 8, 9] rfl (by kernel_rfl) (by kernel_rfl) (by kernel_rfl) (by kernel_rfl) (by kernel_rfl) (by kernel_rfl) (fun _ _ _ h => h) (Or.inl ⟨by rfl, (by intro W hSW; (try dsimp only at hSW); (try go_split_ands); go_simp <;> with_reducible rfl)⟩) hS0 ?_
      try simp only [Act.put, List.getElem_toArray, List.getElem_cons_succ, List.getElem_cons_zero, List.setIfInBounds_toArray, List.set_cons_zero, List.set_cons_succ]
      refine wpAnyU_take (i := 2) [3, 4, 8, 9] rfl (by kernel_rfl) (by kernel_rfl) (by kernel_rfl) (by kernel_rfl) (by kernel_rfl) (by kernel_rfl) (fun _ _ _ h => h) (Or.inl ⟨by rfl, (by intro W hSW; (try dsimp only at hSW); (try go_split_ands); go_simp <;> with_reducible rfl)⟩) hS0 ?_
      try simp only [Act.put, List.getElem_toArray, List.getElem_cons_succ, List.getElem_cons_zero, List.setIfInBounds_toArray, List.set_cons_zero, List.set_cons_succ]
      refine wpAnyU_take (i := 3) [4, 8, 9] rfl (by kernel_rfl) (by kernel_rfl) (by kernel_rfl) (by kernel_rfl) (by kernel_rfl) (by kernel_rfl) (fun _ _ _ h => h) (Or.inl ⟨by rfl, (by intro W hSW; (try dsimp only at hSW); (try go_split_ands); go_simp <;> with_reducible rfl)⟩) hS0 ?_
      try simp only [Act.put, List.getElem_toArray, List.getElem_cons_succ, List.getElem_cons_zero, List.setIfInBounds_toArray, List.set_cons_zero, List.set_cons_succ]
      refine wpAnyU_take (i := 5) [6, 7, 8, 9] rfl (by kernel_rfl) (by kernel_rfl) (by kernel_rfl) (by kernel_rfl) (by kernel_rfl) (by kernel_rfl) (fun _ _ _ h => h) (Or.inl ⟨by rfl, (by intro W hSW; (try dsimp only at hSW); (try go_split_ands); go_simp <;> with_reducible rfl)⟩) hS0 ?_
      try simp only [Act.put, List.getElem_toArray, List.getElem_cons_succ, List.getElem_cons_zero, List.setIfInBounds_toArray, List.set_cons_zero, List.set_cons_succ]
      refine wpAnyU_take (i := 6) [7, 8, 9] rfl (by kernel_rfl) (by kernel_rfl) (by kernel_rfl) (by kernel_rfl) (by kernel_rfl) (by kernel_rfl) (fun _ _ _ h => h) (Or.inl ⟨by rfl, (by intro W hSW; (try dsimp only at hSW); (try go_split_ands); go_simp <;> with_reducible rfl)⟩) hS0 ?_
      try simp only [Act.put, List.getElem_toArray, List.getElem_cons_succ, List.getElem_cons_zero, List.setIfInBounds_toArray, List.set_cons_zero, List.set_cons_succ]
      refine wpAnyU_take (i := 7) [8, 9] rfl (by kernel_rfl) (by kernel_rfl) (by kernel_rfl) (by kernel_rfl) (by kernel_rfl) (by kernel_rfl) (fun _ _ _ h => h) (Or.inl ⟨by rfl, (by intro W hSW; (try dsimp only at hSW); (try go_split_ands); go_simp <;> with_reducible rfl)⟩) hS0 ?_
      try simp only [Act.put, List.getElem_toArray, List.getElem_cons_succ, List.getElem_cons_zero, List.setIfInBounds_toArray, List.set_cons_zero, List.set_cons_succ]
      refine wpAnyU_one (i := 4) (by kernel_rfl) rfl (fun K hK => ?_)
      go_simp
      go_at_call 69
      (with_reducible refine HV3.out.mono ?_)
      rintro e w4 ⟨g4, m4, cp4, rfl, hm4, ho4, hc4, hgg4⟩
      have HX4 := Lib.hid (HX2.out.step ho4 hc4)
      have HCB4 := Lib.hid (cells_chg HCB.out.1 hc4 HCB.out.2)
      have hS4 : w4.cell? ⟨wr.heap.size, 0, none⟩ = some (.int .i64 pg) ∧ w4.cell? ⟨wr.heap.size, 1, none⟩ = some (.int .i64 ag) := ⟨cell_of_row _ _ 0 _ _ _ HCB4.out.1, cell_of_row _ _ 1 _ _ _ HCB4.out.1⟩
      have hv4 := r7varint w4 (w.heap.size + 1) _ _ ag (by omega) HX4.out.own HX4.out.size (by have := vi_length64 pg (by omega); have := HL0.out; simp only [List.length_append]; omega)
      have HV4 := Lib.hid hv4
      clear hm4 ho4 hc4 hgg4 hv4 HV3
      refine hK.out _ _ (fun _ => hS4) (fun _ => ?_)
      clear hK K
      try simp only [Act.put, List.getElem_toArray, List.getElem_cons_succ, List.getElem_cons_zero, List.setIfInBounds_toArray, List.set_cons_zero, List.set_cons_succ]
      refine wpAnyU_one (i := 8) (by kernel_rfl) rfl (fun K hK => ?_)
      go_simp
      go_at_call 69
      (with_reducible refine HV4.out.mono ?_)
      rintro e w7 ⟨g7, m7, cp7, rfl, HM7, ho7, hc7, hgg7⟩
      have HX7d := Lib.hid (HX4.out.step ho7 hc7)
      have hk7 := cells_chg HCB4.out.1 hc7 (by rw [← B1_bf]; exact HCB4.out.2)
      have HCB7d : Hid (w7.heap[wr.heap.size]? = some (.cells #[.int .i64 pg, .int .i64 ag, .bool pc.whole, .slice ba bn bc] 81 (0, 0)) ∧ ¬ bf (.slice (some ⟨g7, 0, none⟩) m7 cp7) wr.heap.size) := ⟨hk7.1, by rw [← B1_bf]; exact hk7.2⟩
      have hS7 : w7.cell? ⟨wr.heap.size, 0, none⟩ = some (.int .i64 pg) ∧ w7.cell? ⟨wr.heap.size, 1, none⟩ = some (.int .i64 ag) := ⟨cell_of_row _ _ 0 _ _ _ hk7.1, cell_of_row _ _ 1 _ _ _ hk7.1⟩
      have HL7 : Hid (m7 ≤ 4194500) := by
        unfold Hid
        have h1 := HM7.out
        have := vi_length64 pg (by omega)
        have := vi_length64 ag (by omega)
        have := HL0.out
        simp only [List.length_append] at h1
        omega
      clear ho7 hc7 hgg7 hk7 HV4
      refine hK.out _ _ (fun _ => hS7) (fun _ => ?_)
      clear hK K
      try simp only [Act.put, List.getElem_toArray, List.getElem_cons_succ, List.getElem_cons_zero, List.setIfInBounds_toArray, List.set_cons_zero, List.set_cons_succ]
      refine wpAnyU_take (i := 9) [] rfl (by kernel_rfl) (by kernel_rfl) (by kernel_rfl) (by kernel_rfl) (by kernel_rfl) (by kernel_rfl) (fun _ _ _ h => h) (Or.inl ⟨by rfl, (by intro W hSW; (try dsimp only at hSW); (try go_split_ands); go_simp <;> with_reducible rfl)⟩) hS7 ?_
      try simp only [Act.put, List.getElem_toArray, List.getElem_cons_succ, List.getElem_cons_zero, List.setIfInBounds_toArray, List.set_cons_zero, List.set_cons_succ]
      refine wpAnyU_done (by kernel_rfl) ?_ _
      clear hS0 hS4 hS7 HX4 HCB4 HX2 HCB hw64 hw65
      cases hw : pc.whole with
      | true =>
        have HEQ : Hid (bdK r (k + 1) = bdK r k ++ vi pg ++ vi ag ++ [1] ++ txt pc.b) := by
          unfold Hid
          have hwb : wb pc = 1 := by unfold wb; rw [hw]; rfl
          have e2 : r.cs[k]'HKR.out = pc := HPC2.out
          rw [bdK_succ r k HKR.out, e2, hwb, HPA.out.1, HPA.out.2, Int.toNat_natCast, Int.toNat_natCast]
          simp only [List.append_assoc]
        rw [hw] at HCB7d
        have q8 : w7.cell? ⟨wr.heap.size, 2, none⟩ = some (.bool true) := cell_of_row w7 _ 2 _ _ _ HCB7d.out.1
        obtain ⟨g8, cp8, w8, hr8, h81, h82, h83, h84, h85⟩ := append_byte (ty := 23) 1 (1 : Int) (by rfl) HX7d.out.own (by rw [← HM7.out]; have := HL7.out; omega) HX7d.out.size
        rw [← HM7.out] at hr8 h81
        have HX8 := Lib.hid (HX7d.out.step h81 (chg_byte h82 h85 h81.ownlt.2))
        have hk8 := cells_chg HCB7d.out.1 (chg_byte h82 h85 h81.ownlt.2) HCB7d.out.2
        have q9 : w8.cell? ⟨wr.heap.size, 3, none⟩ = some (.slice ba bn bc) := cell_of_row _ _ 3 _ _ _ hk8.1
        have hrd8 := ((HH.out.newer HB1.out.1 HX8.out.bl (Nat.le_succ _)).cs.rd _ (List.getElem_mem hkl))
        rw [HPC.out.1, HPC.out.2] at hrd8
        have ht8 := r7chunk w8 (w.heap.size + 1) _ _ _ _ (by rw [← HBN.out]; omega) HX8.out.own HX8.out.size (by rw [← HBN.out]; have := HL7.out; have := HM7.out; rw [List.length_append]; simp only [List.length_cons, List.length_nil]; omega) hrd8 (fun _ h => h)
        have HR8 := Lib.hid hr8
        have HT8 := Lib.hid ht8
        clear h81 h82 h83 h84 h85 hr8 ht8 hk8 hrd8 hw
        go_wp2_with (first
          | (at_builtin; refine wpList_append_eq rfl rfl HR8.out rfl rfl ?_; clear HR8)
          | (go_at_call 68; refine HT8.out.mono ?_; rintro e w9 ⟨g9, m9, cp9, rfl, hm9, ho9, hc9, hgg9⟩; have HX9 := Lib.hid (HX8.out.step ho9 hc9); clear hm9 ho9 hc9 hgg9))
        go_roundw
        case rel => exact ⟨k + 1, by have := HLT.out; omega, by go_num, by rw [HEQ.out]; exact HX9.out⟩
        case measure => have := HLT.out; simp [intOf]; omega
      | false =>
        have HEQ : Hid (bdK r (k + 1) = bdK r k ++ vi pg ++ vi ag ++ [0] ++ txt pc.b) := by
          unfold Hid
          have hwb : wb pc = 0 := by unfold wb; rw [hw]; rfl
          have e2 : r.cs[k]'HKR.out = pc := HPC2.out
          rw [bdK_succ r k HKR.out, e2, hwb, HPA.out.1, HPA.out.2, Int.toNat_natCast, Int.toNat_natCast]
          simp only [List.append_assoc]
        rw [hw] at HCB7d
        have q8 : w7.cell? ⟨wr.heap.size, 2, none⟩ = some (.bool false) := cell_of_row w7 _ 2 _ _ _ HCB7d.out.1
        obtain ⟨g8, cp8, w8, hr8, h81, h82, h83, h84, h85⟩ := append_byte (ty := 23) 0 (0 : Int) (by rfl) HX7d.out.own (by rw [← HM7.out]; have := HL7.out; omega) HX7d.out.size
        rw [← HM7.out] at hr8 h81
        have HX8 := Lib.hid (HX7d.out.step h81 (chg_byte h82 h85 h81.ownlt.2))
        have hk8 := cells_chg HCB7d.out.1 (chg_byte h82 h85 h81.ownlt.2) HCB7d.out.2
        have q9 : w8.cell? ⟨wr.heap.size, 3, none⟩ = some (.slice ba bn bc) := cell_of_row _ _ 3 _ _ _ hk8.1
        have hrd8 := ((HH.out.newer HB1.out.1 HX8.out.bl (Nat.le_succ _)).cs.rd _ (List.getElem_mem hkl))
        rw [HPC.out.1, HPC.out.2] at hrd8
        have ht8 := r7chunk w8 (w.heap.size + 1) _ _ _ _ (by rw [← HBN.out]; omega) HX8.out.own HX8.out.size (by rw [← HBN.out]; have := HL7.out; have := HM7.out; rw [List.length_append]; simp only [List.length_cons, List.length_nil]; omega) hrd8 (fun _ h => h)
        have HR8 := Lib.hid hr8
        have HT8 := Lib.hid ht8
        clear h81 h82 h83 h84 h85 hr8 ht8 hk8 hrd8 hw
        go_wp2_with (first
          | (at_builtin; refine wpList_append_eq rfl rfl HR8.out rfl rfl ?_; clear HR8)
          | (go_at_call 68; refine HT8.out.mono ?_; rintro e w9 ⟨g9, m9, cp9, rfl, hm9, ho9, hc9, hgg9⟩; have HX9 := Lib.hid (HX8.out.step ho9 hc9); clear hm9 ho9 hc9 hgg9))
        go_roundw
        case rel => exact ⟨k + 1, by have := HLT.out; omega, by go_num, by rw [HEQ.out]; exact HX9.out⟩
        case measure => have := HLT.out; simp [intOf]; omega
    · obtain rfl : k = n := by omega
      have HXE : Hid (OwnB wr (w.heap.size + 1) 5 (.slice ua un uc) (bodyR r)) := by
        have h9 := HSS.out.own
        rw [← HN.out, HH.out.len, bdK_all] at h9
        exact h9
      have hp : 0 < (bodyR r).length := by have := bodyR_pos r; omega
      obtain ⟨g9, c9, hv9, h91, -⟩ := HXE.out.at_ hp
      injection hv9 with e1 e2 e3
      subst e1 e2 e3
      have HBL := Lib.hid (HB1.out.1.trans (HSS.out.bl.mono (Nat.le_succ _)))
      clear hp HXE
      have HXE2 := Lib.hid (HSS.out.own)
      go_wp2
      go_ret
      refine ⟨_, _, _, rfl, rfl, ?_, HBL.out⟩
      have h9 := HXE2.out
      rw [← HN.out, HH.out.len, bdK_all] at h9
      exact ownsRow_base h9 (fun k hk => Nat.le_of_succ_le (h9.lt k hk).1)
end Mun
