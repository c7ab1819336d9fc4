/- Contract of what lays a record's body: the walk. -/
import Derived.Test.YtoblajbffnkkiaaRecB
import Derived.Deep.DeepCutAuto
set_option maxRecDepth 100000
set_option linter.unusedVariables false
set_option linter.unusedSimpArgs false
namespace Mun
open Go Go.RowKit
open Go.Proofs

/-- what body hands back -/
def BodyOut (w : World) (l : List UInt8) (e : Ending) (w' : World) : Prop :=
  ∃ g n c, e = .returned (.slice (some ⟨g, 0, none⟩) n c) ∧ Hid (n = l.length) ∧ OwnB w' w.heap.size 5 (.slice (some ⟨g, 0, none⟩) n c) l ∧ Below w.heap.size w w'

def St3 (r : PR) (B : Nat) (w1 wr : World) (u i : Value) : Prop :=
  ∃ k, ((k = 0 ∧ i = .int .i64 0) ∨ (k = 1 ∧ i = .int .i64 1) ∨ (k = 2 ∧ i = .int .i64 2) ∨ (k = 3 ∧ i = .int .i64 3)) ∧ BSt B w1 wr u (hdK r k)

set_option maxHeartbeats 1000000 in
theorem body_any {F : Foot} (w : World) (r : PR) (x : RV) (h : RecAt F w r x) (hg : goodR r = true) (hsz : szR r ≤ 4194304) :
    Calls Try.prog 34 #[rval r x] w (BodyOut w (bodyR r)) := by
  have hG := (goodR_iff r).1 hg
  have i0 : ∀ w, (Instr.index 112 (.agg #[.int .u64 r.tx, .int .u64 r.prev, .int .u64 r.next]) (.int .i64 0)).run Try.prog w = .ok (.int .u64 r.tx) w := fun _ => by kernel_rfl
  have i1 : ∀ w, (Instr.index 112 (.agg #[.int .u64 r.tx, .int .u64 r.prev, .int .u64 r.next]) (.int .i64 1)).run Try.prog w = .ok (.int .u64 r.prev) w := fun _ => by kernel_rfl
  have i2 : ∀ w, (Instr.index 112 (.agg #[.int .u64 r.tx, .int .u64 r.prev, .int .u64 r.next]) (.int .i64 2)).run Try.prog w = .ok (.int .u64 r.next) w := fun _ => by kernel_rfl
  have hd1 : Hid (∀ k, (hdK r k).length ≤ 31) := fun k => hdK_len r x h k
  have hd2 : Hid (∀ k, (bdK r k).length ≤ 4194400) := fun k => bdK_len r x h hg hsz k
  have hk0 : 0 ≤ r.kind := by omega
  have hk1 : r.kind < 256 := by omega
  obtain ⟨kd, hkd⟩ := Int.eq_ofNat_of_zero_le hk0
  have HKD := Lib.hid hkd
  unfold rval
  rw [hkd]
  obtain ⟨dn, hdn⟩ : ∃ dn, r.data.length = dn := ⟨_, rfl⟩
  obtain ⟨da, dc, hdv, _, _⟩ := h.data.form
  obtain ⟨ca, cc, hcv, hcc, hcm⟩ := h.cs.row.form
  rw [hdn] at hdv
  obtain ⟨n, hnn⟩ : ∃ n, x.cs.length = n := ⟨_, rfl⟩
  rw [hnn] at hcv
  rw [hdv, hcv]
  have HN := Lib.hid hnn
  have HDN := Lib.hid hdn
  have HH := Lib.hid h
  have HDV := Lib.hid hdv
  have HCV := Lib.hid hcv
  have HS := Lib.hid hsz
  have HGG := Lib.hid hG
  have hn1 : n ≤ 4194304 := by rw [← hnn, h.len]; unfold szR at hsz; omega
  have hdl : dn ≤ 4194304 := by rw [← hdn]; unfold szR at hsz; omega
  have hkk : (kd : Int) < 256 := by omega
  have hni : (n : Int) ≤ 4194304 := by omega
  have hni0 : (0 : Int) ≤ (n : Int) := by omega
  clear hG hkd hk0 hk1 hdn hdv hcv hcc hcm hnn h hsz hg
  obtain ⟨w1, hw1⟩ : ∃ w1, w.alloc (.cells #[.int .i64 kd, .int .u64 r.tx, .int .u64 r.prev, .int .u64 r.next, .slice da dn dc, .slice ca n cc] 26) = w1 := ⟨_, rfl⟩
  have hbx : w1.heap[w.heap.size]? = some (.cells #[.int .i64 kd, .int .u64 r.tx, .int .u64 r.prev, .int .u64 r.next, .slice da dn dc, .slice ca n cc] 26 (0, 0)) := by rw [← hw1]; exact heap_alloc_new w _
  have hs1 : w1.heap.size = w.heap.size + 1 := by rw [← hw1]; simp
  have hb1 : Below w.heap.size w w1 := by rw [← hw1]; exact (Below.refl _ _).alloc (Nat.le_refl _) _
  have c0 : w1.cell? ⟨w.heap.size, 0, none⟩ = some (.int .i64 kd) := cell_of_row w1 _ 0 _ _ _ hbx
  have hbx2 : (w1.alloc (.cells #[.int .u8 kd] 5)).heap[w.heap.size]? = some (.cells #[.int .i64 kd, .int .u64 r.tx, .int .u64 r.prev, .int .u64 r.next, .slice da dn dc, .slice ca n cc] 26 (0, 0)) := by rw [heap_alloc_old _ _ (by omega)]; exact hbx
  have c1 : (w1.alloc (.cells #[.int .u8 kd] 5)).cell? ⟨w.heap.size, 1, none⟩ = some (.int .u64 r.tx) := cell_of_row _ _ 1 _ _ _ hbx2
  have c2 : (w1.alloc (.cells #[.int .u8 kd] 5)).cell? ⟨w.heap.size, 2, none⟩ = some (.int .u64 r.prev) := cell_of_row _ _ 2 _ _ _ hbx2
  have c3 : (w1.alloc (.cells #[.int .u8 kd] 5)).cell? ⟨w.heap.size, 3, none⟩ = some (.int .u64 r.next) := cell_of_row _ _ 3 _ _ _ hbx2
  clear hbx2
  have HB1 := Lib.hid (And.intro hb1 (And.intro hbx hs1))
  have hst : BSt (w.heap.size + 1) w1 (w1.alloc (.cells #[.int .u8 kd] 5)) (.slice (some ⟨w1.heap.size, 0, none⟩) 1 1) (hdK r 0) := by
    refine ⟨?_, (Below.refl _ _).alloc (by omega) _, by omega⟩
    have := own_one w1 (UInt8.ofNat r.kind.toNat) kd (by rw [HKD.out, UInt8.toNat_ofNat']; simp; omega)
    rw [hs1] at this ⊢
    exact this
  have HST := Lib.hid hst
  have e1 : w.heap.size + 1 = w1.heap.size := hs1.symm
  have E1 := Lib.hid e1
  clear hst hb1 hbx hs1 e1
  go_enter Try.func34, Try.ntmps34
  go_upto_region 2 with (fail)
  clear hw1
  go_wp2
  clear c0 c1 c2 c3
  go_loopw [3, 20] (fun u i wr => St3 r (w.heap.size + 1) w1 wr u i) (fun _ i _ => 3 - (intOf i).toNat)
  case atStart => exact ⟨0, .inl ⟨rfl, rfl⟩, HST.out⟩
  case round =>
    obtain ⟨k, hk, hs⟩ := hrel
    obtain ⟨ua, un, uc, rfl⟩ := hs.form
    have HSS := Lib.hid hs
    have hbase := hs.size
    have hown := hs.own
    rcases hk with ⟨rfl, rfl⟩ | ⟨rfl, rfl⟩ | ⟨rfl, rfl⟩ | ⟨rfl, rfl⟩
    · have hv := varint_any wr (w.heap.size + 1) _ _ r.tx HH.out.tx hown hbase (by have := hd1.out 0; omega)
      have HV := Lib.hid hv
      clear hv hown hbase hs i1 i2
      go_wp2_with (go_at_call 61; refine HV.out.mono ?_; rintro e w' ⟨g, m, cp, rfl, hm, ho, hc, hgg⟩)
      have HX := Lib.hid (HSS.out.step ho hc)
      clear ho hc hm
      go_roundw
      case rel => exact ⟨1, .inr (.inl ⟨rfl, rfl⟩), HX.out⟩
      case measure => simp [intOf]
    · have hv := varint_any wr (w.heap.size + 1) _ _ r.prev HH.out.prev hown hbase (by have := hd1.out 1; omega)
      have HV := Lib.hid hv
      clear hv hown hbase hs i0 i2
      go_wp2_with (go_at_call 61; refine HV.out.mono ?_; rintro e w' ⟨g, m, cp, rfl, hm, ho, hc, hgg⟩)
      have HX := Lib.hid (HSS.out.step ho hc)
      clear ho hc hm
      go_roundw
      case rel => exact ⟨2, .inr (.inr (.inl ⟨rfl, rfl⟩)), HX.out⟩
      case measure => simp [intOf]
    · have hv := varint_any wr (w.heap.size + 1) _ _ r.next HH.out.next hown hbase (by have := hd1.out 2; omega)
      have HV := Lib.hid hv
      clear hv hown hbase hs i0 i1
      go_wp2_with (go_at_call 61; refine HV.out.mono ?_; rintro e w' ⟨g, m, cp, rfl, hm, ho, hc, hgg⟩)
      have HX := Lib.hid (HSS.out.step ho hc)
      clear ho hc hm
      go_roundw
      case rel => exact ⟨3, .inr (.inr (.inr ⟨rfl, rfl⟩)), HX.out⟩
      case measure => simp [intOf]
    · clear i0 i1 i2 hown hbase hs
      obtain ⟨w3, rfl⟩ : ∃ w3 : World, w3 = wr := ⟨_, rfl⟩
      have hsd := HSS.out.drew
      have HSD := Lib.hid hsd
      have hrd := (HH.out.newer HB1.out.1 hsd.bl (Nat.le_succ _)).data
      rw [HDV.out] at hrd
      have ht := text_any w3.drew (w.heap.size + 1) _ _ _ _ (by rw [HDN.out]; omega) hsd.own hsd.size (by have := hd1.out 3; rw [HDN.out]; omega) hrd (fun _ h => h)
      have HT := Lib.hid ht
      have hS0 : w3.drew.cell? ⟨w.heap.size, 4, none⟩ = some (.slice da dn dc) ∧ w3.drew.cell? ⟨w.heap.size, 5, none⟩ = some (.slice ca n cc) := ⟨hsd.boxcell HB1.out.2.1 (Nat.lt_succ_self _) 4, hsd.boxcell HB1.out.2.1 (Nat.lt_succ_self _) 5⟩
      clear hsd hrd ht
      go_upto_region 7 with (fail)
      have hw64 : IntKind.u64.wrap (n : Int) = (n : Int) := wrap_u64_nat n (by omega)
      refine wp_region_U (fun W => W.cell? ⟨w.heap.size, 4, none⟩ = some (.slice da dn dc) ∧ W.cell? ⟨w.heap.size, 5, none⟩ = some (.slice ca n cc)) [] (by kernel_rfl) ?_
      refine wpAnyU_take (i := 0) [3, 8, 9] rfl (by kernel_rfl) (by kernel_rfl) (by kernel_rfl) (by kernel_rfl) (by kernel_rfl) (by kernel_rfl) (fun _ _ _ h => h) (Or.inl ⟨by rfl, (by intro W hSW; (try dsimp only at hSW); (try go_split_ands); go_simp <;> with_reducible rfl)⟩) hS0 ?_
      try simp only [Act.put, List.setIfInBounds_toArray, List.set_cons_zero, List.set_cons_succ]
      refine wpAnyU_take (i := 1) [2, 3, 8, 9] rfl (by kernel_rfl) (by kernel_rfl) (by kernel_rfl) (by kernel_rfl) (by kernel_rfl) (by kernel_rfl) (fun _ _ _ h => h) (Or.inl ⟨by rfl, (by intro W hSW; (try dsimp only at hSW); (try go_split_ands); go_simp <;> with_reducible rfl)⟩) hS0 ?_
      try simp only [Act.put, List.setIfInBounds_toArray, List.set_cons_zero, List.set_cons_succ]
      refine wpAnyU_take (i := 2) [3, 8, 9] rfl (by kernel_rfl) (by kernel_rfl) (by kernel_rfl) (by kernel_rfl) (by kernel_rfl) (by kernel_rfl) (fun _ _ _ h => h) (Or.inl ⟨by rfl, (by intro W hSW; (try dsimp only at hSW); (try go_split_ands); go_simp <;> with_reducible rfl)⟩) hS0 ?_
      try simp only [Act.put, List.setIfInBounds_toArray, List.set_cons_zero, List.set_cons_succ]
      refine wpAnyU_take (i := 4) [5, 6, 7, 8, 9] rfl (by kernel_rfl) (by kernel_rfl) (by kernel_rfl) (by kernel_rfl) (by kernel_rfl) (by kernel_rfl) (fun _ _ _ h => h) (Or.inl ⟨by rfl, (by intro W hSW; (try dsimp only at hSW); (try go_split_ands); go_simp <;> with_reducible rfl)⟩) hS0 ?_
      try simp only [Act.put, List.setIfInBounds_toArray, List.set_cons_zero, List.set_cons_succ]
      refine wpAnyU_take (i := 5) [6, 7, 8, 9] rfl (by kernel_rfl) (by kernel_rfl) (by kernel_rfl) (by kernel_rfl) (by kernel_rfl) (by kernel_rfl) (fun _ _ _ h => h) (Or.inl ⟨by rfl, (by intro W hSW; (try dsimp only at hSW); (try go_split_ands); go_simp <;> with_reducible rfl)⟩) hS0 ?_
      try simp only [Act.put, List.setIfInBounds_toArray, List.set_cons_zero, List.set_cons_succ]
      refine wpAnyU_take (i := 6) [7, 8, 9] rfl (by kernel_rfl) (by kernel_rfl) (by kernel_rfl) (by kernel_rfl) (by kernel_rfl) (by kernel_rfl) (fun _ _ _ h => h) (Or.inl ⟨by rfl, (by intro W hSW; (try dsimp only at hSW); (try go_split_ands); go_simp <;> with_reducible rfl)⟩) hS0 ?_
      try simp only [Act.put, List.setIfInBounds_toArray, List.set_cons_zero, List.set_cons_succ]
      refine wpAnyU_take (i := 7) [8, 9] rfl (by kernel_rfl) (by kernel_rfl) (by kernel_rfl) (by kernel_rfl) (by kernel_rfl) (by kernel_rfl) (fun _ _ _ h => h) (Or.inl ⟨by rfl, (by intro W hSW; (try dsimp only at hSW); (try go_split_ands); go_simp <;> with_reducible rfl)⟩) hS0 ?_
      try simp only [Act.put, List.setIfInBounds_toArray, List.set_cons_zero, List.set_cons_succ]
      refine wpAnyU_one (i := 3) (by kernel_rfl) rfl (fun K hK => ?_)
      go_simp
      go_at_call 62
      (with_reducible refine HT.out.mono ?_)
      rintro e w4 ⟨g4, m4, cp4, rfl, hm4, ho4, hc4, hgg4⟩
      have HX4 := Lib.hid (HSD.out.step ho4 hc4)
      have hS4 : w4.cell? ⟨w.heap.size, 4, none⟩ = some (.slice da dn dc) ∧ w4.cell? ⟨w.heap.size, 5, none⟩ = some (.slice ca n cc) := ⟨HX4.out.boxcell HB1.out.2.1 (Nat.lt_succ_self _) 4, HX4.out.boxcell HB1.out.2.1 (Nat.lt_succ_self _) 5⟩
      have hv4 := varint_any w4 (w.heap.size + 1) _ _ n (by omega) HX4.out.own HX4.out.size (by have := hd1.out 3; have := vi_length64 r.data.length (by rw [HDN.out]; omega); simp only [txt, List.length_append]; rw [HDN.out] at *; omega)
      have HV4 := Lib.hid hv4
      clear hm4 ho4 hc4 hgg4 hv4 HT
      refine hK.out _ _ (fun _ => hS4) (fun _ => ?_)
      clear hK K
      refine wpAnyU_one (i := 8) (by kernel_rfl) rfl (fun K hK => ?_)
      go_simp
      go_at_call 61
      (with_reducible refine HV4.out.mono ?_)
      rintro e w5 ⟨g5, m5, cp5, rfl, hm5, ho5, hc5, hgg5⟩
      have HX5 := Lib.hid (HX4.out.step ho5 hc5)
      have hS5 : w5.cell? ⟨w.heap.size, 4, none⟩ = some (.slice da dn dc) ∧ w5.cell? ⟨w.heap.size, 5, none⟩ = some (.slice ca n cc) := ⟨HX5.out.boxcell HB1.out.2.1 (Nat.lt_succ_self _) 4, HX5.out.boxcell HB1.out.2.1 (Nat.lt_succ_self _) 5⟩
      clear hm5 ho5 hc5 hgg5 HV4
      refine hK.out _ _ (fun _ => hS5) (fun _ => ?_)
      clear hK K
      refine wpAnyU_take (i := 9) [] rfl (by kernel_rfl) (by kernel_rfl) (by kernel_rfl) (by kernel_rfl) (by kernel_rfl) (by kernel_rfl) (fun _ _ _ h => h) (Or.inl ⟨by rfl, (by intro W hSW; (try dsimp only at hSW); (try go_split_ands); go_simp <;> with_reducible rfl)⟩) hS5 ?_
      try simp only [Act.put, List.setIfInBounds_toArray, List.set_cons_zero, List.set_cons_succ]
      refine wpAnyU_done (by kernel_rfl) ?_ _
      have HX6 : Hid (BSt (w.heap.size + 1) w1 w5 (.slice (some ⟨g5, 0, none⟩) m5 cp5) (bdK r 0)) := by
        have h9 := HX5.out
        unfold Hid
        rw [bdK_zero, ← HH.out.len, HN.out]
        exact h9
      have q5 := hS5.2
      clear hS0 hS4 hS5 HX4 HX5 hw64
      go_wp2
      clear q5
      go_loopw [3, 39] (fun u i wr => ∃ k : Nat, k ≤ n ∧ i = .int .i64 k ∧ BSt (w.heap.size + 1) w1 wr u (bdK r k)) (fun _ i _ => n - (intOf i).toNat)
      case atStart => exact ⟨0, Nat.zero_le _, rfl, HX6.out⟩
      case round =>
        obtain ⟨k, hk, rfl, hs⟩ := hrel
        obtain ⟨ua, un, uc, rfl⟩ := hs.form
        have HSS := Lib.hid hs
        clear hs HX6
        by_cases hlt : k < n
        · have hkl : k < x.cs.length := by rw [HN.out]; exact hlt
          have hN := HH.out.newer HB1.out.1 HSS.out.bl (Nat.le_succ _)
          obtain ⟨g, off, c', hv, -, -, -, -, q0, q1, q2, q3⟩ := hN.cs.at_ k hkl
          rw [HCV.out] at hv
          injection hv with e1 e2 e3
          subst e1
          clear e2 e3
          have hrd := hN.cs.rd _ (List.getElem_mem hkl)
          obtain ⟨pc, hpc⟩ : ∃ pc, x.cs[k].1 = pc := ⟨_, rfl⟩
          obtain ⟨bw, hbw⟩ : ∃ bw, x.cs[k].2 = bw := ⟨_, rfl⟩
          rw [hpc] at q0 q1 q2 hrd
          rw [hbw] at q3 hrd
          obtain ⟨ba, bn, bc, rfl, HBN, -, -⟩ := hrd.formN
          have hget := HH.out.get k hkl
          have hkr : k < r.cs.length := by rw [← HH.out.len]; exact hkl
          have HKR := Lib.hid hkr
          have HPC2 : Hid (r.cs[k] = pc) := hget.trans hpc
          have hgc : GoodC pc := by rw [← HPC2.out]; exact HGG.out.2.2 _ (List.getElem_mem hkr)
          obtain ⟨pg, hpg⟩ := Int.eq_ofNat_of_zero_le hgc.p0
          obtain ⟨ag, hag⟩ := Int.eq_ofNat_of_zero_le hgc.a0
          rw [hpg] at q0
          rw [hag] at q1
          have p1 : (pg : Int) < 65536 := by have := hgc.p1; omega
          have p0 : (0 : Int) ≤ (pg : Int) := by omega
          have a1 : (ag : Int) ≤ 512 := by have := hgc.a1; omega
          have a0 : (0 : Int) ≤ (ag : Int) := by omega
          have hbn : bn ≤ 512 := by have := hgc.len; have := HBN.out; omega
          have HPA := Lib.hid (And.intro hpg hag)
          have HPC := Lib.hid (And.intro hpc hbw)
          have HLT := Lib.hid hlt
          obtain ⟨w2, hw2⟩ : ∃ w2, wr.alloc (.cells #[.int .i64 pg, .int .i64 ag, .bool pc.whole, .slice ba bn bc] 81) = w2 := ⟨_, rfl⟩
          have hs2 : BSt (w.heap.size + 1) w1 w2 (.slice ua un uc) (bdK r k) := by rw [← hw2]; exact HSS.out.grow ((Below.refl _ _).alloc (Nat.le_refl _) _)
          have hcb : w2.heap[wr.heap.size]? = some (.cells #[.int .i64 pg, .int .i64 ag, .bool pc.whole, .slice ba bn bc] 81 (0, 0)) := by rw [← hw2]; exact heap_alloc_new wr _
          have HCB : Hid (w2.drew.heap[wr.heap.size]? = some (.cells #[.int .i64 pg, .int .i64 ag, .bool pc.whole, .slice ba bn bc] 81 (0, 0)) ∧ ¬ bf (.slice ua un uc) wr.heap.size) := ⟨hcb, fun h => by have := (HSS.out.own.lt _ h).2; omega⟩
          have HX2 := Lib.hid hs2.drew
          have hL0 := hd2.out k
          have hv3 := varint_any w2.drew (w.heap.size + 1) _ _ pg (by omega) HX2.out.own HX2.out.size (by omega)
          have HV3 := Lib.hid hv3
          have hS0 : w2.drew.cell? ⟨wr.heap.size, 0, none⟩ = some (.int .i64 pg) ∧ w2.drew.cell? ⟨wr.heap.size, 1, none⟩ = some (.int .i64 ag) := ⟨cell_of_row _ _ 0 _ _ _ HCB.out.1, cell_of_row _ _ 1 _ _ _ HCB.out.1⟩
          have HL0 := Lib.hid hL0
          clear hN hrd hpc hbw hget hkr hgc hpg hag hs2 hcb hv3 hL0
          go_upto_region 11 with (fail)
          clear hw2 q0 q1 q2 q3
          have hw64 : IntKind.u64.wrap (pg : Int) = (pg : Int) := wrap_u64_nat pg (by omega)
          have hw65 : IntKind.u64.wrap (ag : Int) = (ag : Int) := wrap_u64_nat ag (by omega)
          refine wp_region_U (fun W => W.cell? ⟨wr.heap.size, 0, none⟩ = some (.int .i64 pg) ∧ W.cell? ⟨wr.heap.size, 1, none⟩ = some (.int .i64 ag)) [] (by kernel_rfl) ?_
          refine wpAnyU_take (i := 0) [4, 8, 9] rfl (by kernel_rfl) (by kernel_rfl) (by kernel_rfl) (by kernel_rfl) (by kernel_rfl) (by kernel_rfl) (fun _ _ _ h => h) (Or.inl ⟨by rfl, (by intro W hSW; (try dsimp only at hSW); (try go_split_ands); go_simp <;> with_reducible rfl)⟩) hS0 ?_
          try simp only [Act.put, List.setIfInBounds_toArray, List.set_cons_zero, List.set_cons_succ]
          refine wpAnyU_take (i := 1) [2, 3, 4, 8, 9] rfl (by kernel_rfl) (by kernel_rfl) (by kernel_rfl) (by kernel_rfl) (by kernel_rfl) (by kernel_rfl) (fun _ _ _ h => h) (Or.inl ⟨by rfl, (by intro W hSW; (try dsimp only at hSW); (try go_split_ands); go_simp <;> with_reducible rfl)⟩) hS0 ?_
          try simp only [Act.put, List.setIfInBounds_toArray, List.set_cons_zero, List.set_cons_succ]
          refine wpAnyU_take (i := 2) [3, 4, 8, 9] rfl (by kernel_rfl) (by kernel_rfl) (by kernel_rfl) (by kernel_rfl) (by kernel_rfl) (by kernel_rfl) (fun _ _ _ h => h) (Or.inl ⟨by rfl, (by intro W hSW; (try dsimp only at hSW); (try go_split_ands); go_simp <;> with_reducible rfl)⟩) hS0 ?_
          try simp only [Act.put, List.setIfInBounds_toArray, List.set_cons_zero, List.set_cons_succ]
          refine wpAnyU_take (i := 3) [4, 8, 9] rfl (by kernel_rfl) (by kernel_rfl) (by kernel_rfl) (by kernel_rfl) (by kernel_rfl) (by kernel_rfl) (fun _ _ _ h => h) (Or.inl ⟨by rfl, (by intro W hSW; (try dsimp only at hSW); (try go_split_ands); go_simp <;> with_reducible rfl)⟩) hS0 ?_
          try simp only [Act.put, List.setIfInBounds_toArray, List.set_cons_zero, List.set_cons_succ]
          refine wpAnyU_take (i := 5) [6, 7, 8, 9] rfl (by kernel_rfl) (by kernel_rfl) (by kernel_rfl) (by kernel_rfl) (by kernel_rfl) (by kernel_rfl) (fun _ _ _ h => h) (Or.inl ⟨by rfl, (by intro W hSW; (try dsimp only at hSW); (try go_split_ands); go_simp <;> with_reducible rfl)⟩) hS0 ?_
          try simp only [Act.put, List.setIfInBounds_toArray, List.set_cons_zero, List.set_cons_succ]
          refine wpAnyU_take (i := 6) [7, 8, 9] rfl (by kernel_rfl) (by kernel_rfl) (by kernel_rfl) (by kernel_rfl) (by kernel_rfl) (by kernel_rfl) (fun _ _ _ h => h) (Or.inl ⟨by rfl, (by intro W hSW; (try dsimp only at hSW); (try go_split_ands); go_simp <;> with_reducible rfl)⟩) hS0 ?_
          try simp only [Act.put, List.setIfInBounds_toArray, List.set_cons_zero, List.set_cons_succ]
          refine wpAnyU_take (i := 7) [8, 9] rfl (by kernel_rfl) (by kernel_rfl) (by kernel_rfl) (by kernel_rfl) (by kernel_rfl) (by kernel_rfl) (fun _ _ _ h => h) (Or.inl ⟨by rfl, (by intro W hSW; (try dsimp only at hSW); (try go_split_ands); go_simp <;> with_reducible rfl)⟩) hS0 ?_
          try simp only [Act.put, List.setIfInBounds_toArray, List.set_cons_zero, List.set_cons_succ]
          refine wpAnyU_one (i := 4) (by kernel_rfl) rfl (fun K hK => ?_)
          go_simp
          go_at_call 61
          (with_reducible refine HV3.out.mono ?_)
          rintro e w4 ⟨g4, m4, cp4, rfl, hm4, ho4, hc4, hgg4⟩
          have HX4 := Lib.hid (HX2.out.step ho4 hc4)
          have HCB4 := Lib.hid (cells_chg HCB.out.1 hc4 HCB.out.2)
          have hS4 : w4.cell? ⟨wr.heap.size, 0, none⟩ = some (.int .i64 pg) ∧ w4.cell? ⟨wr.heap.size, 1, none⟩ = some (.int .i64 ag) := ⟨cell_of_row _ _ 0 _ _ _ HCB4.out.1, cell_of_row _ _ 1 _ _ _ HCB4.out.1⟩
          have hv4 := varint_any w4 (w.heap.size + 1) _ _ ag (by omega) HX4.out.own HX4.out.size (by have := vi_length64 pg (by omega); have := HL0.out; simp only [List.length_append]; omega)
          have HV4 := Lib.hid hv4
          clear hm4 ho4 hc4 hgg4 hv4 HV3
          refine hK.out _ _ (fun _ => hS4) (fun _ => ?_)
          clear hK K
          refine wpAnyU_one (i := 8) (by kernel_rfl) rfl (fun K hK => ?_)
          go_simp
          go_at_call 61
          (with_reducible refine HV4.out.mono ?_)
          rintro e w7 ⟨g7, m7, cp7, rfl, HM7, ho7, hc7, hgg7⟩
          have HX7d := Lib.hid (HX4.out.step ho7 hc7).drew
          have hk7 := cells_chg HCB4.out.1 hc7 (by rw [← B1_bf]; exact HCB4.out.2)
          have HCB7d : Hid (w7.drew.heap[wr.heap.size]? = some (.cells #[.int .i64 pg, .int .i64 ag, .bool pc.whole, .slice ba bn bc] 81 (0, 0)) ∧ ¬ bf (.slice (some ⟨g7, 0, none⟩) m7 cp7) wr.heap.size) := ⟨hk7.1, by rw [← B1_bf]; exact hk7.2⟩
          have hS7 : w7.cell? ⟨wr.heap.size, 0, none⟩ = some (.int .i64 pg) ∧ w7.cell? ⟨wr.heap.size, 1, none⟩ = some (.int .i64 ag) := ⟨cell_of_row _ _ 0 _ _ _ hk7.1, cell_of_row _ _ 1 _ _ _ hk7.1⟩
          have HL7 : Hid (m7 ≤ 4194500) := by
            unfold Hid
            have h1 := HM7.out
            have := vi_length64 pg (by omega)
            have := vi_length64 ag (by omega)
            have := HL0.out
            simp only [List.length_append] at h1
            omega
          clear ho7 hc7 hgg7 hk7 HV4
          refine hK.out _ _ (fun _ => hS7) (fun _ => ?_)
          clear hK K
          refine wpAnyU_take (i := 9) [] rfl (by kernel_rfl) (by kernel_rfl) (by kernel_rfl) (by kernel_rfl) (by kernel_rfl) (by kernel_rfl) (fun _ _ _ h => h) (Or.inl ⟨by rfl, (by intro W hSW; (try dsimp only at hSW); (try go_split_ands); go_simp <;> with_reducible rfl)⟩) hS7 ?_
          try simp only [Act.put, List.setIfInBounds_toArray, List.set_cons_zero, List.set_cons_succ]
          refine wpAnyU_done (by kernel_rfl) ?_ _
          clear hS0 hS4 hS7 HX4 HCB4 HX2 HCB hw64 hw65
          cases hw : pc.whole with
          | true =>
            have HEQ : Hid (bdK r (k + 1) = bdK r k ++ vi pg ++ vi ag ++ [1] ++ txt pc.b) := by
              unfold Hid
              have hwb : wb pc = 1 := by unfold wb; rw [hw]; rfl
              have e2 : r.cs[k]'HKR.out = pc := HPC2.out
              rw [bdK_succ r k HKR.out, e2, hwb, HPA.out.1, HPA.out.2, Int.toNat_natCast, Int.toNat_natCast]
              simp only [List.append_assoc]
            rw [hw] at HCB7d
            have q8 : w7.cell? ⟨wr.heap.size, 2, none⟩ = some (.bool true) := cell_of_row w7 _ 2 _ _ _ HCB7d.out.1
            obtain ⟨g8, cp8, w8, hr8, h81, h82, h83, h84, h85⟩ := append_byte (ty := 23) 1 (1 : Int) (by rfl) HX7d.out.own (by rw [← HM7.out]; have := HL7.out; omega) HX7d.out.size
            rw [← HM7.out] at hr8 h81
            have HX8 := Lib.hid (HX7d.out.step h81 (chg_byte h82 h85 h81.ownlt.2))
            have hk8 := cells_chg HCB7d.out.1 (chg_byte h82 h85 h81.ownlt.2) HCB7d.out.2
            have HK8 := Lib.hid hk8
            have hS8 : w8.cell? ⟨wr.heap.size, 3, none⟩ = some (.slice ba bn bc) := cell_of_row _ _ 3 _ _ _ hk8.1
            have hS8a : (w7.drew.alloc (.cells #[.int .u8 1] 5)).cell? ⟨wr.heap.size, 3, none⟩ = some (.slice ba bn bc) := cell_of_row _ _ 3 _ _ _ ((heap_alloc_old _ _ (Array.getElem?_eq_some_iff.1 HCB7d.out.1).1).trans HCB7d.out.1)
            have hS7 : w7.drew.cell? ⟨wr.heap.size, 3, none⟩ = some (.slice ba bn bc) := cell_of_row _ _ 3 _ _ _ HCB7d.out.1
            have hrd8 := ((HH.out.newer HB1.out.1 HX8.out.bl (Nat.le_succ _)).cs.rd _ (List.getElem_mem hkl))
            rw [HPC.out.1, HPC.out.2] at hrd8
            have ht8 := text_any w8 (w.heap.size + 1) _ _ _ _ (by rw [← HBN.out]; omega) HX8.out.own HX8.out.size (by rw [← HBN.out]; have := HL7.out; have := HM7.out; rw [List.length_append]; simp only [List.length_cons, List.length_nil]; omega) hrd8 (fun _ h => h)
            have HR8 := Lib.hid hr8
            have HT8 := Lib.hid ht8
            clear h81 h82 h83 h84 h85 hr8 ht8 hk8 hrd8 hw
            go_upto_region 15 with (fail)
            refine wp_region_U (fun W => W.cell? ⟨wr.heap.size, 3, none⟩ = some (.slice ba bn bc)) [] (by kernel_rfl) ?_
            refine wpAnyU_take (i := 0) [3, 6, 7] rfl (by kernel_rfl) (by kernel_rfl) (by kernel_rfl) (by kernel_rfl) (by kernel_rfl) (by kernel_rfl) (fun _ _ _ h => h) (Or.inl ⟨by rfl, (by intro W hSW; (try dsimp only at hSW); (try go_split_ands); go_simp <;> with_reducible rfl)⟩) hS7 ?_
            try simp only [Act.put, List.setIfInBounds_toArray, List.set_cons_zero, List.set_cons_succ]
            refine wpAnyU_take (i := 1) [2, 3, 6, 7] rfl (by kernel_rfl) (by kernel_rfl) (by kernel_rfl) (by kernel_rfl) (by kernel_rfl) (by kernel_rfl) (fun _ _ _ h => h) (Or.inl ⟨by rfl, (by intro W hSW; (try dsimp only at hSW); (try go_split_ands); go_simp <;> with_reducible rfl)⟩) hS7 ?_
            try simp only [Act.put, List.setIfInBounds_toArray, List.set_cons_zero, List.set_cons_succ]
            refine wpAnyU_take (i := 4) [5, 6, 7] rfl (by kernel_rfl) (by kernel_rfl) (by kernel_rfl) (by kernel_rfl) (by kernel_rfl) (by kernel_rfl) (fun _ _ _ h => h) (Or.inl ⟨by rfl, (by intro W hSW; (try dsimp only at hSW); (try go_split_ands); go_simp <;> with_reducible rfl)⟩) hS7 ?_
            try simp only [Act.put, List.setIfInBounds_toArray, List.set_cons_zero, List.set_cons_succ]
            refine wpAnyU_take (i := 5) [6, 7] rfl (by kernel_rfl) (by kernel_rfl) (by kernel_rfl) (by kernel_rfl) (by kernel_rfl) (by kernel_rfl) (fun _ _ _ h => h) (Or.inl ⟨by rfl, (by intro W hSW; (try dsimp only at hSW); (try go_split_ands); go_simp <;> with_reducible rfl)⟩) hS7 ?_
            try simp only [Act.put, List.setIfInBounds_toArray, List.set_cons_zero, List.set_cons_succ]
            refine wpAnyU_one (i := 2) (by kernel_rfl) rfl (fun K hK => ?_)
            go_simp
            refine hK.out _ _ (fun _ => hS8a) (fun _ => ?_)
            clear hK K
            refine wpAnyU_one (i := 3) (by kernel_rfl) rfl (fun K hK => ?_)
            refine step_append_is rfl rfl HR8.out rfl rfl ?_
            refine hK.out _ _ (fun _ => hS8) (fun _ => ?_)
            clear hK K
            refine wpAnyU_one (i := 6) (by kernel_rfl) rfl (fun K hK => ?_)
            go_simp
            go_at_call 62
            (with_reducible refine HT8.out.mono ?_)
            rintro e w9 ⟨g9, m9, cp9, rfl, hm9, ho9, hc9, hgg9⟩
            have HX9 := Lib.hid (HX8.out.step ho9 hc9)
            have hk9 := cells_chg HK8.out.1 hc9 (by rw [← B1_bf]; exact HK8.out.2)
            have hS9 : w9.cell? ⟨wr.heap.size, 3, none⟩ = some (.slice ba bn bc) := cell_of_row _ _ 3 _ _ _ hk9.1
            clear hm9 ho9 hc9 hgg9 hk9
            refine hK.out _ _ (fun _ => hS9) (fun _ => ?_)
            clear hK K
            refine wpAnyU_take (i := 7) [] rfl (by kernel_rfl) (by kernel_rfl) (by kernel_rfl) (by kernel_rfl) (by kernel_rfl) (by kernel_rfl) (fun _ _ _ h => h) (Or.inl ⟨by rfl, (by intro W hSW; (try dsimp only at hSW); (try go_split_ands); go_simp <;> with_reducible rfl)⟩) hS9 ?_
            try simp only [Act.put, List.setIfInBounds_toArray, List.set_cons_zero, List.set_cons_succ]
            refine wpAnyU_done (by kernel_rfl) ?_ _
            clear hS7 hS8 hS8a hS9 q8
            go_wp2
            go_roundw
            case rel => exact ⟨k + 1, by have := HLT.out; omega, by go_num, by rw [HEQ.out]; exact HX9.out⟩
            case measure => have := HLT.out; simp [intOf]; omega
          | false =>
            have HEQ : Hid (bdK r (k + 1) = bdK r k ++ vi pg ++ vi ag ++ [0] ++ txt pc.b) := by
              unfold Hid
              have hwb : wb pc = 0 := by unfold wb; rw [hw]; rfl
              have e2 : r.cs[k]'HKR.out = pc := HPC2.out
              rw [bdK_succ r k HKR.out, e2, hwb, HPA.out.1, HPA.out.2, Int.toNat_natCast, Int.toNat_natCast]
              simp only [List.append_assoc]
            rw [hw] at HCB7d
            have q8 : w7.cell? ⟨wr.heap.size, 2, none⟩ = some (.bool false) := cell_of_row w7 _ 2 _ _ _ HCB7d.out.1
            obtain ⟨g8, cp8, w8, hr8, h81, h82, h83, h84, h85⟩ := append_byte (ty := 23) 0 (0 : Int) (by rfl) HX7d.out.own (by rw [← HM7.out]; have := HL7.out; omega) HX7d.out.size
            rw [← HM7.out] at hr8 h81
            have HX8 := Lib.hid (HX7d.out.step h81 (chg_byte h82 h85 h81.ownlt.2))
            have hk8 := cells_chg HCB7d.out.1 (chg_byte h82 h85 h81.ownlt.2) HCB7d.out.2
            have HK8 := Lib.hid hk8
            have hS8 : w8.cell? ⟨wr.heap.size, 3, none⟩ = some (.slice ba bn bc) := cell_of_row _ _ 3 _ _ _ hk8.1
            have hS8a : (w7.drew.alloc (.cells #[.int .u8 0] 5)).cell? ⟨wr.heap.size, 3, none⟩ = some (.slice ba bn bc) := cell_of_row _ _ 3 _ _ _ ((heap_alloc_old _ _ (Array.getElem?_eq_some_iff.1 HCB7d.out.1).1).trans HCB7d.out.1)
            have hS7 : w7.drew.cell? ⟨wr.heap.size, 3, none⟩ = some (.slice ba bn bc) := cell_of_row _ _ 3 _ _ _ HCB7d.out.1
            have hrd8 := ((HH.out.newer HB1.out.1 HX8.out.bl (Nat.le_succ _)).cs.rd _ (List.getElem_mem hkl))
            rw [HPC.out.1, HPC.out.2] at hrd8
            have ht8 := text_any w8 (w.heap.size + 1) _ _ _ _ (by rw [← HBN.out]; omega) HX8.out.own HX8.out.size (by rw [← HBN.out]; have := HL7.out; have := HM7.out; rw [List.length_append]; simp only [List.length_cons, List.length_nil]; omega) hrd8 (fun _ h => h)
            have HR8 := Lib.hid hr8
            have HT8 := Lib.hid ht8
            clear h81 h82 h83 h84 h85 hr8 ht8 hk8 hrd8 hw
            go_upto_region 15 with (fail)
            refine wp_region_U (fun W => W.cell? ⟨wr.heap.size, 3, none⟩ = some (.slice ba bn bc)) [] (by kernel_rfl) ?_
            refine wpAnyU_take (i := 0) [3, 6, 7] rfl (by kernel_rfl) (by kernel_rfl) (by kernel_rfl) (by kernel_rfl) (by kernel_rfl) (by kernel_rfl) (fun _ _ _ h => h) (Or.inl ⟨by rfl, (by intro W hSW; (try dsimp only at hSW); (try go_split_ands); go_simp <;> with_reducible rfl)⟩) hS7 ?_
            try simp only [Act.put, List.setIfInBounds_toArray, List.set_cons_zero, List.set_cons_succ]
            refine wpAnyU_take (i := 1) [2, 3, 6, 7] rfl (by kernel_rfl) (by kernel_rfl) (by kernel_rfl) (by kernel_rfl) (by kernel_rfl) (by kernel_rfl) (fun _ _ _ h => h) (Or.inl ⟨by rfl, (by intro W hSW; (try dsimp only at hSW); (try go_split_ands); go_simp <;> with_reducible rfl)⟩) hS7 ?_
            try simp only [Act.put, List.setIfInBounds_toArray, List.set_cons_zero, List.set_cons_succ]
            refine wpAnyU_take (i := 4) [5, 6, 7] rfl (by kernel_rfl) (by kernel_rfl) (by kernel_rfl) (by kernel_rfl) (by kernel_rfl) (by kernel_rfl) (fun _ _ _ h => h) (Or.inl ⟨by rfl, (by intro W hSW; (try dsimp only at hSW); (try go_split_ands); go_simp <;> with_reducible rfl)⟩) hS7 ?_
            try simp only [Act.put, List.setIfInBounds_toArray, List.set_cons_zero, List.set_cons_succ]
            refine wpAnyU_take (i := 5) [6, 7] rfl (by kernel_rfl) (by kernel_rfl) (by kernel_rfl) (by kernel_rfl) (by kernel_rfl) (by kernel_rfl) (fun _ _ _ h => h) (Or.inl ⟨by rfl, (by intro W hSW; (try dsimp only at hSW); (try go_split_ands); go_simp <;> with_reducible rfl)⟩) hS7 ?_
            try simp only [Act.put, List.setIfInBounds_toArray, List.set_cons_zero, List.set_cons_succ]
            refine wpAnyU_one (i := 2) (by kernel_rfl) rfl (fun K hK => ?_)
            go_simp
            refine hK.out _ _ (fun _ => hS8a) (fun _ => ?_)
            clear hK K
            refine wpAnyU_one (i := 3) (by kernel_rfl) rfl (fun K hK => ?_)
            refine step_append_is rfl rfl HR8.out rfl rfl ?_
            refine hK.out _ _ (fun _ => hS8) (fun _ => ?_)
            clear hK K
            refine wpAnyU_one (i := 6) (by kernel_rfl) rfl (fun K hK => ?_)
            go_simp
            go_at_call 62
            (with_reducible refine HT8.out.mono ?_)
            rintro e w9 ⟨g9, m9, cp9, rfl, hm9, ho9, hc9, hgg9⟩
            have HX9 := Lib.hid (HX8.out.step ho9 hc9)
            have hk9 := cells_chg HK8.out.1 hc9 (by rw [← B1_bf]; exact HK8.out.2)
            have hS9 : w9.cell? ⟨wr.heap.size, 3, none⟩ = some (.slice ba bn bc) := cell_of_row _ _ 3 _ _ _ hk9.1
            clear hm9 ho9 hc9 hgg9 hk9
            refine hK.out _ _ (fun _ => hS9) (fun _ => ?_)
            clear hK K
            refine wpAnyU_take (i := 7) [] rfl (by kernel_rfl) (by kernel_rfl) (by kernel_rfl) (by kernel_rfl) (by kernel_rfl) (by kernel_rfl) (fun _ _ _ h => h) (Or.inl ⟨by rfl, (by intro W hSW; (try dsimp only at hSW); (try go_split_ands); go_simp <;> with_reducible rfl)⟩) hS9 ?_
            try simp only [Act.put, List.setIfInBounds_toArray, List.set_cons_zero, List.set_cons_succ]
            refine wpAnyU_done (by kernel_rfl) ?_ _
            clear hS7 hS8 hS8a hS9 q8
            go_wp2
            go_roundw
            case rel => exact ⟨k + 1, by have := HLT.out; omega, by go_num, by rw [HEQ.out]; exact HX9.out⟩
            case measure => have := HLT.out; simp [intOf]; omega
        · obtain rfl : k = n := by omega
          have HXE : Hid (OwnB wr (w.heap.size + 1) 5 (.slice ua un uc) (bodyR r)) := by
            have h9 := HSS.out.own
            rw [← HN.out, HH.out.len, bdK_all] at h9
            exact h9
          have hp : 0 < (bodyR r).length := by have := bodyR_pos r; omega
          obtain ⟨g9, c9, hv9, h91, -⟩ := HXE.out.at_ hp
          injection hv9 with e1 e2 e3
          subst e1 e2 e3
          have HBL := Lib.hid (HB1.out.1.trans (HSS.out.bl.mono (Nat.le_succ _)))
          clear hp HXE
          have HXE2 := Lib.hid (HSS.out.own)
          go_wp2
          go_ret
          refine ⟨_, _, _, rfl, rfl, ?_, HBL.out⟩
          have h9 := HXE2.out
          rw [← HN.out, HH.out.len, bdK_all] at h9
          exact ownsRow_base h9 (fun k hk => Nat.le_of_succ_le (h9.lt k hk).1)
end Mun
