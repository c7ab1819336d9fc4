/- The law PageLayouts: the walk. -/
import Derived.Test.YtndeebchiodimaaHeadsW
import Derived.Test.YtndeebchiodimaaKnownPW
import Derived.Test.YtndeebchiodimaaPageT
import Derived.Test.YtndeebchiodimaaBits
set_option maxRecDepth 100000
set_option linter.unusedVariables false
set_option linter.unusedSimpArgs false
namespace Mun
open Go Go.RowKit
open Go.Proofs

theorem Like.cells {p q : PBytes} (h : Like p q) : cellsP q (Mun.cnt q) = cellsP p (Mun.cnt p) := by
  rw [h.cnt]
  unfold cellsP
  apply List.map_congr_left
  intro i hi
  exact h.cell i (List.mem_range.1 hi)

theorem layouts_no (W : World) (v : Value) (p : List UInt8) (n : Int) (hv : RdB NoF W v p) (hg : ¬ GoodP p) :
    Calls Try.prog 3 #[v, .int .i64 n] W fun e W' => e = .returned (.bool true) ∧ Below W.heap.size W W' := by
  have HAW := Lib.hid (awake5 W)
  have hs := fun w1 (hb : Below W.heap.size W w1) => compact_no w1 v p (RdB.below hv hb) hg
  have hgo := fun w1 (hb : Below W.heap.size W w1) => good_any w1 v p (RdB.below hv hb)
  rw [goodB_false hg] at hgo
  have HS := Lib.hid hs
  have HGO := Lib.hid hgo
  obtain ⟨a, m, c, rfl, HN, -, -⟩ := hv.formN
  clear hv hs hgo hg HN
  go_enter Try.func3, Try.ntmps3
  go_wp2_with fail
  refine HAW.out.mono ?_
  rintro e w1 ⟨rfl, hb1⟩
  have HB1 := Lib.hid hb1
  clear hb1
  go_wp2_with fail
  refine (HS.out w1 HB1.out).mono ?_
  rintro e w2 ⟨rfl, hb2⟩
  have HB2 := Lib.hid (HB1.out.trans (hb2.mono HB1.out.size))
  clear hb2
  go_wp2_with fail
  refine (HGO.out w2 HB2.out).mono ?_
  rintro e w3 ⟨rfl, hb3⟩
  have HB3 := Lib.hid (HB2.out.trans (hb3.mono HB2.out.size))
  clear hb3
  go_wp2
  go_ret
  exact ⟨rfl, HB3.out⟩

structure LayP (p q : PBytes) (m : Nat) (f : Int) : Prop where
  gp : GoodP p
  gq : GoodP q
  ap : AnewOk p
  aq : AnewOk q
  eq : anewP p = q
  er : anewP q = q
  cells : cellsP q (cnt q) = cellsP p (cnt p)
  fp : freeP p = f
  fq : freeP q = f
  cp : cnt p = m
  cq : cnt q = m
  room : (lowP q : Int) = 26 + 4 * (m : Int) + f

theorem lay_p {p : PBytes} (hg : GoodP p) : ∃ q m f, LayP p q m f := by
  have hl := anew_like hg
  have hr := anew_room hg
  refine ⟨_, _, _, hg, hl.good, good_anewOk hg, good_anewOk hl.good, rfl, anew_twice hg, hl.cells, rfl, hl.free, rfl, hl.cnt, ?_⟩
  rw [hl.free, hl.cnt] at hr
  exact hr

set_option maxHeartbeats 8000000 in
theorem layouts_yes (W : World) (v : Value) (p : List UInt8) (n : Int) (hv : RdB NoF W v p) (hg : GoodP p) :
    Calls Try.prog 3 #[v, .int .i64 n] W fun e W' => e = .returned (.bool true) ∧ Below W.heap.size W W' := by
  have HAW := Lib.hid (awake5 W)
  have HV := Lib.hid hv
  obtain ⟨q, m, f, hh⟩ := lay_p hg
  have HH := Lib.hid hh
  have hfb : f ≤ 486 := by rw [← hh.fp]; unfold freeP; omega
  have hf0 : 0 ≤ f := by have := hh.room; have := hh.gq.fit; have := hh.cq; omega
  obtain ⟨a, nn, c, rfl, HN, -, -⟩ := hv.formN
  obtain ⟨k, hk, hkb⟩ := and_511 n
  clear hv hg hh HN
  go_enter Try.func3, Try.ntmps3
  go_wp2_with fail
  refine HAW.out.mono ?_
  rintro e w1 ⟨rfl, hb1⟩
  have hs := compact_yes w1 _ p (RdB.below HV.out hb1) HH.out.gp HH.out.ap
  rw [HH.out.eq] at hs
  have HB1 := Lib.hid hb1
  have HS := Lib.hid hs
  clear hb1 hs
  go_wp2_with fail
  refine HS.out.mono ?_
  rintro e w2 ⟨g, rfl, hpg, hgs, hb⟩
  have hB := HB1.out.trans (hb.mono HB1.out.size)
  have hs := cells_yes w2 _ p (RdB.below HV.out hB) HH.out.gp
  have HB2 := Lib.hid (And.intro hB hpg)
  have HS2 := Lib.hid hs
  clear hpg hgs hb hs hB HS
  go_wp2_with fail
  refine HS2.out.mono ?_
  rintro e w3 ⟨u3, gs3, rfl, hc3, hb⟩
  have hB := HB2.out.1.trans (hb.mono HB2.out.1.size)
  have hpg := HB2.out.2.below hb
  have hs := cells_yes (F := NoF) w3 _ q (hpg.rd (noF _)) HH.out.gq
  rw [HH.out.cells] at hs
  have hl3 := hc3.lists (cells_max HH.out.gp)
  obtain ⟨a3, n3, c3, rfl, HN3, -, -⟩ := hl3.form
  have HB3 := Lib.hid (And.intro hB (And.intro hpg hl3))
  have HS3 := Lib.hid hs
  clear hpg hb hs hB HS2 hc3 hl3
  go_wp2_with fail
  refine HS3.out.mono ?_
  rintro e w4 ⟨u4, gs4, rfl, hc4, hb⟩
  have hB := HB3.out.1.trans (hb.mono HB3.out.1.size)
  have hpg := HB3.out.2.1.below hb
  have hl3 := HB3.out.2.2.below hb
  have hl4 := hc4.lists (cells_max HH.out.gp)
  obtain ⟨a4, n4, c4, rfl, HN4, -, -⟩ := hl4.form
  have hs := pfree_yes w4 _ p (RdB.below HV.out hB) HH.out.gp
  rw [HH.out.fp] at hs
  have hn4 : n4 = m := by rw [HN4.out, cellsP_length, HH.out.cp]
  subst hn4
  have HB4 := Lib.hid (And.intro hB (And.intro hpg (And.intro hl3 hl4)))
  have HS4 := Lib.hid hs
  clear hpg hb hs hB HS3 hc4 hl3 hl4
  go_wp2_with fail
  refine HS4.out.mono ?_
  rintro e w5 ⟨rfl, hb⟩
  have hB := HB4.out.1.trans (hb.mono HB4.out.1.size)
  have hpg := HB4.out.2.1.below hb
  have hs := pfree_yes (F := NoF) w5 _ q (hpg.rd (noF _)) HH.out.gq
  rw [HH.out.fq] at hs
  have HB5 := Lib.hid (And.intro hB (And.intro hpg (And.intro (HB4.out.2.2.1.below hb) (HB4.out.2.2.2.below hb))))
  have HS5 := Lib.hid hs
  clear hpg hb hs hB HS4 HB4
  go_wp2_with fail
  refine HS5.out.mono ?_
  rintro e w6 ⟨rfl, hb⟩
  have hB := HB5.out.1.trans (hb.mono HB5.out.1.size)
  have hpg := HB5.out.2.1.below hb
  have hs := compact_yes (F := NoF) w6 _ q (hpg.rd (noF _)) HH.out.gq HH.out.aq
  rw [HH.out.er] at hs
  have HB6 := Lib.hid (And.intro hB (And.intro hpg (And.intro (HB5.out.2.2.1.below hb) (HB5.out.2.2.2.below hb))))
  have HS6 := Lib.hid hs
  clear hpg hb hs hB HS5 HB5
  go_wp2_with fail
  refine HS6.out.mono ?_
  rintro e w7 ⟨g7, rfl, hpg7, hgs, hb⟩
  have hB := HB6.out.1.trans (hb.mono HB6.out.1.size)
  have hpg := HB6.out.2.1.below hb
  have hs := lists_any w7 _ _ _ _ _ _ (HB6.out.2.2.1.below hb) (HB6.out.2.2.2.below hb) true (by simp)
  have cv1 := str_bytes (F := NoF) (hpg.rd (noF _))
  have cv2 := str_bytes (F := NoF) (hpg7.rd (noF _))
  have HB7 := Lib.hid (And.intro hB hpg)
  have HS7 := Lib.hid hs
  have tq : ((strOf q).toList == (strOf q).toList) = true := by simp
  have tq2 : ((strOf q).toList != (strOf q).toList) = false := by simp
  clear hpg hpg7 hgs hb hs hB HS6 HB6
  go_wp2_with fail
  refine HS7.out.mono ?_
  rintro e w8 ⟨rfl, hb⟩
  have hB := HB7.out.1.trans (hb.mono HB7.out.1.size)
  have hpg := HB7.out.2.below hb
  clear cv1 cv2 HS7
  by_cases hy : f < 4
  · have hs := insert_full (F := NoF) w8 _ _ q [] 0 (hpg.rd (noF _)) (RdB.nil _ _) HH.out.gq (Nat.zero_le _) (by rw [HH.out.fq]; simpa using hy) (by simp)
    have HB8 := Lib.hid hB
    have HS8 := Lib.hid hs
    clear hpg hs hB hb
    go_wp2_with fail
    refine HS8.out.mono ?_
    rintro e w9 ⟨rfl, hb⟩
    have HB9 := Lib.hid (HB8.out.trans (hb.mono HB8.out.size))
    clear hb
    go_wp2
    go_ret
    exact ⟨rfl, HB9.out⟩
  · have hmk : (Instr.makeSlice 22 (.int .i64 (k : Int)) (.int .i64 (k : Int))).run Try.prog w8 = .ok (.slice (some ⟨w8.heap.size, 0, none⟩) k k) (w8.alloc (bobj (zer k))) := made w8 k k rfl (by omega)
    have hb2 : Below w8.heap.size w8 (w8.alloc (bobj (zer k))) := (Below.refl _ _).alloc (Nat.le_refl _) _
    have hmb : n4 ≤ 121 := by have := HH.out.gq.fit; have := HH.out.gq.low; have := HH.out.cq; omega
    by_cases hfull : f - 4 < (k : Int)
    · have hs := insert_full (F := NoF) _ _ _ q (zer k) n4 ((hpg.below hb2).rd (noF _)) (made_rd w8 k (by omega)) HH.out.gq (by rw [HH.out.cq]; exact Nat.le_refl _) (by rw [HH.out.fq, zer_length]; omega) (by rw [zer_length]; omega)
      have hff : (k : Int) > f - 4 := hfull
      have HB8 := Lib.hid (hB.trans (hb2.mono hB.size))
      have HS8 := Lib.hid hs
      clear hpg hs hB hb hb2
      go_wp2_with fail
      refine HS8.out.mono ?_
      rintro e w9 ⟨rfl, hb⟩
      have HB9 := Lib.hid (HB8.out.trans (hb.mono HB8.out.size))
      clear hb
      go_wp2
      go_ret
      exact ⟨rfl, HB9.out⟩
    · have hs := insert_yes (F := NoF) _ _ _ q (zer k) n4 ((hpg.below hb2).rd (noF _)) (made_rd w8 k (by omega)) HH.out.gq (by rw [HH.out.cq]; exact Nat.le_refl _) (by rw [HH.out.fq, zer_length]; omega)
      have htl := ins_tail HH.out.gq (i := n4) (c := zer k) (by rw [HH.out.cq]; exact Nat.le_refl _) (by rw [zer_length, HH.out.cq]; have := HH.out.room; omega)
      have hff : ¬ (k : Int) > f - 4 := hfull
      obtain ⟨s, hss⟩ : ∃ s, insP q n4 (zer k) = s := ⟨_, rfl⟩
      rw [hss] at hs htl
      have HTL := Lib.hid htl
      have HB8 := Lib.hid (And.intro (hB.trans (hb2.mono hB.size)) (hpg.below hb2))
      have HS8 := Lib.hid hs
      clear hpg hs hB hb hb2 htl hss
      go_wp2_with fail
      refine HS8.out.mono ?_
      rintro e w9 ⟨g9, rfl, hpg9, hgs, hb⟩
      have hB := HB8.out.1.trans (hb.mono HB8.out.1.size)
      have hpg := HB8.out.2.below hb
      have hlo := HH.out.gq.low
      obtain ⟨lo, hlw⟩ : ∃ lo, lowP q = lo := ⟨_, rfl⟩
      rw [hlw] at hlo
      obtain ⟨b1, d1, hsl1, hrd1⟩ := slice_rest (hpg9.rd (F := NoF) (noF _)) lo (lo : Int) rfl hlo hpg9.2.symm
      obtain ⟨b2, d2, hsl2, hrd2⟩ := slice_rest (hpg.rd (F := NoF) (noF _)) lo (lo : Int) rfl hlo hpg.2.symm
      have htl := HTL.out
      rw [hlw] at htl
      rw [htl] at hrd1
      obtain ⟨x, hx⟩ : ∃ x, q.drop lo = x := ⟨_, rfl⟩
      rw [hx] at hrd1 hrd2
      have cv1 : ∀ j, (convert 22 9 (.slice b1 (512 - lo) d1)).run Try.prog (w9.drewN j) = .ok (.string (strOf x)) (w9.drewN j) := fun j => str_bytes (F := NoF) (w := w9.drewN j) hrd1
      have cv2 : ∀ j, (convert 22 9 (.slice b2 (512 - lo) d2)).run Try.prog (w9.drewN j) = .ok (.string (strOf x)) (w9.drewN j) := fun j => str_bytes (F := NoF) (w := w9.drewN j) hrd2
      have tx : ((strOf x).toList == (strOf x).toList) = true := by simp
      have HLW := Lib.hid hlw
      have HB9 := Lib.hid (And.intro hB hpg)
      have hlq : ∀ j, Calls Try.prog 18 #[.slice (some ⟨g, 0, none⟩) 512 512] (w9.drewN j) fun e w' => e = .returned (.int .i64 (lo : Int)) ∧ w9.drewN j = w' := fun j => by
        have h := reflow_any (F := NoF) (w9.drewN j) _ q (RdB.drewN (HB9.out.2.rd (noF _)) j) (by rw [HH.out.gq.len]; decide)
        rw [HLW.out] at h
        exact h
      have HLQ := Lib.hid hlq
      have hloi : (lo : Int) ≤ 512 := by omega
      have hlo0 : (0 : Int) ≤ (lo : Int) := by omega
      clear hpg hpg9 hgs hb hB hrd1 hrd2 htl hx hlw HS8 HB8 hmk hlq
      go_wp2
      go_quiet ((go_at_call 18; exact quiet_eq (HLQ.out _)))
      go_wp2
      go_ret
      exact ⟨rfl, below_drewN HB9.out.1 _⟩

theorem layouts_ok (W : World) (v : Value) (p : List UInt8) (n : Int) (hv : RdB NoF W v p) :
    Calls Try.prog 3 #[v, .int .i64 n] W fun e W' => e = .returned (.bool true) ∧ Below W.heap.size W W' := by
  by_cases hg : GoodP p
  · exact layouts_yes W v p n hv hg
  · exact layouts_no W v p n hv hg
end Mun
