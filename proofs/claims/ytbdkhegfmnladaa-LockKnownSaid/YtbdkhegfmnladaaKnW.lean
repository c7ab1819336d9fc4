/- The walk of LockKnown. -/
import Derived.Test.YtbdkhegfmnladaaKnP
import Derived.Test.YtbdkhegfmnladaaTbU
import Derived.Test.YtbdkhegfmnladaaLockG
set_option maxRecDepth 100000
set_option linter.unusedVariables false
set_option linter.unusedSimpArgs false
namespace Mun
open Go Go.RowKit
open Go.Proofs

theorem gr_one {w : World} {B : Nat} {v : Value} {s : ByteArray} {m : Int} (h : w.ownsRow B 33 2 v 1 (grC [(s, m)])) : ∃ g c, v = .slice (some ⟨g, 0, none⟩) 1 c ∧ w.cell? ⟨g, 0, none⟩ = some (.string s) ∧ w.cell? ⟨g, 1, none⟩ = some (.int .i64 m) := by
  rcases h.2 with ⟨-, h0⟩ | ⟨g, cap, cur, rfl, -, hg, h1, h2, h3, h4⟩
  · cases h0
  · have h5 := fun (k : Nat) => congrArg (fun (l : List Value) => l[k]?) h4
    refine ⟨g, cap, rfl, ?_, ?_⟩
    · have := h5 0
      rw [cell_of_row w g 0 cur _ _ hg]
      simpa [grC] using this
    · have := h5 1
      rw [cell_of_row w g 1 cur _ _ hg]
      simpa [grC] using this
theorem held_t5 {w w' : World} {c : Nat} {e : Ending} (h : HePost w (T4.freed 2) 1 c e w') : ∃ g cc, e = .returned (.slice (some ⟨g, 0, none⟩) 1 cc) ∧ w'.cell? ⟨g, 0, none⟩ = some (.string kA) ∧ w'.cell? ⟨g, 1, none⟩ = some (.int .i64 4) ∧ Below w.heap.size w w' := by
  obtain ⟨v, ns, rfl, -, hn, hm, -, hrow, hb⟩ := h
  have hns : ns = [kA] := one_of hn (fun x => by
    rw [hm, t5_H]
    by_cases e : x = kA
    · simp [e]
    · simp [e])
  subst hns
  have hl : HeldOf (T4.freed 2) 1 [kA] = [(kA, 4)] := by
    unfold HeldOf
    simp [t5_H]
  rw [hl] at hrow
  obtain ⟨g, c, rfl, h1, h2⟩ := gr_one hrow
  exact ⟨g, c, rfl, h1, h2, hb⟩
theorem built1 (w : World) (a : Int × Int) : (w.alloc (.cells #[.int .u64 a.1] 29)).ownsRow w.heap.size 29 1 (.slice (some ⟨w.heap.size, 0, none⟩) 1 1) [a].length (ov [a]) :=
  ⟨rfl, .inr ⟨w.heap.size, 1, _, rfl, Nat.le_refl _, heap_alloc_new w _, Nat.le_refl _, by unfold maxLen; omega, by simp, by simp [ov]⟩⟩
theorem built2 (w : World) (a b : Int × Int) : (w.alloc (.cells #[.int .u64 a.1, .int .u64 b.1] 29)).ownsRow w.heap.size 29 1 (.slice (some ⟨w.heap.size, 0, none⟩) 2 2) [a, b].length (ov [a, b]) :=
  ⟨rfl, .inr ⟨w.heap.size, 2, _, rfl, Nat.le_refl _, heap_alloc_new w _, Nat.le_refl _, by unfold maxLen; omega, by simp, by simp [ov]⟩⟩

set_option maxHeartbeats 4000000 in
theorem known14 (w : World) : Calls Try.prog 9 #[] w fun e w' => e = .returned (.bool true) ∧ Below w.heap.size w w' := by
  have hnew := sd_new w
  have HNEW := Lib.hid hnew
  clear hnew
  go_enter Try.func9, Try.ntmps9
  go_wp2_with fail
  refine HNEW.out.mono ?_
  rintro e w0 ⟨t0, rfl, hb0, ht0⟩
  obtain ⟨T, hT⟩ : ∃ T, t0.T = T := ⟨_, rfl⟩
  rw [hT] at ht0 ⊢
  have haw := awake14 w0
  have HAW := Lib.hid haw
  have H0 := Lib.hid ht0
  clear HNEW hT hb0 ht0 haw
  go_wp2_with fail
  refine HAW.out.mono ?_
  rintro e w1 ⟨rfl, hb1⟩
  have H1 := Lib.hid (H0.out.below hb1)
  clear hb1 HAW H0
  have hq1 := H1.out.ask (by decide) 1 kA 3 (by decide)
  rw [t1_ask] at hq1
  have HQ1 := Lib.hid hq1
  clear hq1
  go_wp2_with fail
  refine HQ1.out.mono ?_
  rintro e w2 ⟨rfl, t2, -, hs2⟩
  have H2 := Lib.hid hs2
  clear hs2 HQ1 H1
  have hq2 := H2.out.ask (by decide) 2 kA 3 (by decide)
  rw [t2_ask] at hq2
  have HQ2 := Lib.hid hq2
  clear hq2
  go_wp2_with fail
  refine HQ2.out.mono ?_
  rintro e w3 ⟨rfl, t3, -, hs3⟩
  have H3 := Lib.hid hs3
  clear hs3 HQ2 H2
  have hq3 := H3.out.ask (by decide) 1 kA 4 (by decide)
  rw [t3_ask] at hq3
  have HQ3 := Lib.hid hq3
  clear hq3
  go_wp2_with fail
  refine HQ3.out.mono ?_
  rintro e w4 ⟨rfl, t4, -, hs4⟩
  have H4 := Lib.hid hs4
  clear hs4 HQ3 H3
  have hq4 := H4.out.ask (by decide) 3 kA 1 (by decide)
  rw [t4_ask] at hq4
  have HQ4 := Lib.hid hq4
  clear hq4
  go_wp2_with fail
  refine HQ4.out.mono ?_
  rintro e w5 ⟨rfl, t5, -, hs5⟩
  have H5 := Lib.hid hs5
  clear hs5 HQ4 H4
  have hq5 := H5.out.queue (by decide) kA
  rw [t4_Q] at hq5
  have HQ5 := Lib.hid hq5
  clear hq5
  go_wp2_with fail
  refine HQ5.out.mono ?_
  rintro e w6 ⟨v6, rfl, hrow6, hb6⟩
  obtain ⟨w7, hw7⟩ : ∃ w7, w6.alloc (.cells #[.int .u64 1, .int .u64 3] 29) = w7 := ⟨_, rfl⟩
  have hb7 : Below w6.heap.size w6 w7 := by rw [← hw7]; exact (Below.refl _ _).alloc (Nat.le_refl _) _
  have hr7 := built2 w6 (1, 4) (3, 1)
  simp only at hr7
  rw [hw7] at hr7
  have hnu := numbers_rows (rowU_keep hrow6 (fun k hk => hb7.block k (hrow6.lt k hk).2)) hr7 (by decide)
  have HNU := Lib.hid hnu
  have H7 := Lib.hid ((H5.out.below hb6).below hb7)
  clear hrow6 hb6 hb7 hr7 hnu HQ5 H5
  go_wp2_with fail
  try rw [hw7]
  clear hw7
  refine HNU.out.mono ?_
  rintro e w8 ⟨rfl, hb8⟩
  have H8 := Lib.hid (H7.out.below hb8)
  clear hb8 HNU H7
  have hf := H8.out.free (by decide) 2
  have HF := Lib.hid hf
  clear hf
  go_wp2_with fail
  refine HF.out.mono ?_
  rintro e w9 ⟨v9, ns, t9, rfl, -, hn9, hm9, -, hs9, hrow9, -, -⟩
  rw [t4_popped hn9 hm9] at hrow9
  obtain ⟨wa, hwa⟩ : ∃ wa, w9.alloc (.cells #[.int .u64 1] 29) = wa := ⟨_, rfl⟩
  have hba : Below w9.heap.size w9 wa := by rw [← hwa]; exact (Below.refl _ _).alloc (Nat.le_refl _) _
  have hra := built1 w9 (1, 4)
  simp only at hra
  rw [hwa] at hra
  have hnu := numbers_rows (rowU_keep hrow9 (fun k hk => hba.block k (hrow9.lt k hk).2)) hra (by decide)
  have HNU := Lib.hid hnu
  have HA := Lib.hid (hs9.below hba)
  clear hn9 hm9 hs9 hrow9 hba hra hnu HF H8
  go_wp2_with fail
  try rw [hwa]
  clear hwa
  refine HNU.out.mono ?_
  rintro e wb ⟨rfl, hbb⟩
  have HB := Lib.hid (HA.out.below hbb)
  clear hbb HNU HA
  have hh := HB.out.held (by decide) 1
  have HH := Lib.hid hh
  clear hh
  go_wp2_with fail
  refine HH.out.mono ?_
  intro e wC hp
  obtain ⟨gC, cC, rfl, sC, mC, bC⟩ := held_t5 hp
  have HC := Lib.hid (HB.out.below bC)
  clear hp bC HH HB
  clear sC mC
  have hh := HC.out.held (by decide) 1
  have HH := Lib.hid hh
  clear hh
  go_wp2_with fail
  refine HH.out.mono ?_
  intro e wD hp
  obtain ⟨gD, cD, rfl, sD, mD, bD⟩ := held_t5 hp
  have HD := Lib.hid (HC.out.below bD)
  clear hp bD HH HC
  have hh := HD.out.held (by decide) 1
  have HH := Lib.hid hh
  clear hh
  go_wp2_with fail
  refine HH.out.mono ?_
  intro e wE hp
  obtain ⟨gE, cE, rfl, sE, mE, bE⟩ := held_t5 hp
  have HE := Lib.hid (HD.out.below bE)
  clear hp bE HH HD
  have hss : ((kA : ByteArray).toList == (kA : ByteArray).toList) = true := by simp
  have hnew := sd_new wE
  have HNEW := Lib.hid hnew
  clear hnew
  go_wp2_with fail
  clear sE mE sD mD
  refine HNEW.out.mono ?_
  rintro e x0 ⟨u0, rfl, hb0, hu0⟩
  obtain ⟨U, hU⟩ : ∃ U, u0.T = U := ⟨_, rfl⟩
  rw [hU] at hu0 ⊢
  have HB0 := Lib.hid (HE.out.bl)
  have H1 := Lib.hid hu0
  clear HNEW hU hb0 hu0 HE
  have hq1 := H1.out.ask (by decide) 1 kB 4 (by decide)
  rw [u1_ask] at hq1
  have HQ1 := Lib.hid hq1
  clear hq1
  go_wp2_with fail
  refine HQ1.out.mono ?_
  rintro e x1 ⟨rfl, u1, -, hs2⟩
  have H2 := Lib.hid hs2
  clear hs2 HQ1 H1
  have hq2 := H2.out.ask (by decide) 2 kC 4 (by decide)
  rw [u2_ask] at hq2
  have HQ2 := Lib.hid hq2
  clear hq2
  go_wp2_with fail
  refine HQ2.out.mono ?_
  rintro e x2 ⟨rfl, u2, -, hs3⟩
  have H3 := Lib.hid hs3
  clear hs3 HQ2 H2
  have hq3 := H3.out.ask (by decide) 2 kB 3 (by decide)
  rw [u3_ask] at hq3
  have HQ3 := Lib.hid hq3
  clear hq3
  go_wp2_with fail
  refine HQ3.out.mono ?_
  rintro e x3 ⟨rfl, u3, -, hs4⟩
  have H4 := Lib.hid hs4
  clear hs4 HQ3 H3
  have hv := H4.out.victim (by decide) 2
  have HV := Lib.hid hv
  clear hv
  go_wp2_with fail
  refine HV.out.mono ?_
  rintro e x4 ⟨v4, b4, rfl, hb4, hvic⟩
  obtain rfl := u3_victim hvic
  have H5 := Lib.hid (H4.out.below hb4)
  clear hb4 hvic HV H4
  have hq5 := H5.out.ask (by decide) 1 kC 3 (by decide)
  rw [u4_ask] at hq5
  have HQ5 := Lib.hid hq5
  clear hq5
  go_wp2_with fail
  refine HQ5.out.mono ?_
  rintro e x5 ⟨rfl, u5, -, hs6⟩
  have H6 := Lib.hid hs6
  clear hs6 HQ5 H5
  have hv := H6.out.victim (by decide) 1
  have HV := Lib.hid hv
  clear hv
  go_wp2_with fail
  refine HV.out.mono ?_
  rintro e x6 ⟨v6, b6, rfl, hb6, hvic⟩
  obtain ⟨rfl, rfl⟩ := u4_victim hvic
  have H7 := Lib.hid (H6.out.below hb6)
  clear hb6 hvic HV H6
  have hj := join_any x6 2 3
  rw [show jn 2 3 = 4 by decide] at hj
  have htg := together_any x6 3 2
  rw [show tog 3 2 = false by decide] at htg
  have HJ := Lib.hid hj
  have HTG := Lib.hid htg
  clear hj htg
  go_wp2_with fail
  refine HJ.out.mono ?_
  rintro e x7 ⟨rfl, rfl⟩
  clear HJ
  go_wp2_with fail
  refine HTG.out.mono ?_
  rintro e x8 ⟨rfl, hb8⟩
  have H8 := Lib.hid (H7.out.below hb8)
  clear hb8 HTG H7
  go_wp2
  go_ret
  exact ⟨rfl, HB0.out.trans (H8.out.bl.mono HB0.out.size)⟩
end Mun
