/- The law PageChanges: the walk. -/
import Derived.Test.YtndeebchiodimaaPagesU
set_option maxRecDepth 100000
set_option linter.unusedVariables false
set_option linter.unusedSimpArgs false
namespace Mun
open Go Go.RowKit
open Go.Proofs

set_option maxHeartbeats 4000000 in
theorem changes_ok (W : World) (v u : Value) (p c : List UInt8) (i : Int) (hv : RdB NoF W v p) (hu : RdB NoF W u c) (hcl : c.length ≤ 140737488355328) :
    Calls Try.prog 4 #[v, .int .i64 i, u] W fun e W' => e = .returned (.bool true) ∧ Below W.heap.size W W' := by
  have h0 : St W W [(v, p), (u, c)] := ((St.mk (Below.refl _ _) (fun x h => by simp at h) : St W W []).push hu).push hv
  have h1 := insert_u (i := i) hv hu hcl
  obtain ⟨X1, hX1⟩ : ∃ X, insO p i c = X := ⟨_, rfl⟩
  obtain ⟨X2, hX2⟩ : ∃ X, remO p i = X := ⟨_, rfl⟩
  obtain ⟨X3, hX3⟩ : ∃ X, repO p i c = X := ⟨_, rfl⟩
  rw [hX1] at h1
  have HX := Lib.hid (And.intro hX1 (And.intro hX2 (And.intro hX3 hcl)))
  obtain ⟨a, n, cc, rfl, HN, -, -⟩ := hv.formN
  obtain ⟨a', n', cc', rfl, HN', -, -⟩ := hu.formN
  have H0 := Lib.hid h0
  have H1 := Lib.hid h1
  clear hv hu h0 h1 hX1 hX2 hX3 hcl
  go_enter Try.func4, Try.ntmps4
  go_wp2_with fail
  refine H1.out.mono ?_
  rintro e w1 ⟨a1, n1, c1, rfl, hr, hb⟩
  have S1 := Lib.hid ((H0.out.step hb).push hr)
  have h2 := remove_u (i := i) (S1.out.at_ 1 rfl)
  rw [HX.out.2.1] at h2
  have H2 := Lib.hid h2
  clear hr hb H1 H0 h2
  go_wp2_with fail
  refine H2.out.mono ?_
  rintro e w2 ⟨a2, n2, c2, rfl, hr, hb⟩
  have S2 := Lib.hid ((S1.out.step hb).push hr)
  have h3 := replace_u (i := i) (S2.out.at_ 2 rfl) (S2.out.at_ 3 rfl) HX.out.2.2.2
  rw [HX.out.2.2.1] at h3
  have H3 := Lib.hid h3
  clear hr hb H2 S1 h3
  go_wp2_with fail
  refine H3.out.mono ?_
  rintro e w3 ⟨a3, n3, c3, rfl, hr, hb⟩
  have S3 := Lib.hid ((S2.out.step hb).push hr)
  have HAW := Lib.hid (awake5 w3)
  clear hr hb H3 S2
  go_wp2_with fail
  refine HAW.out.mono ?_
  rintro e w4 ⟨rfl, hb⟩
  have S4 := Lib.hid (S3.out.step hb)
  have h5 := r5good w4 _ p (S4.out.at_ 3 rfl)
  clear hb HAW S3
  -- S4: z, y, x, p, c
  by_cases hg : GoodP p
  · rw [goodB_true hg] at h5
    have H5 := Lib.hid h5
    have HG : Hid (GoodP p) := hg
    clear h5
    go_wp2_with fail
    refine H5.out.mono ?_
    rintro e w5 ⟨rfl, hb⟩
    have S5 := Lib.hid (S4.out.step hb)
    have h6 := r5count w5 _ p (S5.out.at_ 3 rfl) (by rw [HG.out.len]; decide)
    have hcb : cnt p ≤ 121 := by have := HG.out.fit; have := HG.out.low; omega
    obtain ⟨m, hm⟩ : ∃ m, cnt p = m := ⟨_, rfl⟩
    rw [hm] at h6 hcb
    have HM := Lib.hid hm
    have H6 := Lib.hid h6
    clear hb h6 H5 S4 hm hg
    go_wp2_with fail
    refine H6.out.mono ?_
    rintro e w6 ⟨rfl, rfl⟩
    clear H6
    by_cases hbad : i < 0 ∨ (m : Int) < i
    · have e1 := HX.out.1
      have e2 := HX.out.2.1
      have e3 := HX.out.2.2.1
      unfold insO at e1
      unfold remO at e2
      unfold repO at e3
      rw [if_neg (by simpa using HG.out), if_pos (by rw [HM.out]; exact hbad)] at e1
      rw [if_neg (by simpa using HG.out), if_pos (by rw [HM.out]; omega)] at e2 e3
      subst e1 e2 e3
      have T1 := Lib.hid (told_yes w5 _ _ [] [] 1 1 (S5.out.at_ 2 rfl) (RdB.nil _ _) rfl rfl)
      have T2 := Lib.hid (told_yes w5 _ _ [] [] 1 1 (S5.out.at_ 1 rfl) (RdB.nil _ _) rfl rfl)
      have T3 := Lib.hid (told_yes w5 _ _ [] [] 1 1 (S5.out.at_ 0 rfl) (RdB.nil _ _) rfl rfl)
      rcases (show i < 0 ∨ (¬ i < 0 ∧ i > (m : Int)) by omega) with h | ⟨h1, h2⟩
      · clear hbad
        go_wp2_with fail
        refine T1.out.mono ?_
        rintro e w7 ⟨rfl, rfl⟩
        go_wp2_with fail
        refine T2.out.mono ?_
        rintro e w7 ⟨rfl, rfl⟩
        go_wp2_with fail
        refine T3.out.mono ?_
        rintro e w7 ⟨rfl, rfl⟩
        go_wp2
        go_ret
        exact ⟨rfl, S5.out.bl⟩
      · clear hbad
        go_wp2_with fail
        refine T1.out.mono ?_
        rintro e w7 ⟨rfl, rfl⟩
        go_wp2_with fail
        refine T2.out.mono ?_
        rintro e w7 ⟨rfl, rfl⟩
        go_wp2_with fail
        refine T3.out.mono ?_
        rintro e w7 ⟨rfl, rfl⟩
        go_wp2
        go_ret
        exact ⟨rfl, S5.out.bl⟩
    · have hi0 : ¬ i < 0 := by omega
      have him : ¬ i > (m : Int) := by omega
      obtain ⟨j, rfl⟩ := Int.eq_ofNat_of_zero_le (show 0 ≤ i by omega)
      have hjm : j ≤ m := by omega
      have h7 := rinsert_u j (S5.out.at_ 3 rfl) (S5.out.at_ 4 rfl) HG.out (by rw [HM.out]; exact hjm) HX.out.2.2.2
      obtain ⟨Y7, hY7⟩ : ∃ Y, rinsO p j c = Y := ⟨_, rfl⟩
      rw [hY7] at h7
      have H7 := Lib.hid h7
      have HJ := Lib.hid hjm
      have HY7 := Lib.hid hY7
      clear h7 hbad hjm hY7
      go_wp2_with fail
      refine H7.out.mono ?_
      rintro e w7 ⟨a7, n7, c7, rfl, hr, hb⟩
      have S7 := Lib.hid ((S5.out.step hb).push hr)
      clear hr hb H7 S5
      -- S7: a, z, y, x, p, c
      go_upto_region 12 with fail
      go_cut [102] (fun s102 wx => s102 = .bool false ∧ wx = w7)
      case first =>
        by_cases hf : freeP p < (c.length : Int) + 4
        · obtain rfl : Y7 = ([], false) := by rw [← HY7.out]; unfold rinsO; rw [if_pos hf]
          have e1 : X1 = ([], 7) := by
            rw [← HX.out.1]
            unfold insO
            rw [if_neg (by simpa using HG.out), if_neg (by rw [HM.out]; have := HJ.out; omega), if_pos hf]
          subst e1
          have T1 := Lib.hid (told_yes w7 _ _ [] [] 7 7 (S7.out.at_ 3 rfl) (RdB.nil _ _) rfl rfl)
          clear hf
          go_wp2_with fail
          refine T1.out.mono ?_
          rintro e w8 ⟨rfl, rfl⟩
          go_wp2
          go_meet
          exact ⟨rfl, rfl⟩
        · obtain rfl : Y7 = (insP p j c, true) := by rw [← HY7.out]; unfold rinsO; rw [if_neg hf]
          have e1 : X1 = (insP p j c, 0) := by
            rw [← HX.out.1]
            unfold insO
            rw [if_neg (by simpa using HG.out), if_neg (by rw [HM.out]; have := HJ.out; omega), if_neg hf]
            rfl
          subst e1
          have T1 := Lib.hid (told_yes w7 _ _ _ _ 0 0 (S7.out.at_ 3 rfl) (S7.out.at_ 0 rfl) rfl rfl)
          clear hf
          go_wp2_with fail
          refine T1.out.mono ?_
          rintro e w8 ⟨rfl, rfl⟩
          go_wp2
          go_meet
          exact ⟨rfl, rfl⟩
      case rest =>
        obtain ⟨rfl, hwc⟩ := hcut
        subst hwc
        obtain ⟨w7, rfl⟩ : ∃ w7 : World, w7 = wc := ⟨_, rfl⟩
        rcases Nat.lt_or_eq_of_le HJ.out with hlt | heq
        · have t1 : ((j : Int) == (m : Int)) = false := by
            have h3 : ¬ (j : Int) = (m : Int) := by omega
            simpa using h3
          have h8 := rreplace_u j (S7.out.at_ 4 rfl) (S7.out.at_ 5 rfl) HG.out (by rw [HM.out]; exact hlt) HX.out.2.2.2
          obtain ⟨Y8, hY8⟩ : ∃ Y, rrepO p j c = Y := ⟨_, rfl⟩
          rw [hY8] at h8
          have H8 := Lib.hid h8
          have HL := Lib.hid hlt
          have HY8 := Lib.hid hY8
          clear h8 hlt hY8
          go_wp2_with fail
          refine H8.out.mono ?_
          rintro e w8 ⟨a8, n8, c8, rfl, hr, hb⟩
          have S8 := Lib.hid ((S7.out.step hb).push hr)
          -- S8: b, a, z, y, x, p, c
          have h9 := rremove_u j (S8.out.at_ 5 rfl) HG.out (by rw [HM.out]; exact HL.out)
          have H9 := Lib.hid h9
          clear hr hb H8 S7 h9
          go_wp2_with fail
          refine H9.out.mono ?_
          rintro e w9 ⟨a9, n9, c9, rfl, hr, hb⟩
          have S9 := Lib.hid ((S8.out.step hb).push hr)
          -- S9: r, b, a, z, y, x, p, c
          have e2 : X2 = (remP p j, 0) := by
            rw [← HX.out.2.1]
            unfold remO
            rw [if_neg (by simpa using HG.out), if_neg (by rw [HM.out]; have := HL.out; omega)]
            rfl
          subst e2
          have T2 := Lib.hid (told_yes w9 _ _ _ _ 0 0 (S9.out.at_ 4 rfl) (S9.out.at_ 0 rfl) rfl rfl)
          clear hr hb H9 S8
          go_wp2_with fail
          refine T2.out.mono ?_
          rintro e w10 ⟨rfl, rfl⟩
          clear T2
          by_cases hf : sSize p j < c.length ∧ freeP p < (c.length : Int) - sSize p j
          · obtain rfl : Y8 = ([], false) := by rw [← HY8.out]; unfold rrepO; rw [if_pos hf]
            have e3 : X3 = ([], 7) := by
              rw [← HX.out.2.2.1]
              unfold repO
              rw [if_neg (by simpa using HG.out), if_neg (by rw [HM.out]; have := HL.out; omega), if_pos (by simpa using hf)]
            subst e3
            have T3 := Lib.hid (told_yes w9 _ _ [] [] 7 7 (S9.out.at_ 3 rfl) (RdB.nil _ _) rfl rfl)
            clear hf
            go_wp2_with fail
            refine T3.out.mono ?_
            rintro e w11 ⟨rfl, rfl⟩
            go_wp2
            go_ret
            exact ⟨rfl, S9.out.bl⟩
          · obtain rfl : Y8 = (repP p j c, true) := by rw [← HY8.out]; unfold rrepO; rw [if_neg hf]
            have e3 : X3 = (repP p j c, 0) := by
              rw [← HX.out.2.2.1]
              unfold repO
              rw [if_neg (by simpa using HG.out), if_neg (by rw [HM.out]; have := HL.out; omega), if_neg (by simpa using hf)]
              rfl
            subst e3
            have T3 := Lib.hid (told_yes w9 _ _ _ _ 0 0 (S9.out.at_ 3 rfl) (S9.out.at_ 1 rfl) rfl rfl)
            clear hf
            go_wp2_with fail
            refine T3.out.mono ?_
            rintro e w11 ⟨rfl, rfl⟩
            go_wp2
            go_ret
            exact ⟨rfl, S9.out.bl⟩
        · subst heq
          have e2 : X2 = ([], 1) := by
            rw [← HX.out.2.1]
            unfold remO
            rw [if_neg (by simpa using HG.out), if_pos (by rw [HM.out]; omega)]
          have e3 : X3 = ([], 1) := by
            rw [← HX.out.2.2.1]
            unfold repO
            rw [if_neg (by simpa using HG.out), if_pos (by rw [HM.out]; omega)]
          subst e2 e3
          have t1 : ((j : Int) == (j : Int)) = true := by simp
          have T2 := Lib.hid (told_yes w7 _ _ [] [] 1 1 (S7.out.at_ 2 rfl) (RdB.nil _ _) rfl rfl)
          have T3 := Lib.hid (told_yes w7 _ _ [] [] 1 1 (S7.out.at_ 1 rfl) (RdB.nil _ _) rfl rfl)
          go_wp2_with fail
          refine T2.out.mono ?_
          rintro e w8 ⟨rfl, rfl⟩
          go_wp2_with fail
          refine T3.out.mono ?_
          rintro e w8 ⟨rfl, rfl⟩
          go_wp2
          go_ret
          exact ⟨rfl, S7.out.bl⟩
  · rw [goodB_false hg] at h5
    have H5 := Lib.hid h5
    have e1 := HX.out.1
    have e2 := HX.out.2.1
    have e3 := HX.out.2.2.1
    unfold insO at e1
    unfold remO at e2
    unfold repO at e3
    rw [if_pos hg] at e1 e2 e3
    subst e1 e2 e3
    clear hg h5
    go_wp2_with fail
    refine H5.out.mono ?_
    rintro e w5 ⟨rfl, hb⟩
    have S5 := Lib.hid (S4.out.step hb)
    have T1 := Lib.hid (told_yes w5 _ _ [] [] 4 4 (S5.out.at_ 2 rfl) (RdB.nil _ _) rfl rfl)
    have T2 := Lib.hid (told_yes w5 _ _ [] [] 4 4 (S5.out.at_ 1 rfl) (RdB.nil _ _) rfl rfl)
    have T3 := Lib.hid (told_yes w5 _ _ [] [] 4 4 (S5.out.at_ 0 rfl) (RdB.nil _ _) rfl rfl)
    clear hb H5 S4
    go_wp2_with fail
    refine T1.out.mono ?_
    rintro e w7 ⟨rfl, rfl⟩
    go_wp2_with fail
    refine T2.out.mono ?_
    rintro e w7 ⟨rfl, rfl⟩
    go_wp2_with fail
    refine T3.out.mono ?_
    rintro e w7 ⟨rfl, rfl⟩
    go_wp2
    go_ret
    exact ⟨rfl, S5.out.bl⟩
end Mun
