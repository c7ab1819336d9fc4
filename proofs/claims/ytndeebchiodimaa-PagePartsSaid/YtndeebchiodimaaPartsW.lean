/- The law PageParts: the walk. -/
import Derived.Test.YtndeebchiodimaaPartsU
set_option maxRecDepth 100000
set_option linter.unusedVariables false
set_option linter.unusedSimpArgs false
namespace Mun
open Go Go.RowKit
open Go.Proofs

structure PartsX (p : PBytes) (k i l x : Int) (s : Nat) (XN : PBytes × Int) (XC XF : Int × Int) (XE : PBytes × Int) (XL : List PBytes × Int) (XM XS XT : PBytes × Int) (XH : Hd) : Prop where
  fn : newO k = XN
  fc : cntO p = XC
  ff : freO p = XF
  fe : celO p i = XE
  fl : lstO p = XL
  fm : comO p = XM
  fs : seaO p s = XS
  ft : setO p l x = XT
  fh : hedO p = XH

theorem St.drew {W w : World} {L : List (Value × PBytes)} (h : St W w L) (n : Nat) : St W (w.drewN n) L := ⟨below_drewN h.bl n, fun x hx => RdB.drewN (h.rd x hx) n⟩
theorem ListsAt.drewN {F : Foot} {w : World} {v : Value} {cs : List (List UInt8)} {vs : List Value} (h : ListsAt F w v cs vs) (n : Nat) : ListsAt F (w.drewN n) v cs vs := ⟨h.row, h.rd⟩

set_option maxHeartbeats 16000000 in
theorem parts_ok (W : World) (v : Value) (p : List UInt8) (k i l x : Int) (s : Nat) (hv : RdB NoF W v p) (hs : s < 18446744073709551616) :
    Calls Try.prog 9 #[v, .int .i64 k, .int .i64 i, .int .i64 l, .int .i64 x, .int .u64 s] W fun e W' => e = .returned (.bool true) ∧ Below W.heap.size W W' := by
  have h0 : St W W [(v, p)] := (St.mk (Below.refl _ _) (fun x h => by simp at h) : St W W []).push hv
  obtain ⟨XN, XC, XF, XE, XL, XM, XS, XT, XH, hX⟩ : ∃ XN XC XF XE XL XM XS XT XH, PartsX p k i l x s XN XC XF XE XL XM XS XT XH := ⟨_, _, _, _, _, _, _, _, _, rfl, rfl, rfl, rfl, rfl, rfl, rfl, rfl, rfl⟩
  have h1 := new_u (w := W) k
  rw [hX.fn] at h1
  obtain ⟨a, n, cc, rfl, HN, -, -⟩ := hv.formN
  have HX := Lib.hid hX
  have HS := Lib.hid hs
  have H0 := Lib.hid h0
  have H1 := Lib.hid h1
  clear hv h0 h1 hX hs
  go_enter Try.func9, Try.ntmps9
  go_wp2_with fail
  refine H1.out.mono ?_
  rintro e w1 ⟨a1, n1, c1, rfl, hr, hb⟩
  have S1 := Lib.hid ((H0.out.step hb).push hr)
  have h2 := count_u (S1.out.at_ 1 rfl)
  rw [HX.out.fc] at h2
  have H2 := Lib.hid h2
  clear hr hb H1 H0 h2
  go_wp2_with fail
  refine H2.out.mono ?_
  rintro e w2 ⟨rfl, hb⟩
  have S2 := Lib.hid (S1.out.step hb)
  have h3 := free_u (S2.out.at_ 1 rfl)
  rw [HX.out.ff] at h3
  have H3 := Lib.hid h3
  clear hb H2 S1 h3
  go_wp2_with fail
  refine H3.out.mono ?_
  rintro e w3 ⟨rfl, hb⟩
  have S3 := Lib.hid (S2.out.step hb)
  have h4 := cell_u i (S3.out.at_ 1 rfl)
  rw [HX.out.fe] at h4
  have H4 := Lib.hid h4
  clear hb H3 S2 h4
  go_wp2_with fail
  refine H4.out.mono ?_
  rintro e w4 ⟨a4, n4, c4, rfl, hr, hb⟩
  have S4 := Lib.hid ((S3.out.step hb).push hr)
  have h5 := cells_u (S4.out.at_ 2 rfl)
  rw [HX.out.fl] at h5
  have H5 := Lib.hid h5
  clear hr hb H4 S3 h5
  go_wp2_with fail
  refine H5.out.mono ?_
  rintro e w5 ⟨a5, n5, c5, us, rfl, hl, hb⟩
  have S5 : Hid (St W w5 [(.slice a4 n4 c4, XE.1), (.slice a1 n1 c1, XN.1), (.slice a n cc, p)] ∧ ListsAt NoF w5 (.slice a5 n5 c5) XL.1 us) := ⟨S4.out.step hb, hl⟩
  have HAW := Lib.hid (awake5 w5)
  clear hb H5 S4 hl
  go_wp2_with fail
  refine HAW.out.mono ?_
  rintro e w6 ⟨rfl, hb⟩
  have S6 : Hid (St W w6 [(.slice a4 n4 c4, XE.1), (.slice a1 n1 c1, XN.1), (.slice a n cc, p)] ∧ ListsAt NoF w6 (.slice a5 n5 c5) XL.1 us) := ⟨S5.out.1.step hb, S5.out.2.below hb⟩
  obtain ⟨z, hz⟩ : ∃ z, checkP p = z := ⟨_, rfl⟩
  obtain ⟨b, hbb⟩ : ∃ b, goodB p = b := ⟨_, rfl⟩
  have HZ := Lib.hid (And.intro hz hbb)
  have h7 := check_any w6 _ p (S6.out.1.at_ 2 rfl)
  rw [hz] at h7
  have H7 := Lib.hid h7
  have tz : (z != z) = false := by simp
  have tb : (b != b) = false := by simp
  clear hb HAW S5 h7 hz hbb
  go_wp2_with fail
  refine H7.out.mono ?_
  rintro e w7 ⟨rfl, hb⟩
  have S7 : Hid (St W w7 [(.slice a4 n4 c4, XE.1), (.slice a1 n1 c1, XN.1), (.slice a n cc, p)] ∧ ListsAt NoF w7 (.slice a5 n5 c5) XL.1 us) := ⟨S6.out.1.step hb, S6.out.2.below hb⟩
  have h8 := r5check w7 _ p (S7.out.1.at_ 2 rfl)
  rw [HZ.out.1] at h8
  have H8 := Lib.hid h8
  clear hb H7 S6 h8
  go_wp2_with fail
  refine H8.out.mono ?_
  rintro e w8 ⟨rfl, hb⟩
  have S8 : Hid (St W w8 [(.slice a4 n4 c4, XE.1), (.slice a1 n1 c1, XN.1), (.slice a n cc, p)] ∧ ListsAt NoF w8 (.slice a5 n5 c5) XL.1 us) := ⟨S7.out.1.step hb, S7.out.2.below hb⟩
  have h9 := good_any w8 _ p (S8.out.1.at_ 2 rfl)
  rw [HZ.out.2] at h9
  have H9 := Lib.hid h9
  clear hb H8 S7 h9
  go_wp2_with fail
  refine H9.out.mono ?_
  rintro e w9 ⟨rfl, hb⟩
  have S9 : Hid (St W w9 [(.slice a4 n4 c4, XE.1), (.slice a1 n1 c1, XN.1), (.slice a n cc, p)] ∧ ListsAt NoF w9 (.slice a5 n5 c5) XL.1 us) := ⟨S8.out.1.step hb, S8.out.2.below hb⟩
  have h10 := r5good w9 _ p (S9.out.1.at_ 2 rfl)
  rw [HZ.out.2] at h10
  have H10 := Lib.hid h10
  clear hb H9 S8 h10
  go_wp2_with fail
  refine H10.out.mono ?_
  rintro e w10 ⟨rfl, hb⟩
  have S10 : Hid (St W w10 [(.slice a4 n4 c4, XE.1), (.slice a1 n1 c1, XN.1), (.slice a n cc, p)] ∧ ListsAt NoF w10 (.slice a5 n5 c5) XL.1 us) := ⟨S9.out.1.step hb, S9.out.2.below hb⟩
  clear hb H10 S9
  go_upto_region 8 with fail
  go_cut [81] (fun s81 wx => wx = w10 ∧ s81 = .bool (decide (k < 0 ∨ 255 < k)))
  case first =>
    as_aux_lemma =>
      by_cases hk : k < 0
      · go_wp2
        go_meet
        exact ⟨rfl, by rw [decide_eq_true (Or.inl hk)]⟩
      · by_cases hk2 : k > 255
        · go_wp2
          go_meet
          exact ⟨rfl, by rw [decide_eq_true (Or.inr hk2)]⟩
        · have HK : Hid (decide (k < 0 ∨ 255 < k) = false) := by show _ = _; rw [decide_eq_false]; omega
          go_wp2
          go_meet
          exact ⟨rfl, by rw [HK.out]⟩
  case rest =>
  obtain ⟨hwc, rfl⟩ := hcut
  subst hwc
  obtain ⟨w10, rfl⟩ : ∃ w10 : World, w10 = wc := ⟨_, rfl⟩
  as_aux_lemma =>
    rename_i hKK
    refine hKK _ _ ?_
    go_cut [] (fun wx => St W wx [(.slice a4 n4 c4, XE.1), (.slice a n cc, p)] ∧ ListsAt NoF wx (.slice a5 n5 c5) XL.1 us)
    case first =>
      as_aux_lemma =>
        by_cases hk : k < 0 ∨ 255 < k
        · obtain rfl : XN = ([], 1) := by rw [← HX.out.fn]; unfold newO; rw [if_pos hk]
          obtain rfl : n1 = 0 := rdb_n (S10.out.1.at_ 1 rfl)
          rw [decide_eq_true hk]
          clear hk
          go_wp2
          go_meet
          exact ⟨⟨S10.out.1.bl, fun y hy => S10.out.1.rd y (by simp at hy ⊢; rcases hy with h | h <;> simp [h])⟩, S10.out.2⟩
        · rw [decide_eq_false hk]
          obtain ⟨j, rfl⟩ := Int.eq_ofNat_of_zero_le (show 0 ≤ k by omega)
          obtain rfl : XN = (newP j, 0) := by rw [← HX.out.fn]; unfold newO; rw [if_neg hk]; rfl
          have h11 := rnew_u w10 j (by omega)
          have H11 := Lib.hid h11
          clear h11 hk
          go_wp2_with fail
          refine H11.out.mono ?_
          rintro e w11 ⟨a11, n11, c11, rfl, hr, hb⟩
          dsimp only
          have S11 := Lib.hid (And.intro ((S10.out.1.step hb).push hr) (S10.out.2.below hb))
          have T1 := Lib.hid (told_yes w11 _ _ _ _ 0 0 (S11.out.1.at_ 2 rfl) (S11.out.1.at_ 0 rfl) rfl rfl)
          clear hr hb H11 S10
          go_wp2_with fail
          refine T1.out.mono ?_
          rintro e w12 ⟨rfl, rfl⟩
          dsimp only
          go_wp2
          go_meet
          exact ⟨⟨S11.out.1.bl, fun y hy => S11.out.1.rd y (by simp at hy ⊢; rcases hy with h | h <;> simp [h])⟩, S11.out.2⟩
    case rest =>
    clear S10
    have S10 := Lib.hid hcut
    clear hcut
    obtain ⟨w10, rfl⟩ : ∃ w10 : World, w10 = wc := ⟨_, rfl⟩
    -- c, p; l
    as_aux_lemma =>
      have h11 := compact_u (S10.out.1.at_ 1 rfl)
      rw [HX.out.fm] at h11
      have H11 := Lib.hid h11
      clear h11
      go_wp2_with fail
      refine H11.out.mono ?_
      rintro e w11 ⟨a11, n11, c11, rfl, hr, hb⟩
      have S11 := Lib.hid (And.intro ((S10.out.1.step hb).push hr) (S10.out.2.below hb))
      have h12 := seal_u s (S11.out.1.at_ 2 rfl)
      rw [HX.out.fs] at h12
      have H12 := Lib.hid h12
      clear hr hb H11 S10 h12
      go_wp2_with fail
      refine H12.out.mono ?_
      rintro e w12 ⟨a12, n12, c12, rfl, hr, hb⟩
      have S12 := Lib.hid (And.intro ((S11.out.1.step hb).push hr) (S11.out.2.below hb))
      have h13 := set_u l x (S12.out.1.at_ 3 rfl)
      rw [HX.out.ft] at h13
      have H13 := Lib.hid h13
      clear hr hb H12 S11 h13
      go_wp2_with fail
      refine H13.out.mono ?_
      rintro e w13 ⟨a13, n13, c13, rfl, hr, hb⟩
      have S13 := Lib.hid (And.intro ((S12.out.1.step hb).push hr) (S12.out.2.below hb))
      have h14 := head_u (S13.out.1.at_ 4 rfl)
      rw [HX.out.fh] at h14
      have H14 := Lib.hid h14
      clear hr hb H13 S12 h14
      go_wp2_with fail
      refine H14.out.mono ?_
      rintro e w14 ⟨rfl, hb⟩
      have S14 := Lib.hid (And.intro (S13.out.1.step hb) (S13.out.2.below hb))
      -- t, s, m, c, p; l
      have h15 := r5good w14 _ p (S14.out.1.at_ 4 rfl)
      clear hb H14 S13
      by_cases hg : GoodP p
      · rw [goodB_true hg] at h15
        have HG : Hid (GoodP p) := hg
        have H15 := Lib.hid h15
        have hfit := hg.fit
        have hlow := hg.low
        obtain ⟨m, hm⟩ : ∃ m, cnt p = m := ⟨_, rfl⟩
        obtain rfl : XC = ((m : Int), 0) := by rw [← HX.out.fc]; unfold cntO; rw [if_pos hg, hm]
        obtain ⟨f, hf⟩ : ∃ f, freeP p = f := ⟨_, rfl⟩
        obtain rfl : XF = (f, 0) := by rw [← HX.out.ff]; unfold freO; rw [if_pos hg, hf]
        obtain rfl : XL = (cellsP p m, 0) := by rw [← HX.out.fl]; unfold lstO; rw [if_pos hg, hm]
        obtain rfl : XM = (anewP p, 0) := by rw [← HX.out.fm]; unfold comO; rw [if_pos hg]
        obtain rfl : XS = (sealP p s, 0) := by rw [← HX.out.fs]; unfold seaO; rw [if_pos hg]
        obtain ⟨hk, hhk⟩ : ∃ y, gt p 12 1 = y := ⟨_, rfl⟩
        obtain ⟨hl4, hhl⟩ : ∃ y, gt p 4 8 = y := ⟨_, rfl⟩
        obtain ⟨ha, hha⟩ : ∃ y, gt p 18 4 = y := ⟨_, rfl⟩
        obtain ⟨hb4, hhb⟩ : ∃ y, gt p 22 4 = y := ⟨_, rfl⟩
        have hab : ha < 4294967296 := by rw [← hha]; exact gt4_lt p 18
        have hbb : hb4 < 4294967296 := by rw [← hhb]; exact gt4_lt p 22
        obtain rfl : XH = ⟨hk, hl4, ha, hb4, 0⟩ := by rw [← HX.out.fh]; unfold hedO; rw [if_pos hg, hhk, hhl, hha, hhb]
        have HH : Hid (gt p 12 1 = hk ∧ gt p 4 8 = hl4 ∧ gt p 18 4 = ha ∧ gt p 22 4 = hb4 ∧ cnt p = m ∧ freeP p = f) := ⟨hhk, hhl, hha, hhb, hm, hf⟩
        have hmi : (m : Int) ≤ 121 := by omega
        have hai : (ha : Int) < 4294967296 := by omega
        have hbi : (hb4 : Int) < 4294967296 := by omega
        have ha0 : (0 : Int) ≤ (ha : Int) := by omega
        have hb0 : (0 : Int) ≤ (hb4 : Int) := by omega
        have tm : ((m : Int) != (m : Int)) = false := by simp
        have tf : (f != f) = false := by simp
        clear hhk hhl hha hhb hab hbb hm hf hg h15 hfit hlow
        as_aux_lemma =>
          go_wp2_with fail
          refine H15.out.mono ?_
          rintro e w15 ⟨rfl, hb⟩
          have S15 := Lib.hid (And.intro (S14.out.1.step hb) (S14.out.2.below hb))
          have h16 := r5count w15 _ p (S15.out.1.at_ 4 rfl) (by rw [HG.out.len]; decide)
          rw [HH.out.2.2.2.2.1] at h16
          have H16 := Lib.hid h16
          have h17 := r5free w15 _ p (S15.out.1.at_ 4 rfl) HG.out
          rw [HH.out.2.2.2.2.2] at h17
          have H17 := Lib.hid h17
          have h18 := r5cells w15 _ p (S15.out.1.at_ 4 rfl) (good_anewOk HG.out)
          rw [HH.out.2.2.2.2.1] at h18
          have H18 := Lib.hid h18
          clear hb H15 S14 h16 h17 h18
          go_wp2_with fail
          refine H16.out.mono ?_
          rintro e w16 ⟨rfl, rfl⟩
          clear H16
          go_wp2_with fail
          refine H17.out.mono ?_
          rintro e w17 ⟨rfl, rfl⟩
          clear H17
          go_wp2_with fail
          refine H18.out.mono ?_
          rintro e w18 ⟨u8, us8, rfl, hnl⟩
          obtain ⟨a8, c8, rfl⟩ := hnl.form
          have hb18 : Below w15.heap.size w15 w18 := hnl.bl
          have S18 := Lib.hid (And.intro (S15.out.1.step hb18) (S15.out.2.below hb18))
          have h19 := lists_any w18 _ _ _ _ _ _ S18.out.2 (hnl.lists.mono (fun _ _ h => absurd h (noF _))) true (by simp)
          have H19 := Lib.hid h19
          clear hnl hb18 H18 S15 h19
          go_wp2_with fail
          refine H19.out.mono ?_
          rintro e w19 ⟨rfl, hb⟩
          have S19 := Lib.hid (And.intro (S18.out.1.step hb) (S18.out.2.below hb))
          clear hb H19 S18
          go_upto_region 21 with fail
          go_cut [226] (fun s226 wx => wx = w19 ∧ s226 = .bool (decide (i < 0 ∨ (m : Int) ≤ i)))
          case first =>
            as_aux_lemma =>
              by_cases hi : i < 0
              · go_wp2
                go_meet
                exact ⟨rfl, by rw [decide_eq_true (Or.inl hi)]⟩
              · by_cases hi2 : i ≥ (m : Int)
                · go_wp2
                  go_meet
                  exact ⟨rfl, by rw [decide_eq_true (Or.inr hi2)]⟩
                · have HK : Hid (decide (i < 0 ∨ (m : Int) ≤ i) = false) := by show _ = _; rw [decide_eq_false]; omega
                  go_wp2
                  go_meet
                  exact ⟨rfl, by rw [HK.out]⟩
          case rest =>
          obtain ⟨hwc, rfl⟩ := hcut
          subst hwc
          obtain ⟨w19, rfl⟩ : ∃ w19 : World, w19 = wc := ⟨_, rfl⟩
          rename_i hKK
          refine hKK _ _ ?_
          go_cut [] (fun wx => St W wx [(.slice a13 n13 c13, XT.1), (.slice a12 n12 c12, sealP p s), (.slice a11 n11 c11, anewP p), (.slice a n cc, p)])
          case first =>
            as_aux_lemma =>
              by_cases hi : i < 0 ∨ (m : Int) ≤ i
              · obtain rfl : XE = ([], 1) := by rw [← HX.out.fe]; unfold celO; rw [if_neg (by simpa using HG.out), if_pos (by rw [HH.out.2.2.2.2.1]; exact hi)]
                obtain rfl : n4 = 0 := rdb_n (S19.out.1.at_ 3 rfl)
                rw [decide_eq_true hi]
                clear hi
                go_wp2
                go_meet
                exact ⟨S19.out.1.bl, fun y hy => S19.out.1.rd y (by simp at hy ⊢; rcases hy with h | h | h | h <;> simp [h])⟩
              · rw [decide_eq_false hi]
                obtain ⟨j, rfl⟩ := Int.eq_ofNat_of_zero_le (show 0 ≤ i by omega)
                have hjm : j < m := by omega
                obtain rfl : XE = (cellP p j, 0) := by rw [← HX.out.fe]; unfold celO; rw [if_neg (by simpa using HG.out), if_neg (by rw [HH.out.2.2.2.2.1]; exact hi)]; rfl
                have hc4 := S19.out.1.at_ 3 rfl
                obtain ⟨g5, off5, cc5, a6, n6, c6, e5, hce, hrd, -, -⟩ := S19.out.2.cellAt j (by rw [cellsP_length]; exact hjm)
                have e5' := e5
                injection e5 with e6 e7 e8
                subst e6 e8
                have hget : (cellsP p m)[j]'(by rw [cellsP_length]; exact hjm) = cellP p j := by
                  have h1 := cellsP_get p m j hjm
                  rw [List.getElem?_eq_getElem (by rw [cellsP_length]; exact hjm)] at h1
                  injection h1
                rw [hget] at hrd
                rw [cellsP_length] at e7
                subst e7
                have hs1 : ∀ q, (convert 22 9 (.slice a4 n4 c4)).run Try.prog (w19.drewN q) = .ok (.string (strOf (cellP p j))) (w19.drewN q) := fun q => str_bytes (F := NoF) (w := w19.drewN q) hc4
                have hs2 : ∀ q, (convert 22 9 (.slice a6 n6 c6)).run Try.prog (w19.drewN q) = .ok (.string (strOf (cellP p j))) (w19.drewN q) := fun q => str_bytes (F := NoF) (w := w19.drewN q) hrd
                obtain ⟨st, hst⟩ : ∃ st, strOf (cellP p j) = st := ⟨_, rfl⟩
                rw [hst] at hs1 hs2
                have t1 : (st.toList == st.toList) = true := by simp
                have t2 : (st.toList != st.toList) = false := by simp
                have hji : (j : Int) < (n5 : Int) := by omega
                have hj0 : (0 : Int) ≤ (j : Int) := by omega
                clear hi hc4 hrd hget hst hjm e5'
                go_wp2
                go_quiet (fail)
                go_wp2
                go_meet
                exact (St.drew ⟨S19.out.1.bl, fun y hy => S19.out.1.rd y (by simp at hy ⊢; rcases hy with h | h | h | h <;> simp [h])⟩ _)
          case rest =>
          clear S19
          have S19 := Lib.hid hcut
          clear hcut
          obtain ⟨w19, rfl⟩ : ∃ w19 : World, w19 = wc := ⟨_, rfl⟩
          -- t, s, m, p
          as_aux_lemma =>
            go_upto_region 26 with fail
            go_cut [259] (fun s259 wx => wx = w19 ∧ ((s259 = .bool true ∧ setBad l x) ∨ (s259 = .bool false ∧ ¬ setBad l x)))
            case first =>
              as_aux_lemma =>
                by_cases h1 : l < 0
                · go_wp2
                  go_meet
                  exact ⟨rfl, .inl ⟨rfl, .inl h1⟩⟩
                · by_cases h2 : l ≥ 4294967296
                  · go_wp2
                    go_meet
                    exact ⟨rfl, .inl ⟨rfl, .inr (.inl h2)⟩⟩
                  · by_cases h3 : x < 0
                    · go_wp2
                      go_meet
                      exact ⟨rfl, .inl ⟨rfl, .inr (.inr (.inl h3))⟩⟩
                    · by_cases h4 : x ≥ 4294967296
                      · go_wp2
                        go_meet
                        exact ⟨rfl, .inl ⟨rfl, .inr (.inr (.inr h4))⟩⟩
                      · have HB : Hid (¬ setBad l x) := by show ¬ _; unfold setBad; omega
                        go_wp2
                        go_meet
                        exact ⟨rfl, .inr ⟨rfl, HB.out⟩⟩
            case rest =>
            obtain ⟨hwc, hbd⟩ := hcut
            subst hwc
            obtain ⟨w19, rfl⟩ : ∃ w19 : World, w19 = wc := ⟨_, rfl⟩
            rename_i hKK
            refine hKK _ _ ?_
            go_cut [] (fun wx => St W wx [(.slice a12 n12 c12, sealP p s), (.slice a11 n11 c11, anewP p), (.slice a n cc, p)])
            case first =>
              as_aux_lemma =>
                rcases hbd with ⟨rfl, hbd⟩ | ⟨rfl, hbd⟩
                · obtain rfl : XT = ([], 1) := by rw [← HX.out.ft]; unfold setO; rw [if_neg (by simpa using HG.out), if_pos hbd]
                  have T1 := Lib.hid (told_yes w19 _ _ [] [] 1 1 (S19.out.at_ 0 rfl) (RdB.nil _ _) rfl rfl)
                  clear hbd
                  go_wp2_with fail
                  refine T1.out.mono ?_
                  rintro e w20 ⟨rfl, rfl⟩
                  dsimp only
                  go_wp2
                  go_meet
                  exact ⟨S19.out.bl, fun y hy => S19.out.rd y (by simp at hy ⊢; rcases hy with h | h | h <;> simp [h])⟩
                · have hnb := hbd
                  unfold setBad at hnb
                  obtain ⟨l1, rfl⟩ := Int.eq_ofNat_of_zero_le (show 0 ≤ l by omega)
                  obtain ⟨x1, rfl⟩ := Int.eq_ofNat_of_zero_le (show 0 ≤ x by omega)
                  obtain rfl : XT = (setP p l1 x1, 0) := by rw [← HX.out.ft]; unfold setO; rw [if_neg (by simpa using HG.out), if_neg hbd]; rfl
                  have h20 := rset_u l1 x1 (S19.out.at_ 3 rfl) HG.out.len (by omega) (by omega)
                  have H20 := Lib.hid h20
                  clear h20 hbd hnb
                  go_wp2_with fail
                  refine H20.out.mono ?_
                  rintro e w20 ⟨a20, n20, c20, rfl, hr, hb⟩
                  dsimp only
                  have S20 := Lib.hid ((S19.out.step hb).push hr)
                  have T1 := Lib.hid (told_yes w20 _ _ _ _ 0 0 (S20.out.at_ 1 rfl) (S20.out.at_ 0 rfl) rfl rfl)
                  clear hr hb H20 S19
                  go_wp2_with fail
                  refine T1.out.mono ?_
                  rintro e w21 ⟨rfl, rfl⟩
                  dsimp only
                  go_wp2
                  go_meet
                  exact ⟨S20.out.bl, fun y hy => S20.out.rd y (by simp at hy ⊢; rcases hy with h | h | h <;> simp [h])⟩
            case rest =>
            clear S19 hbd
            have S19 := Lib.hid hcut
            clear hcut
            obtain ⟨w19, rfl⟩ : ∃ w19 : World, w19 = wc := ⟨_, rfl⟩
            -- s, m, p
            as_aux_lemma =>
              have h20 := rcompact_u (S19.out.at_ 2 rfl) HG.out
              have H20 := Lib.hid h20
              clear h20
              go_wp2_with fail
              refine H20.out.mono ?_
              rintro e w20 ⟨a20, n20, c20, rfl, hr, hb⟩
              have S20 := Lib.hid ((S19.out.step hb).push hr)
              have T1 := Lib.hid (told_yes w20 _ _ _ _ 0 0 (S20.out.at_ 2 rfl) (S20.out.at_ 0 rfl) rfl rfl)
              clear hr hb H20 S19
              go_wp2_with fail
              refine T1.out.mono ?_
              rintro e w21 ⟨rfl, rfl⟩
              clear T1
              have h21 := rseal_u s (S20.out.at_ 3 rfl) HG.out.len HS.out
              have H21 := Lib.hid h21
              clear h21
              go_wp2_with fail
              refine H21.out.mono ?_
              rintro e w21 ⟨a21, n21, c21, rfl, hr, hb⟩
              have S21 := Lib.hid ((S20.out.step hb).push hr)
              have T1 := Lib.hid (told_yes w21 _ _ _ _ 0 0 (S21.out.at_ 2 rfl) (S21.out.at_ 0 rfl) rfl rfl)
              clear hr hb H21 S20
              go_wp2_with fail
              refine T1.out.mono ?_
              rintro e w22 ⟨rfl, rfl⟩
              clear T1
              have hp : RdB NoF w21 (.slice a n cc) p := S21.out.at_ 4 rfl
              obtain ⟨g, off, c9, e9, -, -, -, -, hcs⟩ := hp.at_ (by rw [HG.out.len]; decide)
              injection e9 with e10 e11 e12
              subst e10 e11 e12
              have hc12 := hcs 12 (by rw [HG.out.len]; decide)
              have hk12 : (p[12]'(by rw [HG.out.len]; decide)).toNat = hk := by
                rw [← HH.out.1]
                unfold gt
                have : (p.drop 12).take 1 = [p[12]'(by rw [HG.out.len]; decide)] := by
                  rw [List.drop_eq_getElem_cons (by rw [HG.out.len]; decide)]
                  rfl
                rw [this]
                simp [leNat]
              rw [hk12] at hc12
              have hkb : hk < 256 := by rw [← hk12]; exact UInt8.toNat_lt _
              have hki : (hk : Int) < 256 := by omega
              have hk0 : (0 : Int) ≤ (hk : Int) := by omega
              have hlen : p.length = 512 := HG.out.len
              have g1 := refget_any w21 _ p 4 8 4 8 (hl4 : Int) rfl rfl (by rw [← HH.out.2.1]; rfl) hp (by rw [hlen]; decide) (by decide)
              have g2 := refget_any w21 _ p 18 4 18 4 (ha : Int) rfl rfl (by rw [← HH.out.2.2.1]; rfl) hp (by rw [hlen]; decide) (by decide)
              have g3 := refget_any w21 _ p 22 4 22 4 (hb4 : Int) rfl rfl (by rw [← HH.out.2.2.2.1]; rfl) hp (by rw [hlen]; decide) (by decide)
              rw [hlen] at g1 g2 g3 ⊢
              have G1 := Lib.hid g1
              have G2 := Lib.hid g2
              have G3 := Lib.hid g3
              have s1 : ((hk : Int) == (hk : Int)) = true := by simp
              have s2 : ((hl4 : Int) == (hl4 : Int)) = true := by simp
              have s3 : ((ha : Int) == (ha : Int)) = true := by simp
              have s4 : ((hb4 : Int) == (hb4 : Int)) = true := by simp
              clear hp hcs g1 g2 g3 hk12 hkb hlen
              go_wp2_with fail
              refine G1.out.mono ?_
              rintro e w22 ⟨rfl, rfl⟩
              clear G1
              go_wp2_with fail
              refine G2.out.mono ?_
              rintro e w22 ⟨rfl, rfl⟩
              clear G2
              go_wp2_with fail
              refine G3.out.mono ?_
              rintro e w22 ⟨rfl, rfl⟩
              clear G3
              go_wp2
              go_ret
              exact ⟨rfl, S21.out.bl⟩
      · rw [goodB_false hg] at h15
        as_aux_lemma =>
          have H15 := Lib.hid h15
          obtain rfl : XC = (0, 4) := by rw [← HX.out.fc]; unfold cntO; rw [if_neg hg]
          obtain rfl : XF = (0, 4) := by rw [← HX.out.ff]; unfold freO; rw [if_neg hg]
          obtain rfl : XE = ([], 4) := by rw [← HX.out.fe]; unfold celO; rw [if_pos hg]
          obtain rfl : XL = ([], 4) := by rw [← HX.out.fl]; unfold lstO; rw [if_neg hg]
          obtain rfl : XM = ([], 4) := by rw [← HX.out.fm]; unfold comO; rw [if_neg hg]
          obtain rfl : XS = ([], 4) := by rw [← HX.out.fs]; unfold seaO; rw [if_neg hg]
          obtain rfl : XT = ([], 4) := by rw [← HX.out.ft]; unfold setO; rw [if_pos hg]
          obtain rfl : XH = ⟨0, 0, 0, 0, 4⟩ := by rw [← HX.out.fh]; unfold hedO; rw [if_neg hg]
          obtain rfl : n4 = 0 := rdb_n (S14.out.1.at_ 3 rfl)
          obtain rfl : n5 = 0 := lists_n S14.out.2
          clear hg h15
          go_wp2_with fail
          refine H15.out.mono ?_
          rintro e w15 ⟨rfl, hb⟩
          have S15 := Lib.hid (S14.out.1.step hb)
          have T1 := Lib.hid (told_yes w15 _ _ [] [] 4 4 (S15.out.at_ 2 rfl) (RdB.nil _ _) rfl rfl)
          have T2 := Lib.hid (told_yes w15 _ _ [] [] 4 4 (S15.out.at_ 1 rfl) (RdB.nil _ _) rfl rfl)
          have T3 := Lib.hid (told_yes w15 _ _ [] [] 4 4 (S15.out.at_ 0 rfl) (RdB.nil _ _) rfl rfl)
          clear hb H15 S14
          go_wp2_with fail
          refine T1.out.mono ?_
          rintro e w16 ⟨rfl, rfl⟩
          go_wp2_with fail
          refine T2.out.mono ?_
          rintro e w16 ⟨rfl, rfl⟩
          go_wp2_with fail
          refine T3.out.mono ?_
          rintro e w16 ⟨rfl, rfl⟩
          go_wp2
          go_ret
          exact ⟨rfl, S15.out.bl⟩
end Mun
