/- The law PageKnown: the walk. -/
import Derived.Test.YtndeebchiodimaaPageAw
import Derived.Test.YtndeebchiodimaaPageJ
import Derived.Test.YtndeebchiodimaaP11
import Derived.Test.YtndeebchiodimaaP15
import Derived.Test.YtndeebchiodimaaP10
set_option maxRecDepth 100000
set_option linter.unusedVariables false
set_option linter.unusedSimpArgs false
namespace Mun
open Go Go.RowKit
open Go.Proofs

/-- pages that lie there -/
def Pgs (w : World) (L : List (Nat × PBytes)) : Prop := ∀ x ∈ L, PgAt w x.1 x.2
theorem Pgs.below {w w' : World} {L : List (Nat × PBytes)} (h : Pgs w L) (hb : Below w.heap.size w w') : Pgs w' L := fun x hx => (h x hx).below hb
theorem Pgs.nil (w : World) : Pgs w [] := fun x hx => by simp at hx
theorem Pgs.cons {w : World} {L : List (Nat × PBytes)} {g : Nat} {p : PBytes} (h : PgAt w g p) (hl : Pgs w L) : Pgs w ((g, p) :: L) := by
  intro x hx
  rcases List.mem_cons.1 hx with rfl | hx
  · exact h
  · exact hl x hx

structure KnownP (a b c d t : PBytes) : Prop where
  ga : GoodP a
  gb : GoodP b
  gc : GoodP c
  gd : GoodP d
  gt : GoodP t
  ca : cnt a = 1
  cb : cnt b = 2
  cc : cnt c = 1
  fa : freeP a = 480
  fc : freeP c = 480
  ft : freeP t = 472
  lb : lowP b = 509
  lc : lowP c = 509
  ld : lowP d = 34
  eb : insP a 0 [99] = b
  ec : remP b 0 = c
  ed : insP c 1 (zer 476) = d
  et : insP (newP 1) 0 (zer 10) = t
  ea : insP (newP 1) 0 [97, 98] = a

theorem known_p : ∃ a b c d t, KnownP a b c d t := by
  have ha := ins_facts (new_good 1) (i := 0) (Nat.zero_le _) (c := [97, 98]) (by rw [new_free]; decide)
  have fa : freeP (insP (newP 1) 0 [97, 98]) = 480 := by decide +kernel
  have hb := ins_facts ha.good (i := 0) (Nat.zero_le _) (c := [99]) (by rw [fa]; decide)
  have ca : cnt (insP (newP 1) 0 [97, 98]) = 1 := by rw [ha.cnt, new_cnt]
  have cb : cnt (insP (insP (newP 1) 0 [97, 98]) 0 [99]) = 2 := by rw [hb.cnt, ca]
  have hc := rem_facts hb.good (i := 0) (by rw [cb]; decide)
  have cc : cnt (remP (insP (insP (newP 1) 0 [97, 98]) 0 [99]) 0) = 1 := by rw [hc.cnt, cb]
  have fc : freeP (remP (insP (insP (newP 1) 0 [97, 98]) 0 [99]) 0) = 480 := by decide +kernel
  have hd := ins_facts hc.good (i := 1) (by rw [cc]; exact Nat.le_refl _) (c := zer 476) (by rw [fc, zer_length]; decide)
  have ht := ins_facts (new_good 1) (i := 0) (Nat.zero_le _) (c := zer 10) (by rw [new_free, zer_length]; decide)
  exact ⟨_, _, _, _, _, ha.good, hb.good, hc.good, hd.good, ht.good, ca, cb, cc, fa, fc, by decide +kernel, by decide +kernel, by decide +kernel, by decide +kernel, rfl, rfl, rfl, rfl, rfl⟩

theorem check_zero : checkP (zer 512) = 0 := by unfold checkP; rw [if_pos rfl]
theorem check_new : checkP (newP 1) = 8 := by
  unfold checkP
  rw [if_neg (by decide +kernel), if_neg (by simpa using new_good 1), if_pos ?_]
  have h1 : gt (newP 1) 0 4 = 0 := by decide +kernel
  rw [h1]
  exact Ne.symm (crc_ne_zero (by decide +kernel))

theorem made (w : World) (n : Nat) (N : Int) (hN : N = n) (hn : n ≤ 512) : (Instr.makeSlice 22 (.int .i64 N) (.int .i64 N)).run Try.prog w = .ok (.slice (some ⟨w.heap.size, 0, none⟩) n n) (w.alloc (bobj (zer n))) := by
  subst hN
  exact make_bytes n n (Nat.le_refl _) (by omega) w
theorem made_rd (w : World) (n : Nat) (hn : n ≤ 512) : RdB NoF (w.alloc (bobj (zer n))) (.slice (some ⟨w.heap.size, 0, none⟩) n n) (zer n) :=
  bobj_rdAt (heap_alloc_new w _) n (zer_length n) (by unfold maxLen; omega) (noF _)

set_option maxHeartbeats 4000000 in
theorem known_ok (W : World) : Calls Try.prog 6 #[] W fun e W' => e = .returned (.bool true) ∧ Below W.heap.size W W' := by
  obtain ⟨a, b, c, d, t, hk⟩ := known_p
  have HK := Lib.hid hk
  have HN := Lib.hid (new_yes W 1 (by decide))
  clear hk
  go_enter Try.func6, Try.ntmps6
  go_wp2_with fail
  refine HN.out.mono ?_
  rintro e w1 ⟨g1, rfl, hpg, hgs, hb⟩
  have hcv := conv_bytes w1 #[.int .u8 97, .int .u8 98] w1.heap.size 2 2 rfl
  have hlit : RdB NoF (w1.alloc (.cells #[.int .u8 97, .int .u8 98] 5 (2, 3))) (.slice (some ⟨w1.heap.size, 0, none⟩) 2 2) [97, 98] := lit_rd w1 _ _ _ (by rfl) _ _ _ rfl rfl rfl (by decide) (noF _)
  have hb2 : Below w1.heap.size w1 (w1.alloc (.cells #[.int .u8 97, .int .u8 98] 5 (2, 3))) := (Below.refl _ _).alloc (Nat.le_refl _) _
  have hpg2 := hpg.below hb2
  have hi := insert_yes (F := NoF) _ _ _ _ _ 0 (hpg2.rd (noF _)) hlit (new_good 1) (Nat.zero_le _) (by rw [new_free]; decide)
  rw [HK.out.ea] at hi
  have H1 := Lib.hid (And.intro (hb.trans (hb2.mono hb.size)) (Pgs.cons hpg2 (Pgs.nil _)))
  have HI := Lib.hid hi
  clear hpg hgs hb hlit hb2 hpg2 hi HN
  go_wp2_with fail
  refine HI.out.mono ?_
  rintro e w2 ⟨g2, rfl, hpg, hgs, hb⟩
  have hB := H1.out.1.trans (hb.mono H1.out.1.size)
  have hP := Pgs.cons hpg (H1.out.2.below hb)
  clear hcv
  have hcv := conv_bytes w2 #[.int .u8 99] w2.heap.size 1 1 rfl
  have hlit : RdB NoF (w2.alloc (.cells #[.int .u8 99] 5 (1, 2))) (.slice (some ⟨w2.heap.size, 0, none⟩) 1 1) [99] := lit_rd w2 _ _ _ (by rfl) _ _ _ rfl rfl rfl (by decide) (noF _)
  have hb2 : Below w2.heap.size w2 (w2.alloc (.cells #[.int .u8 99] 5 (1, 2))) := (Below.refl _ _).alloc (Nat.le_refl _) _
  have hi := insert_yes (F := NoF) _ _ _ _ _ 0 ((hpg.below hb2).rd (noF _)) hlit HK.out.ga (Nat.zero_le _) (by rw [HK.out.fa]; decide)
  rw [HK.out.eb] at hi
  have H2 := Lib.hid (And.intro (hB.trans (hb2.mono hB.size)) (hP.below hb2))
  have HI2 := Lib.hid hi
  clear hpg hgs hb hB hP hlit hb2 hi HI H1
  go_wp2_with fail
  refine HI2.out.mono ?_
  rintro e w3 ⟨g3, rfl, hpg, hgs, hb⟩
  have hB := H2.out.1.trans (hb.mono H2.out.1.size)
  have hP := Pgs.cons hpg (H2.out.2.below hb)
  have hi := remove_yes (F := NoF) _ _ _ 0 (hpg.rd (noF _)) HK.out.gb (by rw [HK.out.cb]; decide)
  rw [HK.out.ec] at hi
  have H3 := Lib.hid (And.intro hB hP)
  have HI3 := Lib.hid hi
  clear hpg hgs hb hB hP hi HI2 H2 hcv
  go_wp2_with fail
  refine HI3.out.mono ?_
  rintro e w4 ⟨g4, rfl, hpg, hgs, hb⟩
  have hB := H3.out.1.trans (hb.mono H3.out.1.size)
  have hP := Pgs.cons hpg (H3.out.2.below hb)
  have hmk := made w4 477 477 rfl (by decide)
  have hb2 : Below w4.heap.size w4 (w4.alloc (bobj (zer 477))) := (Below.refl _ _).alloc (Nat.le_refl _) _
  have hi := insert_full (F := NoF) _ _ _ _ _ 1 ((hpg.below hb2).rd (noF _)) (made_rd w4 477 (by decide)) HK.out.gc (by rw [HK.out.cc]; exact Nat.le_refl _) (by rw [HK.out.fc, zer_length]; decide) (by rw [zer_length]; decide)
  have H4 := Lib.hid (And.intro (hB.trans (hb2.mono hB.size)) (hP.below hb2))
  have HI4 := Lib.hid hi
  clear hpg hgs hb hB hP hb2 hi HI3 H3
  go_wp2_with fail
  refine HI4.out.mono ?_
  rintro e w5 ⟨rfl, hb⟩
  have hB := H4.out.1.trans (hb.mono H4.out.1.size)
  have hP := H4.out.2.below hb
  clear hmk
  have hmk := made w5 476 476 rfl (by decide)
  have hb2 : Below w5.heap.size w5 (w5.alloc (bobj (zer 476))) := (Below.refl _ _).alloc (Nat.le_refl _) _
  have hi := insert_yes (F := NoF) _ _ _ _ _ 1 ((hP.below hb2 (g4, c) (by simp)).rd (noF _)) (made_rd w5 476 (by decide)) HK.out.gc (by rw [HK.out.cc]; exact Nat.le_refl _) (by rw [HK.out.fc, zer_length]; decide)
  rw [HK.out.ed] at hi
  have H5 := Lib.hid (And.intro (hB.trans (hb2.mono hB.size)) (hP.below hb2))
  have HI5 := Lib.hid hi
  clear hb hB hP hb2 hi HI4 H4
  go_wp2_with fail
  refine HI5.out.mono ?_
  rintro e w6 ⟨g6, rfl, hpg, hgs, hb⟩
  have hB := H5.out.1.trans (hb.mono H5.out.1.size)
  have hP := Pgs.cons hpg (H5.out.2.below hb)
  clear hmk
  have hmk := made w6 10 10 rfl (by decide)
  have hb2 : Below w6.heap.size w6 (w6.alloc (bobj (zer 10))) := (Below.refl _ _).alloc (Nat.le_refl _) _
  have hi := insert_yes (F := NoF) _ _ _ _ _ 0 ((hP.below hb2 (g1, newP 1) (by simp)).rd (noF _)) (made_rd w6 10 (by decide)) (new_good 1) (Nat.zero_le _) (by rw [new_free, zer_length]; decide)
  rw [HK.out.et] at hi
  have H6 := Lib.hid (And.intro (hB.trans (hb2.mono hB.size)) (hP.below hb2))
  have HI6 := Lib.hid hi
  clear hpg hgs hb hB hP hb2 hi HI5 H5
  go_wp2_with fail
  refine HI6.out.mono ?_
  rintro e w7 ⟨g7, rfl, hpg, hgs, hb⟩
  have hB := H6.out.1.trans (hb.mono H6.out.1.size)
  have hP := Pgs.cons hpg (H6.out.2.below hb)
  have hi := pfree_yes (F := NoF) w7 _ _ ((hP (g1, newP 1) (by simp)).rd (noF _)) (new_good 1)
  rw [new_free] at hi
  have H7 := Lib.hid (And.intro hB hP)
  have HI7 := Lib.hid hi
  clear hpg hgs hb hB hP hi HI6 H6 hmk
  go_wp2_with fail
  refine HI7.out.mono ?_
  rintro e w8 ⟨rfl, hb⟩
  have hB := H7.out.1.trans (hb.mono H7.out.1.size)
  have hP := H7.out.2.below hb
  have hi := pfree_yes (F := NoF) w8 _ _ ((hP (g7, t) (by simp)).rd (noF _)) HK.out.gt
  rw [HK.out.ft] at hi
  have H8 := Lib.hid (And.intro hB hP)
  have HI8 := Lib.hid hi
  clear hb hB hP hi HI7 H7
  go_wp2_with fail
  refine HI8.out.mono ?_
  rintro e w9 ⟨rfl, hb⟩
  have hB := H8.out.1.trans (hb.mono H8.out.1.size)
  have hP := H8.out.2.below hb
  have hi := seal_yes (F := NoF) w9 _ _ 5 ((hP (g1, newP 1) (by simp)).rd (noF _)) (new_good 1)
  have H9 := Lib.hid (And.intro hB hP)
  have HI9 := Lib.hid hi
  clear hb hB hP hi HI8 H8
  go_wp2_with fail
  refine HI9.out.mono ?_
  rintro e w10 ⟨g10, rfl, hpg, hgs, hb⟩
  have hB := H9.out.1.trans (hb.mono H9.out.1.size)
  have hP := Pgs.cons hpg (H9.out.2.below hb)
  have H10 := Lib.hid (And.intro hB hP)
  have HI10 := Lib.hid (awake5 w10)
  clear hpg hgs hb hB hP HI9 H9
  go_wp2_with fail
  refine HI10.out.mono ?_
  rintro e w11 ⟨rfl, hb⟩
  have hB := H10.out.1.trans (hb.mono H10.out.1.size)
  have hP := H10.out.2.below hb
  have hi1 := low_page (F := NoF) w11 _ _ ((hP (g3, b) (by simp)).rd (noF _)) HK.out.gb.len
  have hi2 := low_page (F := NoF) w11 _ _ ((hP (g4, c) (by simp)).rd (noF _)) HK.out.gc.len
  have hi3 := low_page (F := NoF) w11 _ _ ((hP (g6, d) (by simp)).rd (noF _)) HK.out.gd.len
  rw [HK.out.lb] at hi1
  rw [HK.out.lc] at hi2
  rw [HK.out.ld] at hi3
  have H11 := Lib.hid (And.intro hB hP)
  have HI11 := Lib.hid (And.intro hi1 (And.intro hi2 hi3))
  clear hb hB hP hi1 hi2 hi3 HI10 H10
  go_wp2_with fail
  refine HI11.out.1.mono ?_
  rintro e w12 ⟨rfl, rfl⟩
  go_wp2_with fail
  refine HI11.out.2.1.mono ?_
  rintro e w13 ⟨rfl, rfl⟩
  go_wp2_with fail
  refine HI11.out.2.2.mono ?_
  rintro e w14 ⟨rfl, rfl⟩
  have hmk := made w11 512 512 rfl (by decide)
  have hb2 : Below w11.heap.size w11 (w11.alloc (bobj (zer 512))) := (Below.refl _ _).alloc (Nat.le_refl _) _
  have hi := check_any (F := NoF) _ _ _ (made_rd w11 512 (by decide))
  rw [check_zero] at hi
  have H12 := Lib.hid (And.intro (H11.out.1.trans (hb2.mono H11.out.1.size)) (H11.out.2.below hb2))
  have HI12 := Lib.hid hi
  clear hb2 hi HI11 H11
  go_wp2_with fail
  refine HI12.out.mono ?_
  rintro e w15 ⟨rfl, hb⟩
  have hB := H12.out.1.trans (hb.mono H12.out.1.size)
  have hP := H12.out.2.below hb
  have hi := check_any (F := NoF) w15 _ _ ((hP (g1, newP 1) (by simp)).rd (noF _))
  rw [check_new] at hi
  have H13 := Lib.hid (And.intro hB hP)
  have HI13 := Lib.hid hi
  clear hb hB hP hi HI12 H12 hmk
  go_wp2_with fail
  refine HI13.out.mono ?_
  rintro e w16 ⟨rfl, hb⟩
  have hB := H13.out.1.trans (hb.mono H13.out.1.size)
  have hP := H13.out.2.below hb
  have hi := check_any (F := NoF) w16 _ _ ((hP (g10, sealP (newP 1) 5) (by simp)).rd (noF _))
  rw [check_seal (new_good 1)] at hi
  have H14 := Lib.hid (And.intro hB hP)
  have HI14 := Lib.hid hi
  clear hb hB hP hi HI13 H13
  go_wp2_with fail
  refine HI14.out.mono ?_
  rintro e w17 ⟨rfl, hb⟩
  have hB := H14.out.1.trans (hb.mono H14.out.1.size)
  have HF := Lib.hid hB
  clear hb hB HI14 H14
  go_wp2
  go_ret
  exact ⟨rfl, HF.out⟩
end Mun
