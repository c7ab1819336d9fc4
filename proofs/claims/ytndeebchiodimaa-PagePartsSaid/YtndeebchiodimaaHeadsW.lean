/- The law PageHeads: the walk. -/
import Derived.Test.YtndeebchiodimaaPageAw
import Derived.Test.YtndeebchiodimaaListsW
import Derived.Test.YtndeebchiodimaaP10
import Derived.Test.YtndeebchiodimaaP11
set_option maxRecDepth 100000
set_option linter.unusedVariables false
set_option linter.unusedSimpArgs false
namespace Mun
open Go Go.RowKit
open Go.Proofs

theorem Same.cells {p q : PBytes} (h : Same p q) (hg : GoodP p) : cellsP q (Mun.cnt q) = cellsP p (Mun.cnt p) := by
  rw [h.cnt]
  unfold cellsP
  apply List.map_congr_left
  intro i hi
  exact h.cell hg i (List.mem_range.1 hi)
theorem cells_small {p : PBytes} (hg : GoodP p) : ∀ c ∈ cellsP p (cnt p), c.length ≤ 512 := by
  intro c hc
  unfold cellsP at hc
  obtain ⟨i, hi, rfl⟩ := List.mem_map.1 hc
  unfold cellP
  rw [List.length_take, List.length_drop, hg.len]
  omega
theorem cells_max {p : PBytes} (hg : GoodP p) : ∀ c ∈ cellsP p (cnt p), c.length ≤ maxLen := fun c hc => Nat.le_trans (cells_small hg c hc) (by decide)

theorem heads_no (W : World) (v : Value) (p : List UInt8) (link extra : Int) (l : Nat) (hv : RdB NoF W v p) (hg : ¬ GoodP p) :
    Calls Try.prog 8 #[v, .int .i64 link, .int .i64 extra, .int .u64 l] W fun e W' => e = .returned (.bool true) ∧ Below W.heap.size W W' := by
  have HAW := Lib.hid (awake5 W)
  have hs := fun w1 (hb : Below W.heap.size W w1) => set_no w1 v p link extra (RdB.below hv hb) hg
  have hgo := fun w1 (hb : Below W.heap.size W w1) => good_any w1 v p (RdB.below hv hb)
  rw [goodB_false hg] at hgo
  have HS := Lib.hid hs
  have HGO := Lib.hid hgo
  obtain ⟨a, n, c, rfl, HN, -, -⟩ := hv.formN
  clear hv hs hgo hg HN
  go_enter Try.func8, Try.ntmps8
  go_wp2_with fail
  refine HAW.out.mono ?_
  rintro e w1 ⟨rfl, hb1⟩
  have HB1 := Lib.hid hb1
  clear hb1
  go_wp2_with fail
  refine (HS.out w1 HB1.out).mono ?_
  rintro e w2 ⟨rfl, hb2⟩
  have HB2 := Lib.hid (HB1.out.trans (hb2.mono HB1.out.size))
  clear hb2
  go_wp2_with fail
  refine (HGO.out w2 HB2.out).mono ?_
  rintro e w3 ⟨rfl, hb3⟩
  have HB3 := Lib.hid (HB2.out.trans (hb3.mono HB2.out.size))
  clear hb3
  go_wp2
  go_ret
  exact ⟨rfl, HB3.out⟩

theorem heads_bad (W : World) (v : Value) (p : List UInt8) (link extra : Int) (l : Nat) (hv : RdB NoF W v p) (hg : GoodP p)
    (hx : link < 0 ∨ (¬ link < 0 ∧ link > 4294967295) ∨ (¬ link < 0 ∧ ¬ link > 4294967295 ∧ extra < 0) ∨ (¬ link < 0 ∧ ¬ link > 4294967295 ∧ ¬ extra < 0 ∧ extra > 4294967295)) :
    Calls Try.prog 8 #[v, .int .i64 link, .int .i64 extra, .int .u64 l] W fun e W' => e = .returned (.bool true) ∧ Below W.heap.size W W' := by
  have HAW := Lib.hid (awake5 W)
  have hs := fun w1 (hb : Below W.heap.size W w1) => set_bad w1 v p link extra (RdB.below hv hb) hg hx
  have hgo := fun w1 (hb : Below W.heap.size W w1) => good_any w1 v p (RdB.below hv hb)
  rw [goodB_true hg] at hgo
  have HS := Lib.hid hs
  have HGO := Lib.hid hgo
  obtain ⟨a, n, c, rfl, HN, -, -⟩ := hv.formN
  clear hv hs hgo hg HN hx
  go_enter Try.func8, Try.ntmps8
  go_wp2_with fail
  refine HAW.out.mono ?_
  rintro e w1 ⟨rfl, hb1⟩
  have HB1 := Lib.hid hb1
  clear hb1
  go_wp2_with fail
  refine (HS.out w1 HB1.out).mono ?_
  rintro e w2 ⟨rfl, hb2⟩
  have HB2 := Lib.hid (HB1.out.trans (hb2.mono HB1.out.size))
  clear hb2
  go_wp2_with fail
  refine (HGO.out w2 HB2.out).mono ?_
  rintro e w3 ⟨rfl, hb3⟩
  have HB3 := Lib.hid (HB2.out.trans (hb3.mono HB2.out.size))
  clear hb3
  go_wp2
  go_ret
  exact ⟨rfl, HB3.out⟩

structure HeadsP (p q s t : PBytes) (L X l : Nat) : Prop where
  gp : GoodP p
  gq : GoodP q
  gs : GoodP s
  gdt : GoodP t
  kind : gt s 12 1 = gt p 12 1
  lsn : gt s 4 8 = l
  link : gt s 18 4 = L
  extra : gt s 22 4 = X
  lsn2 : gt t 4 8 = l
  link2 : gt t 18 4 = 0
  extra2 : gt t 22 4 = 0
  cells : cellsP s (cnt s) = cellsP p (cnt p)
  chk : checkP s = 0
  eq : setP p L X = q
  es : sealP q l = s
  et : setP s 0 0 = t

theorem heads_p {p : PBytes} (hg : GoodP p) (L X l : Nat) (hL : L < 4294967296) (hX : X < 4294967296) (hl : l < 18446744073709551616) : ∃ q s t, HeadsP p q s t L X l := by
  have h1 := set_same hg.len L X
  have g1 := h1.good hg
  have h2 := seal_same g1.len l
  have g2 := h2.good g1
  have h3 := set_same g2.len 0 0
  have g3 := h3.good g2
  refine ⟨_, _, _, hg, g1, g2, g3, ?_, gt_seal_lsn g1.len l hl, ?_, ?_, ?_, gt_set_link g2.len 0 0 (by decide), gt_set_extra g2.len 0 0 (by decide), (h1.trans h2).cells hg, check_seal g1 l, rfl, rfl, rfl⟩
  · rw [gt_seal g1.len l 12 1 (by omega), gt_set hg.len _ _ 12 1 (by omega)]
  · rw [gt_seal g1.len l 18 4 (by omega), gt_set_link hg.len _ _ hL]
  · rw [gt_seal g1.len l 22 4 (by omega), gt_set_extra hg.len _ _ hX]
  · rw [gt_set g2.len _ _ 4 8 (by omega), gt_seal_lsn g1.len l hl]

set_option maxHeartbeats 4000000 in
theorem heads_yes (W : World) (v : Value) (p : List UInt8) (L X l : Nat) (hv : RdB NoF W v p) (hg : GoodP p) (hL : L < 4294967296) (hX : X < 4294967296) (hl : l < 18446744073709551616) :
    Calls Try.prog 8 #[v, .int .i64 L, .int .i64 X, .int .u64 l] W fun e W' => e = .returned (.bool true) ∧ Below W.heap.size W W' := by
  have HAW := Lib.hid (awake5 W)
  have HV := Lib.hid hv
  obtain ⟨q, s, t, hh⟩ := heads_p hg L X l hL hX hl
  have HH := Lib.hid hh
  obtain ⟨z, hz⟩ : ∃ z, gt p 12 1 = z := ⟨_, rfl⟩
  have HZ := Lib.hid hz
  have HLX := Lib.hid (And.intro hL hX)
  obtain ⟨a, n, c, rfl, HN, -, -⟩ := hv.formN
  clear hv hg hL hX hl hh hz HN
  go_enter Try.func8, Try.ntmps8
  go_wp2_with fail
  refine HAW.out.mono ?_
  rintro e w1 ⟨rfl, hb1⟩
  have hs := set_yes w1 _ p L X (RdB.below HV.out hb1) HH.out.gp HLX.out.1 HLX.out.2
  rw [HH.out.eq] at hs
  have HB1 := Lib.hid hb1
  have HS := Lib.hid hs
  clear hb1 hs
  go_wp2_with fail
  refine HS.out.mono ?_
  rintro e w2 ⟨g, rfl, hpg, hgs, hb⟩
  have hs := seal_yes (F := NoF) w2 _ q l (hpg.rd (noF _)) HH.out.gq
  rw [HH.out.es] at hs
  have HB2 := Lib.hid (HB1.out.trans (hb.mono HB1.out.size))
  have HS2 := Lib.hid hs
  clear hpg hgs hb hs HS
  go_wp2_with fail
  refine HS2.out.mono ?_
  rintro e w3 ⟨g3, rfl, hpg, hgs, hb⟩
  have hB := HB2.out.trans (hb.mono HB2.out.size)
  have hs := head_yes w3 _ p (RdB.below HV.out hB) HH.out.gp
  rw [HZ.out] at hs
  have HB3 := Lib.hid (And.intro hB hpg)
  have HS3 := Lib.hid hs
  clear hpg hgs hb hs hB HS2
  go_wp2_with fail
  refine HS3.out.mono ?_
  rintro e w4 ⟨rfl, hb⟩
  have hB := HB3.out.1.trans (hb.mono HB3.out.1.size)
  have hpg := HB3.out.2.below hb
  have hs := head_yes (F := NoF) w4 _ s (hpg.rd (noF _)) HH.out.gs
  rw [HH.out.kind, HZ.out, HH.out.lsn, HH.out.link, HH.out.extra] at hs
  have HB4 := Lib.hid (And.intro hB hpg)
  have HS4 := Lib.hid hs
  clear hpg hb hs hB HS3
  go_wp2_with fail
  refine HS4.out.mono ?_
  rintro e w5 ⟨rfl, hb⟩
  have hB := HB4.out.1.trans (hb.mono HB4.out.1.size)
  have hpg := HB4.out.2.below hb
  have hs := cells_yes w5 _ p (RdB.below HV.out hB) HH.out.gp
  have HB5 := Lib.hid (And.intro hB hpg)
  have HS5 := Lib.hid hs
  clear hpg hb hs hB HS4
  go_wp2_with fail
  refine HS5.out.mono ?_
  rintro e w6 ⟨u6, gs6, rfl, hc6, hb⟩
  have hB := HB5.out.1.trans (hb.mono HB5.out.1.size)
  have hpg := HB5.out.2.below hb
  have hs := cells_yes (F := NoF) w6 _ s (hpg.rd (noF _)) HH.out.gs
  rw [HH.out.cells] at hs
  have hl6 := hc6.lists (cells_max HH.out.gp)
  obtain ⟨a6, n6, c6, rfl, HN6, -, -⟩ := hl6.form
  have HB6 := Lib.hid (And.intro hB (And.intro hpg hl6))
  have HS6 := Lib.hid hs
  clear hpg hb hs hB HS5 hc6 hl6
  go_wp2_with fail
  refine HS6.out.mono ?_
  rintro e w7 ⟨u7, gs7, rfl, hc7, hb⟩
  have hB := HB6.out.1.trans (hb.mono HB6.out.1.size)
  have hpg := HB6.out.2.1.below hb
  have hl6 := HB6.out.2.2.below hb
  have hl7 := hc7.lists (cells_max HH.out.gp)
  obtain ⟨a7, n7, c7, rfl, HN7, -, -⟩ := hl7.form
  have hs := set_yes (F := NoF) w7 _ s 0 0 (hpg.rd (noF _)) HH.out.gs (by decide) (by decide)
  rw [HH.out.et] at hs
  have HB7 := Lib.hid (And.intro hB (And.intro hpg (And.intro hl6 hl7)))
  have HS7 := Lib.hid hs
  clear hpg hb hs hB HS6 hc7 hl6 hl7
  go_wp2_with fail
  refine HS7.out.mono ?_
  rintro e w8 ⟨g8, rfl, hpg8, hgs, hb⟩
  have hB := HB7.out.1.trans (hb.mono HB7.out.1.size)
  have hpg := HB7.out.2.1.below hb
  have hl6 := HB7.out.2.2.1.below hb
  have hl7 := HB7.out.2.2.2.below hb
  have hs := head_yes (F := NoF) w8 _ t (hpg8.rd (noF _)) HH.out.gdt
  rw [HH.out.lsn2, HH.out.link2, HH.out.extra2] at hs
  have HB8 := Lib.hid (And.intro hB (And.intro hpg (And.intro hl6 hl7)))
  have HS8 := Lib.hid hs
  clear hpg hpg8 hgs hb hs hB HS7 hl6 hl7
  go_wp2_with fail
  refine HS8.out.mono ?_
  rintro e w9 ⟨rfl, hb⟩
  have hB := HB8.out.1.trans (hb.mono HB8.out.1.size)
  have hpg := HB8.out.2.1.below hb
  have hs := lists_any w9 _ _ _ _ _ _ (HB8.out.2.2.1.below hb) (HB8.out.2.2.2.below hb) true (by simp)
  have HB9 := Lib.hid (And.intro hB hpg)
  have HS9 := Lib.hid hs
  clear hpg hb hs hB HS8
  go_wp2_with fail
  refine HS9.out.mono ?_
  rintro e w10 ⟨rfl, hb⟩
  have hB := HB9.out.1.trans (hb.mono HB9.out.1.size)
  have hpg := HB9.out.2.below hb
  have hs := check_any (F := NoF) w10 _ s (hpg.rd (noF _))
  rw [HH.out.chk] at hs
  have HB10 := Lib.hid hB
  have HS10 := Lib.hid hs
  clear hpg hb hs hB HS9
  go_wp2_with fail
  refine HS10.out.mono ?_
  rintro e w11 ⟨rfl, hb⟩
  have HB11 := Lib.hid (HB10.out.trans (hb.mono HB10.out.size))
  clear hb HS10
  go_wp2
  go_ret
  exact ⟨rfl, HB11.out⟩

theorem heads_ok (W : World) (v : Value) (p : List UInt8) (link extra : Int) (l : Nat) (hv : RdB NoF W v p) (hl : l < 18446744073709551616) :
    Calls Try.prog 8 #[v, .int .i64 link, .int .i64 extra, .int .u64 l] W fun e W' => e = .returned (.bool true) ∧ Below W.heap.size W W' := by
  by_cases hg : GoodP p
  · by_cases h : 0 ≤ link ∧ link ≤ 4294967295 ∧ 0 ≤ extra ∧ extra ≤ 4294967295
    · obtain ⟨L, rfl⟩ := Int.eq_ofNat_of_zero_le h.1
      obtain ⟨X, rfl⟩ := Int.eq_ofNat_of_zero_le h.2.2.1
      exact heads_yes W v p L X l hv hg (by omega) (by omega) hl
    · exact heads_bad W v p link extra l hv hg (by omega)
  · exact heads_no W v p link extra l hv hg
end Mun
