/- The walk of DiskCertain. -/
import Derived.Test.YtmlggofojdhmmaaCertP
import Derived.Test.YtmlggofojdhmmaaDiskX
import Derived.Test.YtmlggofojdhmmaaZeros
set_option maxRecDepth 1000000
set_option linter.unusedVariables false
namespace Mun
open Go Go.RowKit
open Go.Proofs

theorem i64_and3 (n : Int) : ∃ q : Nat, bits .and .i64 n 3 = (q : Int) ∧ q ≤ 3 := by
  refine ⟨(n % 4).toNat, ?_, by omega⟩
  rw [i64_and_low n 2 (by decide) 3 (by decide) (by decide)]
  omega
theorem i64_and7 (n : Int) : ∃ q : Nat, bits .and .i64 n 7 = (q : Int) ∧ q ≤ 7 := by
  refine ⟨(n % 8).toNat, ?_, by omega⟩
  rw [i64_and_low n 3 (by decide) 7 (by decide) (by decide)]
  omega

set_option maxHeartbeats 4000000 in
theorem certain_ok (W : World) (n : Int) (bv : Value) (b : Bytes) (cv : Value) (c : Bytes) (lv : Value) (L : Bytes) (chv : Value) (ch : Bytes) (fu : Int)
    (hb : RdB NoF W bv b) (hbl : b.length ≤ 140737488351232) (hc : RdB NoF W cv c) (hcl : c.length ≤ 140737488351232) (hL : RdB NoF W lv L) (hLl : L.length ≤ 140737488351232) (hch : RdB NoF W chv ch) (hchl : ch.length ≤ 140737488351232) :
    Calls Try.prog 5 #[.int .i64 n, bv, cv, lv, chv, .int .i64 fu] W fun e W' => e = .returned (.bool true) ∧ Below W.heap.size W W' := by
  obtain ⟨k, hk, hk3⟩ := i64_and3 n
  obtain ⟨fq, hfq, hfq7⟩ := i64_and7 fu
  obtain ⟨ba, bn, bc, rfl, HBN, hbc, hbcm⟩ := hb.formN
  obtain ⟨ca, cn, cc, rfl, HCN, hcc, hccm⟩ := hc.formN
  obtain ⟨la, ln, lc, rfl, HLN, hlc, hlcm⟩ := hL.formN
  obtain ⟨cha, chn, chc, rfl, HCHN, hchc, hchcm⟩ := hch.formN
  have HB := Lib.hid (And.intro hb hbl)
  have HC := Lib.hid (And.intro hc hcl)
  have HL := Lib.hid (And.intro hL hLl)
  have HCH := Lib.hid (And.intro hch hchl)
  have HK := Lib.hid (And.intro hk3 hfq7)
  clear hb hbl hc hcl hL hLl hch hchl hbc hbcm hcc hccm hlcm hchcm hk3 hfq7
  go_enter Try.func5, Try.ntmps5
  go_wp2_with fail
  refine (awake6 W).mono ?_
  rintro e w1 ⟨rfl, hb1⟩
  have HB1 := Lib.hid hb1
  clear hb1
  go_wp2_with fail
  refine (d_new w1 8 4096 (by decide) (by decide) (by decide)).mono ?_
  rintro e w2 ⟨rfl, hw2⟩
  have hA2 : LawAt W w2 (w1.heap.size + 2) NoF (newFoot w1) (DM.new 8 4096) := by rw [← hw2]; exact LawAt.new HB1.out 8 4096 (fun _ h => False.elim h) (by decide) (by decide)
  obtain ⟨F2, hF2⟩ : ∃ F2, newFoot w1 = F2 := ⟨_, rfl⟩
  obtain ⟨D, hD⟩ : ∃ D, w1.heap.size + 2 = D := ⟨_, rfl⟩
  rw [hF2, hD] at hA2
  rw [hD]
  have hbw2 : RdB NoF w2 (.slice ba bn bc) b := RdV.keep HB.out.1 (fun k hk _ => hA2.below.block k hk) (fun _ _ h => h)
  obtain ⟨g1, cap1, w3, g2, cap2, w4, hr3, hr4, ho4, hb4, hg4, hcap4⟩ := padded (ty := 28) (ty2 := 28) hbw2 512 (by decide) (by have := HB.out.2; omega)
  have hcw4 : RdB NoF w4 (.slice ca cn cc) c := RdV.keep HC.out.1 (fun k hk _ => (hA2.grow hb4).below.block k hk) (fun _ _ h => h)
  obtain ⟨g3, cap3, w5, g4, cap4, w6, hr5, hr6, ho6, hb6, hg6, hcap6⟩ := padded (ty := 28) (ty2 := 28) hcw4 512 (by decide) (by have := HC.out.2; omega)
  rw [← HBN.out] at hr3 hr4 ho4 hcap4
  rw [← HCN.out] at hr5 hr6 ho6 hcap6
  have HR3 := Lib.hid hr3
  have HR4 := Lib.hid hr4
  have HR5 := Lib.hid hr5
  have HR6 := Lib.hid hr6
  have hbni : (bn : Int) ≤ 140737488351232 := by have := HB.out.2; have := HBN.out; omega
  have hcni : (cn : Int) ≤ 140737488351232 := by have := HC.out.2; have := HCN.out; omega
  have hA4 := hA2.grow hb4
  have hA6 := hA4.grow hb6
  obtain ⟨xa, xc, hsl4, hx4⟩ := slice_bytes_to (OwnB.rd (F := F2) ho4 (fun k hk hF => by have := hA2.lt k hF; omega)) 512 (by rw [List.length_append, List.length_replicate]; omega)
  obtain ⟨ya, yc, hsl6, hy6⟩ := slice_bytes_to (OwnB.rd (F := F2) ho6 (fun k hk hF => by have := hA4.lt k hF; omega)) 512 (by rw [List.length_append, List.length_replicate]; omega)
  rw [show (((512 : Nat)) : Int) = 512 from rfl] at hsl4 hsl6
  have hx6 : RdB F2 w6 (.slice xa 512 xc) (pad512 b) := RdB.below hx4 hb6
  have hy6' : RdB F2 w6 (.slice ya 512 yc) (pad512 c) := hy6
  have hXl := pad512_length b
  have hYl := pad512_length c
  obtain ⟨X, hX⟩ : ∃ X, pad512 b = X := ⟨_, rfl⟩
  obtain ⟨Y, hY⟩ : ∃ Y, pad512 c = Y := ⟨_, rfl⟩
  rw [hX] at hx6 hXl
  rw [hY] at hy6' hYl
  have H6 := Lib.hid (And.intro hA6 (And.intro hx6 hy6'))
  have HXY := Lib.hid (And.intro hXl hYl)
  clear hA2 hA4 hA6 ho4 hb4 hg4 ho6 hb6 hg6 hr3 hr4 hr5 hr6 hbw2 hcw4 hw2 hF2 hD hcap4 hcap6 hx4 hx6 hy6 hy6' hX hY hXl hYl
  by_cases hbig : 4096 < ln
  · have happ := d_append w6 D F2 (DM.new 8 4096) H6.out.1.disk (by decide) _ L (H6.out.1.rdB HL.out.1)
    rw [show (DM.new 8 4096).append L = (DM.new 8 4096, 7) by unfold DM.append; rw [if_neg (by simp [DM.new]), if_pos (by rw [← HLN.out]; simp [DM.new]; omega)]] at happ
    go_wp2_with (first
      | (at_builtin; refine Lib.wpList_append_run _ rfl _ _ _ _ rfl _ _ rfl rfl _ _ HR3.out ?_; clear HR3)
      | (at_builtin; refine Lib.wpList_append_run _ rfl _ _ _ _ rfl _ _ rfl rfl _ _ HR4.out ?_; clear HR4)
      | (at_builtin; refine Lib.wpList_append_run _ rfl _ _ _ _ rfl _ _ rfl rfl _ _ HR5.out ?_; clear HR5)
      | (at_builtin; refine Lib.wpList_append_run _ rfl _ _ _ _ rfl _ _ rfl rfl _ _ HR6.out ?_; clear HR6))
    refine happ.mono ?_
    rintro e w7 ⟨rfl, F7, hd7, hc7⟩
    have HA7 := Lib.hid (H6.out.1.chg hd7 hc7)
    clear happ hd7 hc7
    go_wp2
    go_ret
    exact ⟨rfl, HA7.out.below⟩
  · have hsm : ln ≤ 4096 := by omega
    go_wp2_with (first
      | (at_builtin; refine Lib.wpList_append_run _ rfl _ _ _ _ rfl _ _ rfl rfl _ _ HR3.out ?_; clear HR3)
      | (at_builtin; refine Lib.wpList_append_run _ rfl _ _ _ _ rfl _ _ rfl rfl _ _ HR4.out ?_; clear HR4)
      | (at_builtin; refine Lib.wpList_append_run _ rfl _ _ _ _ rfl _ _ rfl rfl _ _ HR5.out ?_; clear HR5)
      | (at_builtin; refine Lib.wpList_append_run _ rfl _ _ _ _ rfl _ _ rfl rfl _ _ HR6.out ?_; clear HR6))
    have hwr := d_write w6 D F2 (DM.new 8 4096) H6.out.1.disk (by decide) k _ X H6.out.2.1
    rw [write_nf rfl rfl k (by have := HK.out.1; simp [DM.new]; omega) X HXY.out.1] at hwr
    refine hwr.mono ?_
    rintro e w7 ⟨rfl, F7, hd7, hc7⟩
    have hA7 := H6.out.1.chg hd7 hc7
    have hx7 := H6.out.2.1.chg hc7
    have hy7 := H6.out.2.2.chg hc7
    have H7 := Lib.hid (And.intro hA7 (And.intro hx7 hy7))
    clear hwr hd7 hc7 hA7 hx7 hy7
    go_wp2_with fail
    have hap := d_append w7 D F7 _ H7.out.1.disk (by simp [DM.new]) _ L (H7.out.1.rdB HL.out.1)
    rw [append_nf rfl rfl L (by have := HLN.out; simp [DM.new]; omega)] at hap
    refine hap.mono ?_
    rintro e w8 ⟨rfl, F8, hd8, hc8⟩
    have hA8 := H7.out.1.chg hd8 hc8
    have hx8 := H7.out.2.1.chg hc8
    have hy8 := H7.out.2.2.chg hc8
    have H8 := Lib.hid (And.intro hA8 (And.intro hx8 hy8))
    clear hap hd8 hc8 hA8 hx8 hy8
    go_wp2_with fail
    have hsy := d_sync w8 D F8 _ H8.out.1.disk (by simp [DM.new])
    rw [sync_nf rfl rfl] at hsy
    refine hsy.mono ?_
    rintro e w9 ⟨rfl, F9, hd9, hc9⟩
    have hA9 := H8.out.1.chg hd9 hc9
    have hx9 := H8.out.2.1.chg hc9
    have hy9 := H8.out.2.2.chg hc9
    have H9 := Lib.hid (And.intro hA9 (And.intro hx9 hy9))
    clear hsy hd9 hc9 hA9 hx9 hy9
    go_wp2_with fail
    have hfo := d_force w9 D F9 _ H9.out.1.disk (by simp [DM.new])
    rw [force_nf rfl rfl] at hfo
    refine hfo.mono ?_
    rintro e w10 ⟨rfl, F10, hd10, hc10⟩
    have hA10 : LawAt W w10 D NoF F10 (certM k X L) := H9.out.1.chg hd10 hc10
    have hx10 := H9.out.2.1.chg hc10
    have hy10 := H9.out.2.2.chg hc10
    have H10 := Lib.hid (And.intro hA10 (And.intro hx10 hy10))
    clear hfo hd10 hc10 hA10 hx10 hy10
    go_wp2_with fail
    have hfu := d_fuse w10 D F10 _ H10.out.1.disk fq (by omega) (by have := HK.out.2; omega)
    refine hfu.mono ?_
    rintro e w11 ⟨rfl, hd11, hc11⟩
    have hA11 := H10.out.1.chg hd11 hc11
    have hx11 := H10.out.2.1.chg hc11
    have hy11 := H10.out.2.2.chg hc11
    have H11 := Lib.hid (And.intro hA11 (And.intro hx11 (And.intro hy11 ((certM_inv k X L (by have := HK.out.1; omega)).setFuse fq))))
    clear hfu hd11 hc11 hA11 hx11 hy11
    go_wp2
    go_loopw [18] (fun i wr => ∃ (j : Nat) (F : Foot) (m : DM), j ≤ 4 ∧ i = .int .i64 (j : Int) ∧ LawAt W wr D NoF F m ∧ CertInv L X k m (4 + 2 * j) ∧ RdB F wr (.slice xa 512 xc) X ∧ RdB F wr (.slice ya 512 yc) Y) (fun i _ => 4 - (intOf i).toNat)
    case atStart => exact ⟨0, _, _, by omega, rfl, H11.out.1, H11.out.2.2.2, H11.out.2.1, H11.out.2.2.1⟩
    case round =>
      obtain ⟨j, F, m, hj, rfl, hA, hI, hx, hy⟩ := hrel
      rcases Nat.lt_or_eq_of_le hj with hlt | heq
      · have hwr := d_write wr D F m hA.disk (by have := hI.ops; omega) (4 + (j : Int)) _ Y hy
        have hres := write_res (m := m) (4 + j) (by rw [hI.base]; omega) Y HXY.out.2
        have hI2 := hI.write (4 + j) (by omega) Y
        rw [show (((4 + j : Nat)) : Int) = 4 + (j : Int) from by push_cast; rfl] at hres hI2
        obtain ⟨r, hr⟩ : ∃ r, m.write (4 + (j : Int)) Y = r := ⟨_, rfl⟩
        rw [hr] at hwr hres hI2
        have hji : (j : Int) < 4 := by omega
        have HA := Lib.hid (And.intro hA (And.intro hx (And.intro hy hlt)))
        have HI2 := Lib.hid hI2
        have HRES := Lib.hid hres
        clear hA hI hx hy hI2 hres hr hlt hj
        go_wp2_with fail
        refine hwr.mono ?_
        rintro e w12 ⟨rfl, F12, hd12, hc12⟩
        have hA12 := HA.out.1.chg hd12 hc12
        have hx12 := HA.out.2.1.chg hc12
        have hy12 := HA.out.2.2.1.chg hc12
        have hone : RdB F12 (w12.alloc (.cells #[.int .u8 (j : Int)] 5)) (.slice (some ⟨w12.heap.size, 0, none⟩) 1 1) [UInt8.ofNat j] :=
          lit_rd w12 _ _ [UInt8.ofNat j] (by simp [bv]; omega) _ _ _ rfl rfl rfl (by simp [maxLen]) (fun hF => absurd (hA12.lt _ hF) (Nat.lt_irrefl _))
        have hap := d_append (w12.alloc (.cells #[.int .u8 (j : Int)] 5)) D F12 r.1 (hA12.more _).disk (by have := HI2.out.ops; omega) _ _ hone
        have har := append_res r.1 [UInt8.ofNat j]
        have had := fun h => append_dead (m := r.1) h [UInt8.ofNat j]
        have hI3 := HI2.out.append [UInt8.ofNat j]
        obtain ⟨q, hq⟩ : ∃ q, r.1.append [UInt8.ofNat j] = q := ⟨_, rfl⟩
        rw [hq] at hap har had hI3
        have hcases : (r.2 = 0 ∧ (q.2 = 0 ∨ q.2 = 7 ∨ q.2 = 9)) ∨ (r.2 = 9 ∧ q.2 = 9) := by
          rcases HRES.out with h | ⟨h1, h2⟩
          · exact .inl ⟨h, har⟩
          · exact .inr ⟨h1, had h2⟩
        obtain ⟨w13, hw13⟩ : ∃ w13, w12.alloc (.cells #[.int .u8 (j : Int)] 5) = w13 := ⟨_, rfl⟩
        have hA13 := hA12.more (.cells #[.int .u8 (j : Int)] 5)
        have hx13 := hx12.alloc (.cells #[.int .u8 (j : Int)] 5)
        have hy13 := hy12.alloc (.cells #[.int .u8 (j : Int)] 5)
        rw [hw13] at hap hA13 hx13 hy13
        have H13 := Lib.hid (And.intro hA13 (And.intro hx13 (And.intro hy13 hI3)))
        have HAP := Lib.hid hap
        clear hwr hd12 hc12 hA12 hx12 hy12 hone hap har had hI3 hq hA13 hx13 hy13
        obtain ⟨re, hre⟩ : ∃ re, r.2 = re := ⟨_, rfl⟩
        rw [hre] at hcases ⊢
        clear hre
        go_wp2_with fail
        refine HAP.out.mono ?_
        rintro e w14 ⟨rfl, F14, hd14, hc14⟩
        have HA14 := Lib.hid (H13.out.1.chg hd14 hc14)
        have HX14 := Lib.hid (H13.out.2.1.chg hc14)
        have HY14 := Lib.hid (H13.out.2.2.1.chg hc14)
        have HI14 := Lib.hid H13.out.2.2.2
        obtain ⟨q1, q2⟩ := q
        simp only at hcases HA14 HI14 ⊢
        clear hd14 hc14 hw13
        rcases hcases with ⟨rfl, rfl | rfl | rfl⟩ | ⟨rfl, rfl⟩
        all_goals
          go_wp2
          go_roundw
          case rel => exact ⟨j + 1, F14, q1, by have := HA.out.2.2.2; omega, by go_num, HA14.out, HI14.out, HX14.out, HY14.out⟩
          case measure => have := HA.out.2.2.2; simp [intOf]; omega
      · subst heq
        have hwf := hA.disk.wf
        have hk4 : k < 4 := by have := HK.out.1; omega
        obtain ⟨hp1, hp2, hp3⟩ := hI.left hwf hk4 ch
        have hcr := d_crash wr D F m hA.disk (by have := hI.ops; omega) _ ch (hA.rdB HCH.out.1)
        have hbase : (m.crash ch).base.length = 8 := (crashPages_length _ _).trans hI.base
        have hag5 := crash_again_page m ch ch 5
        have hagl := crash_again_log m ch ch
        have hwf2 := DM.crash_wf hwf ch
        have hwf3 := DM.crash_wf hwf2 ch
        have hbase3 : ((m.crash ch).crash ch).base.length = 8 := (crashPages_length (m.crash ch) ch).trans hbase
        obtain ⟨m2, hm2⟩ : ∃ m2, m.crash ch = m2 := ⟨_, rfl⟩
        have e2 : m2.dead = false ∧ m2.ops = 0 ∧ m2.certain = m2.log.length := by rw [← hm2]; exact ⟨rfl, rfl, rfl⟩
        rw [hm2] at hcr hp1 hp2 hp3 hbase hag5 hagl hwf2 hwf3 hbase3
        obtain ⟨m3, hm3⟩ : ∃ m3, m2.crash ch = m3 := ⟨_, rfl⟩
        have e3 : m3.dead = false := by rw [← hm3]; rfl
        rw [hm3] at hag5 hagl hwf3 hbase3
        obtain ⟨lg, hlg⟩ : ∃ lg, m2.log = lg := ⟨_, rfl⟩
        obtain ⟨P5, hP5⟩ : ∃ P5, m2.page 5 = P5 := ⟨_, rfl⟩
        have hP5l : P5.length = 512 := by rw [← hP5]; exact DM.page_length hwf2 5 (by rw [hbase]; decide)
        have hlgl : lg.length ≤ 16777216 := by rw [← hlg]; have := hwf2.room; have := hwf2.room24; omega
        rw [hlg] at hp2 hp3 hagl e2
        rw [hP5] at hag5
        have HA := Lib.hid (And.intro hA (And.intro hx (And.intro hwf2 (And.intro hlg hP5))))
        have HE := Lib.hid (And.intro e2 (And.intro e3 (And.intro hp1 (And.intro hp2 (And.intro hp3 (And.intro hag5 hagl))))))
        have HBB := Lib.hid (And.intro hbase (And.intro hbase3 (And.intro hP5l (And.intro hlgl (And.intro hk4 hm3)))))
        clear hA hI hx hy hwf hp1 hp2 hp3 hbase hag5 hagl hwf2 hwf3 hbase3 hm2 e2 hm3 e3 hlg hP5 hP5l hlgl hk4 hj
        go_wp2_with fail
        refine hcr.mono ?_
        rintro e w20 ⟨rfl, F20, hd20, hb20, hF20⟩
        obtain ⟨D20, hD20⟩ : ∃ D20, wr.heap.size + 2 = D20 := ⟨_, rfl⟩
        rw [hD20] at hd20 ⊢
        have hA20 := HA.out.1.grow hb20
        have hch20 : RdB F20 w20 (.slice cha chn chc) ch := RdV.keep HCH.out.1 (fun k hk _ => hA20.below.block k hk) (fun k hk hF => by have := hF20 k hF; have := HA.out.1.below.size; omega)
        have hcr2 := d_crash w20 D20 F20 m2 hd20 (by rw [HE.out.1.2.1]; decide) _ ch hch20
        rw [HBB.out.2.2.2.2.2] at hcr2
        have H20 := Lib.hid (And.intro hA20 hd20)
        have hx20 := HA.out.2.1.below hb20
        have HX20 := Lib.hid hx20
        clear hcr hb20 hF20 hA20 hch20 hd20 hD20 hx20
        go_wp2_with fail
        refine hcr2.mono ?_
        rintro e w21 ⟨rfl, F21, hd21, hb21, hF21⟩
        obtain ⟨D21, hD21⟩ : ∃ D21, w20.heap.size + 2 = D21 := ⟨_, rfl⟩
        rw [hD21] at hd21 ⊢
        have hA21 := H20.out.1.grow hb21
        have hd20' := H20.out.2.below hb21
        have hx21 := HX20.out.below hb21
        have hR1 := d_read w21 D20 F20 m2 hd20' HE.out.1.1 k (by rw [HBB.out.1]; have := HBB.out.2.2.2.2.1; omega)
        rw [HE.out.2.2.1] at hR1
        have hb22 : Below w21.heap.size w21 (w21.alloc (bobj X)) := (Below.refl _ _).alloc (Nat.le_refl _) _
        obtain ⟨w22, hw22⟩ : ∃ w22, w21.alloc (bobj X) = w22 := ⟨_, rfl⟩
        rw [hw22] at hR1 hb22
        have hL1 := d_log w22 D20 F20 m2 (hd20'.below hb22) HE.out.1.1
        rw [HA.out.2.2.2.1] at hL1
        obtain ⟨w23, hw23⟩ : ∃ w23, w22.alloc (bobj lg) = w23 := ⟨_, rfl⟩
        have hb23 : Below w21.heap.size w21 w23 := by rw [← hw23]; exact hb22.alloc hb22.size _
        rw [hw23] at hL1
        have hR2 := d_read w23 D21 F21 m3 (hd21.below hb23) HE.out.2.1 5 (by rw [HBB.out.2.1]; decide)
        rw [HE.out.2.2.2.2.2.1] at hR2
        obtain ⟨w24, hw24⟩ : ∃ w24, w23.alloc (bobj P5) = w24 := ⟨_, rfl⟩
        have hb24 : Below w21.heap.size w21 w24 := by rw [← hw24]; exact hb23.alloc hb23.size _
        rw [hw24] at hR2
        have hR3 := d_read w24 D20 F20 m2 (hd20'.below hb24) HE.out.1.1 5 (by rw [HBB.out.1]; decide)
        rw [HA.out.2.2.2.2] at hR3
        obtain ⟨w25, hw25⟩ : ∃ w25, w24.alloc (bobj P5) = w25 := ⟨_, rfl⟩
        have hb25 : Below w21.heap.size w21 w25 := by rw [← hw25]; exact hb24.alloc hb24.size _
        rw [hw25] at hR3
        have hL2 := d_log w25 D21 F21 m3 (hd21.below hb25) HE.out.2.1
        rw [HE.out.2.2.2.2.2.2] at hL2
        obtain ⟨w26, hw26⟩ : ∃ w26, w25.alloc (bobj lg) = w26 := ⟨_, rfl⟩
        have hb26 : Below w21.heap.size w21 w26 := by rw [← hw26]; exact hb25.alloc hb25.size _
        rw [hw26] at hL2
        have hlgl := HBB.out.2.2.2.1
        have hP5l := HBB.out.2.2.1
        have hXl := HXY.out.1
        have p1 : RdB NoF w26 (.slice (some ⟨w21.heap.size, 0, none⟩) 512 512) X := by
          rw [← hw26, ← hw25, ← hw24, ← hw23, ← hw22]
          have := ((((bobj_rd (F := NoF) w21 X X.length rfl (maxLen_ge (by omega)) (noF _)).alloc (bobj lg)).alloc (bobj P5)).alloc (bobj P5)).alloc (bobj lg)
          rw [hXl] at this
          exact this
        have p2 : RdB NoF w26 (.slice (some ⟨w22.heap.size, 0, none⟩) lg.length lg.length) lg := by
          rw [← hw26, ← hw25, ← hw24, ← hw23]
          exact (((bobj_rd (F := NoF) w22 lg lg.length rfl (maxLen_ge (by omega)) (noF _)).alloc (bobj P5)).alloc (bobj P5)).alloc (bobj lg)
        have p3 : RdB NoF w26 (.slice (some ⟨w23.heap.size, 0, none⟩) 512 512) P5 := by
          rw [← hw26, ← hw25, ← hw24]
          have := ((bobj_rd (F := NoF) w23 P5 P5.length rfl (maxLen_ge (by omega)) (noF _)).alloc (bobj P5)).alloc (bobj lg)
          rw [hP5l] at this
          exact this
        have p4 : RdB NoF w26 (.slice (some ⟨w24.heap.size, 0, none⟩) 512 512) P5 := by
          rw [← hw26, ← hw25]
          have := (bobj_rd (F := NoF) w24 P5 P5.length rfl (maxLen_ge (by omega)) (noF _)).alloc (bobj lg)
          rw [hP5l] at this
          exact this
        have p5 : RdB NoF w26 (.slice (some ⟨w25.heap.size, 0, none⟩) lg.length lg.length) lg := by
          rw [← hw26]
          exact bobj_rd (F := NoF) w25 lg lg.length rfl (maxLen_ge (by omega)) (noF _)
        have hA26 := hA21.grow hb26
        have p6 : RdB F w26 (.slice xa 512 xc) X := hx21.below hb26
        have p7 : RdB NoF w26 (.slice la ln lc) L := RdV.keep HL.out.1 (fun k hk _ => hA26.below.block k hk) (fun _ _ h => h)
        have hll := HE.out.2.2.2.1
        obtain ⟨pa, pc, hsl, p8⟩ := slice_bytes_to p2 L.length hll
        rw [HE.out.2.2.2.2.1] at p8
        rw [← HLN.out] at hsl p8
        have hdk := hd20'.below hb26
        have hcq := fun nq => d_certain (w26.drewN nq) D20 F20 m2 (hdk.drewN nq)
        rw [HE.out.1.2.2] at hcq
        obtain ⟨lb, hlb⟩ : ∃ lb, lg.length = lb := ⟨_, rfl⟩
        rw [hlb] at hL1 hL2 p2 p5 hsl hcq
        have t1 : (ln : Int) ≤ (lb : Int) := by have := HLN.out; omega
        have c1 := fun nq => str_bytes (p1.drewN nq)
        have c2 := fun nq => str_bytes (p2.drewN nq)
        have c3 := fun nq => str_bytes (p3.drewN nq)
        have c4 := fun nq => str_bytes (p4.drewN nq)
        have c5 := fun nq => str_bytes (p5.drewN nq)
        have c6 := fun nq => str_bytes (p6.drewN nq)
        have c7 := fun nq => str_bytes (p7.drewN nq)
        have c8 := fun nq => str_bytes (p8.drewN nq)
        have HFIN := Lib.hid hA26.below
        have HR1 := Lib.hid hR1
        have HL1 := Lib.hid hL1
        have HR2 := Lib.hid hR2
        have HR3 := Lib.hid hR3
        have HL2 := Lib.hid hL2
        have t0 : (0 : Int) ≤ (ln : Int) := by omega
        clear hR1 hL1 hR2 hR3 hL2 p1 p2 p3 p4 p5 p6 p7 p8 hA26 hlgl hP5l hXl hll hdk hlb hb22 hb23 hb24 hb25 hb26 hw22 hw23 hw24 hw25 hw26 hA21 hd20' hx21 hd21 hb21 hF21 hD21 hcr2
        go_wp2_with fail
        refine HR1.out.mono ?_
        rintro e W' ⟨rfl, rfl⟩
        go_wp2_with fail
        refine HL1.out.mono ?_
        rintro e W' ⟨rfl, rfl⟩
        go_wp2_with fail
        refine HR2.out.mono ?_
        rintro e W' ⟨rfl, rfl⟩
        go_wp2_with fail
        refine HR3.out.mono ?_
        rintro e W' ⟨rfl, rfl⟩
        go_wp2_with fail
        refine HL2.out.mono ?_
        rintro e W' ⟨rfl, rfl⟩
        go_wp2
        go_quiet ((go_at_call 24; exact quiet_eq (hcq _)))
        go_wp2
        go_ret
        exact ⟨rfl, below_drewN HFIN.out _⟩
end Mun
