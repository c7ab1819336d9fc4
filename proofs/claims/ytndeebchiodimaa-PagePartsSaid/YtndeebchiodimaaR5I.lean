/- Contract of munimentref5.Replace. -/
import Derived.Test.YtndeebchiodimaaR5H
set_option maxRecDepth 100000
set_option linter.unusedVariables false
set_option linter.unusedSimpArgs false
namespace Mun
open Go Go.RowKit
open Go.Proofs

set_option maxHeartbeats 2000000 in
theorem r5replace_no {F : Foot} (w : World) (v u : Value) (p c : List UInt8) (i : Nat) (hv : RdB F w v p) (hu : RdB F w u c) (hg : GoodP p) (hi : i < cnt p) (hcl : c.length ≤ 140737488355328) (hsz : sSize p i < c.length) (hf : freeP p < (c.length : Int) - sSize p i) : Calls Try.prog 25 #[v, .int .i64 i, u] w (PwNo2 w) := by
  have hcp := r5copy w v p hv hg.len
  have hsl := r5slot w v p i hv (by have := hg.fit; have := hg.low; rw [hg.len]; omega) (by rw [hg.len]; decide)
  have hf1 : sFrom p i < 65536 := gt2_lt p _
  have hs1 : sSize p i < 65536 := gt2_lt p _
  have HG := Lib.hid hg
  have HV := Lib.hid hv
  obtain ⟨a, n, cp, rfl, HN, -, -⟩ := hv.formN
  obtain ⟨a2, n2, c2, rfl, HN2, -, -⟩ := hu.formN
  obtain ⟨f, hff⟩ : ∃ f, freeP p = f := ⟨_, rfl⟩
  obtain ⟨fr, hfr⟩ : ∃ fr, sFrom p i = fr := ⟨_, rfl⟩
  obtain ⟨s, hs⟩ : ∃ s, sSize p i = s := ⟨_, rfl⟩
  rw [hff, hs] at hf
  rw [hfr, hs] at hsl
  rw [hfr] at hf1
  rw [hs] at hs1 hsz
  rw [← HN2.out] at hf hcl hsz
  have HC := Lib.hid hcp
  have HSL := Lib.hid hsl
  have HFF := Lib.hid hff
  have hn2 : (n2 : Int) ≤ 140737488355328 := by omega
  have hn0 : (0 : Int) ≤ (n2 : Int) := by omega
  have hs0 : (0 : Int) ≤ (s : Int) := by omega
  have hsb : (s : Int) < 65536 := by omega
  have hgt : (n2 : Int) > (s : Int) := by omega
  clear hv hu hg hff hcl hcp hsl hfr hs hf1 hs1 hsz
  go_enter Try.func25, Try.ntmps25
  go_wp2_with fail
  refine HSL.out.mono ?_
  rintro e w2 ⟨rfl, rfl⟩
  go_wp2_with fail
  refine HC.out.mono ?_
  rintro e w2 ⟨g, cap, rfl, hp2, hb2⟩
  have hfr := r5free w2 _ p (RdB.below HV.out hb2) HG.out
  rw [HFF.out] at hfr
  have HFR := Lib.hid hfr
  have HB := Lib.hid hb2
  clear hfr hb2 hp2 HC HSL
  go_wp2_with fail
  refine HFR.out.mono ?_
  rintro e w3 ⟨rfl, rfl⟩
  go_wp2
  go_ret2
  exact ⟨rfl, HB.out⟩

set_option maxHeartbeats 4000000 in
theorem r5replace_yes {F : Foot} (w : World) (v u : Value) (p c : List UInt8) (i : Nat) (hv : RdB F w v p) (hu : RdB F w u c) (hg : GoodP p) (hi : i < cnt p) (hcl : c.length ≤ 140737488355328) (hf : c.length ≤ sSize p i ∨ sSize p i < c.length ∧ (c.length : Int) - sSize p i ≤ freeP p) : Calls Try.prog 25 #[v, .int .i64 i, u] w (PwOut2 w (repP p i c)) := by
  have hcp := r5copy w v p hv hg.len
  have hsl := r5slot w v p i hv (by have := hg.fit; have := hg.low; rw [hg.len]; omega) (by rw [hg.len]; decide)
  have hf1 : sFrom p i < 65536 := gt2_lt p _
  have hs1 : sSize p i < 65536 := gt2_lt p _
  have hcell := hg.cell i hi
  have hfb : freeP p ≤ 486 := by unfold freeP; omega
  have HG := Lib.hid (And.intro hg hi)
  have HV := Lib.hid hv
  have HU := Lib.hid hu
  have hre : rrepP p i c = repP p i c := by
    rcases hf with h | ⟨h1, h2⟩
    · exact rrep_fit hg hi h
    · exact rrep_grow hg hi (by omega) h2
  have hroomF : sSize p i < c.length → 26 + 4 * cnt p + c.length ≤ lowP (if lowP p < 26 + 4 * cnt p + c.length then rcompP (rholeP p i) else rholeP p i) ∧ lowP (if lowP p < 26 + 4 * cnt p + c.length then rcompP (rholeP p i) else rholeP p i) ≤ 512 ∧ (if lowP p < 26 + 4 * cnt p + c.length then rcompP (rholeP p i) else rholeP p i).length = 512 := by
    intro hlt
    have h2 : (c.length : Int) - sSize p i ≤ freeP p := by
      rcases hf with h | ⟨_, h2⟩
      · omega
      · exact h2
    have hfh := freeP_hole hg hi
    have hr := room_ok (hole_good hg hi) c.length (by omega)
    have hcn : cnt (holeP p i) = cnt p := cnt_ss _ _ _ _ (by have := hg.fit; have := hg.low; rw [hg.len]; omega)
    have hlw : lowP (holeP p i) = lowP p := lowP_ss _ _ _ _ (by have := hg.fit; have := hg.low; rw [hg.len]; omega)
    obtain ⟨ho, c1, c2⟩ := rhole_ok hg hi
    split
    · rename_i hc
      have e1 : roomP (holeP p i) c.length = anewP (holeP p i) := by unfold roomP; rw [hcn, hlw, if_pos hc]
      rw [rhole_anew hg hi, ← e1]
      have := hr.room
      have := hr.low
      have := hr.len
      rw [hcn] at *
      omega
    · rename_i hc
      rw [c2]
      have := hg.low
      have := ho.len
      omega
  obtain ⟨a, n, cp, rfl, HN, -, -⟩ := hv.formN
  obtain ⟨a2, n2, c2, rfl, HN2, -, -⟩ := hu.formN
  unfold rrepP at hre
  obtain ⟨m, hm⟩ : ∃ m, cnt p = m := ⟨_, rfl⟩
  obtain ⟨f, hff⟩ : ∃ f, freeP p = f := ⟨_, rfl⟩
  obtain ⟨lo, hlo⟩ : ∃ lo, lowP p = lo := ⟨_, rfl⟩
  obtain ⟨fr, hfr⟩ : ∃ fr, sFrom p i = fr := ⟨_, rfl⟩
  obtain ⟨s, hs⟩ : ∃ s, sSize p i = s := ⟨_, rfl⟩
  have hfit := hg.fit
  have hlow := hg.low
  rw [hm] at hi hfit hre hroomF
  rw [hlo] at hfit hlow hre hroomF hcell
  rw [hfr, hs] at hsl hre hcell
  rw [hs] at hroomF hs1 hf
  rw [hfr] at hf1
  rw [hff] at hf hfb
  have hcn2 : c.length = n2 := HN2.out.symm
  rw [hcn2] at hre hroomF hcl hf
  have HM : Hid (cnt p = m ∧ lowP p = lo ∧ freeP p = f ∧ i < m ∧ 26 + 4 * m ≤ 512 ∧ p.length = 512 ∧ fr + s ≤ 512 ∧ 26 + 4 * m ≤ fr) := ⟨hm, hlo, hff, hi, by omega, hg.len, by omega, by omega⟩
  have HRE := Lib.hid hre
  have HROOM := Lib.hid hroomF
  have HC := Lib.hid hcp
  have HSL := Lib.hid hsl
  have hmb : (m : Int) ≤ 121 := by omega
  have hn2 : (n2 : Int) ≤ 140737488355328 := by omega
  have hn0 : (0 : Int) ≤ (n2 : Int) := by omega
  have hs0 : (0 : Int) ≤ (s : Int) := by omega
  have hsb : (s : Int) ≤ 512 := by omega
  have hfr0 : (0 : Int) ≤ (fr : Int) := by omega
  have hfrb : (fr : Int) ≤ 512 := by omega
  have hi0 : (0 : Int) ≤ (i : Int) := by omega
  have him : (i : Int) < (m : Int) := by omega
  have hlob : (lo : Int) ≤ 512 := by omega
  have HF := Lib.hid hf
  clear hv hu hg hcp hsl hre hroomF hfb hm hff hlo hfr hs hfit hlow hf1 hs1 hcn2 hcl hi hcell hf
  go_enter Try.func25, Try.ntmps25
  go_wp2_with fail
  refine HSL.out.mono ?_
  rintro e w2 ⟨rfl, rfl⟩
  clear HSL
  go_wp2_with fail
  refine HC.out.mono ?_
  rintro e w1 ⟨g, cap, rfl, hp1, hb1⟩
  have hgB := hp1.lt
  have hrd := rd_new HV.out hgB.1 hb1
  have hu1 : RdB (G1 g) w1 (.slice a2 n2 c2) c := rd_new HU.out hgB.1 hb1
  have hfr := r5free w1 _ p hrd HG.out.1
  rw [HM.out.2.2.1] at hfr
  have HFR := Lib.hid hfr
  have H1 := Lib.hid (And.intro hp1 (And.intro hb1 (And.intro hu1 hgB)))
  clear hfr hb1 hp1 hrd hgB hu1 HC
  go_upto_if 23 with fail
  go_cut [8, 10] (fun s8 s10 wx => ∃ (g cap at' : Nat) (q : PBytes), s8 = .int .i64 (at' : Int) ∧ s10 = .slice (some ⟨g, 0, none⟩) 512 cap ∧ Pw w.heap.size wx g 512 cap q ∧ Below w.heap.size w wx ∧ RdB (G1 g) wx (.slice a2 n2 c2) c ∧ at' + n2 ≤ 512 ∧ putAt (pt q (26 + 4 * i + 2) 2 n2) at' c = repP p i c)
  case first =>
    by_cases hsz : n2 ≤ s
    · have hle : ¬ (n2 : Int) > (s : Int) := by omega
      have hre := HRE.out
      rw [if_pos hsz] at hre
      have HX : Hid (fr + n2 ≤ 512 ∧ putAt (pt p (26 + 4 * i + 2) 2 n2) fr c = repP p i c) := ⟨by have := HM.out; omega, hre⟩
      clear hre hsz
      go_wp2
      go_meet
      exact ⟨g, cap, fr, p, rfl, rfl, H1.out.1, H1.out.2.1, H1.out.2.2.1, HX.out⟩
    · have hgt : (n2 : Int) > (s : Int) := by omega
      have hre := HRE.out
      have hro := HROOM.out (by omega)
      rw [if_neg hsz] at hre
      have hfn : ¬ f < (n2 : Int) - (s : Int) := by
        have := HF.out
        omega
      have hput := r5put w1 w.heap.size g 512 cap _ (28 + 4 * (i : Int)) 2 (26 + 4 * i + 2) 2 0 (by push_cast; omega) rfl H1.out.1 (by have := HM.out; omega) (by omega) (by decide) (by decide)
      have HPT := Lib.hid hput
      have HRE2 := Lib.hid (And.intro hre hro)
      clear hput hre hro hsz
      go_wp2_with fail
      refine HFR.out.mono ?_
      rintro e w3 ⟨rfl, rfl⟩
      clear HFR
      go_wp2_with fail
      refine HPT.out.mono ?_
      rintro e w3 ⟨rfl, hp3, hc3⟩
      change Pw w.heap.size w3 g 512 cap (rholeP p i) at hp3
      obtain ⟨hao, hc1, hc2⟩ := rhole_ok HG.out.1 HG.out.2
      rw [HM.out.1] at hc1
      rw [HM.out.2.1] at hc2
      have hrd3 := hp3.rd (F := NoF) (noF _)
      have hlw := r5low w3 _ _ hrd3 (by rw [hao.len]; decide)
      have hcn := r5count w3 _ _ hrd3 (by rw [hao.len]; decide)
      have hcm := r5compact w3 _ _ hrd3 hao
      rw [hc2] at hlw
      rw [hc1] at hcn
      have HLW := Lib.hid hlw
      have HCN := Lib.hid hcn
      have HCM := Lib.hid hcm
      have hB3 : Below w.heap.size w w3 := H1.out.2.1.trans (hc3.below H1.out.2.1.size (fun j hj e => by have h4 : j = g := e; have h5 := H1.out.2.2.2.1; omega))
      have H3 : Hid (Pw w.heap.size w3 g 512 cap (rholeP p i) ∧ Below w.heap.size w w3 ∧ w.heap.size ≤ g) := ⟨hp3, hB3, H1.out.2.2.2.1⟩
      clear hlw hcn hcm hp3 hc3 hao hc1 hc2 hrd3 hB3 HPT
      go_wp2_with fail
      refine HLW.out.mono ?_
      rintro e w4 ⟨rfl, rfl⟩
      clear HLW
      go_wp2_with fail
      refine HCN.out.mono ?_
      rintro e w4 ⟨rfl, rfl⟩
      clear HCN
      go_upto_if 45 with fail
      go_cut [10] (fun s10 wx => ∃ (g cap : Nat) (q : PBytes), s10 = .slice (some ⟨g, 0, none⟩) 512 cap ∧ Pw w.heap.size wx g 512 cap q ∧ Below w.heap.size w wx ∧ RdB (G1 g) wx (.slice a2 n2 c2) c ∧ 26 + 4 * m + n2 ≤ lowP q ∧ lowP q ≤ 512 ∧ q.length = 512 ∧ putAt (pt (pt (pt q 16 2 (lowP q - n2)) (26 + 4 * i) 2 (lowP q - n2)) (26 + 4 * i + 2) 2 n2) (lowP q - n2) c = repP p i c)
      case first =>
        by_cases hroom : (lo : Int) - 26 - 4 * (m : Int) < (n2 : Int)
        · have hcond : lo < 26 + 4 * m + n2 := by omega
          have hre := HRE2.out
          rw [if_pos hcond] at hre
          have HX := Lib.hid hre
          clear hre hcond
          go_wp2_with fail
          refine HCM.out.mono ?_
          rintro e w5 ⟨g2, cap2, rfl, hp5, hb5⟩
          have hB5 := H3.out.2.1.trans (hb5.mono H3.out.2.1.size)
          have hp5' := hp5.lower H3.out.2.1.size
          have HX5 : Hid (Pw w.heap.size w5 g2 512 cap2 (rcompP (rholeP p i)) ∧ Below w.heap.size w w5 ∧ RdB (G1 g2) w5 (.slice a2 n2 c2) c) := ⟨hp5', hB5, rd_new HU.out hp5'.lt.1 hB5⟩
          clear hp5 hb5 hB5 hp5' HCM
          go_wp2
          go_meet
          exact ⟨g2, cap2, _, rfl, HX5.out.1, HX5.out.2.1, HX5.out.2.2, HX.out.2.1, HX.out.2.2.1, HX.out.2.2.2, HX.out.1⟩
        · have hcond : ¬ lo < 26 + 4 * m + n2 := by omega
          have hre := HRE2.out
          rw [if_neg hcond] at hre
          have HX := Lib.hid hre
          clear hre hcond
          go_wp2
          go_meet
          exact ⟨g, cap, _, rfl, H3.out.1, H3.out.2.1, rd_new HU.out H3.out.2.2 H3.out.2.1, HX.out.2.1, HX.out.2.2.1, HX.out.2.2.2, HX.out.1⟩
      case rest =>
        obtain ⟨g3, cap3, q, rfl, hp5, hb5, hu5, hq1, hq2, hq3, hq4⟩ := hcut
        obtain ⟨w5, rfl⟩ : ∃ w5 : World, w5 = wc := ⟨_, rfl⟩
        have hlw := r5low w5 _ q (hp5.rd (F := NoF) (noF _)) (by rw [hq3]; decide)
        obtain ⟨lq, hlq⟩ : ∃ lq, lowP q = lq := ⟨_, rfl⟩
        rw [hlq] at hlw hq1 hq2 hq4
        obtain ⟨at', hat⟩ : ∃ at', lq - n2 = at' := ⟨_, rfl⟩
        rw [hat] at hq4
        have hati : (lq : Int) - (n2 : Int) = (at' : Int) := by omega
        have hput1 := r5put w5 w.heap.size g3 512 cap3 q 16 2 16 2 at' rfl rfl hp5 (by decide) (by omega) (by decide) (by decide)
        have HLW := Lib.hid hlw
        have HPT1 := Lib.hid hput1
        have H5 : Hid (Below w.heap.size w w5 ∧ RdB (G1 g3) w5 (.slice a2 n2 c2) c ∧ at' + n2 ≤ 512 ∧ putAt (pt (pt (pt q 16 2 at') (26 + 4 * i) 2 at') (26 + 4 * i + 2) 2 n2) at' c = repP p i c ∧ w.heap.size ≤ g3) := ⟨hb5, hu5, by omega, hq4, hp5.lt.1⟩
        have ha0 : (0 : Int) ≤ (at' : Int) := by omega
        have hab : (at' : Int) ≤ 512 := by omega
        have hlqb : (lq : Int) ≤ 512 := by omega
        have hlqn : (n2 : Int) ≤ (lq : Int) := by omega
        clear hlw hput1 hp5 hb5 hu5 hq1 hq2 hq3 hq4 hlq hat HCM H3
        go_wp2_with fail
        refine HLW.out.mono ?_
        rintro e w6 ⟨rfl, rfl⟩
        clear HLW
        go_wp2_with (rw [hati]; fail)
        refine HPT1.out.mono ?_
        rintro e w6 ⟨rfl, hp6, hc6⟩
        have hput2 := r5put w6 w.heap.size g3 512 cap3 _ (26 + 4 * (i : Int)) 2 (26 + 4 * i) 2 at' (by push_cast; rfl) rfl hp6 (by have := HM.out; omega) (by omega) (by decide) (by decide)
        have HPT2 := Lib.hid hput2
        have HC6 := Lib.hid hc6
        clear hput2 hp6 hc6 HPT1
        go_wp2_with fail
        refine HPT2.out.mono ?_
        rintro e w7 ⟨rfl, hp7, hc7⟩
        have HX : Hid (Pw w.heap.size w7 g3 512 cap3 (pt (pt q 16 2 at') (26 + 4 * i) 2 at') ∧ Below w.heap.size w w7 ∧ RdB (G1 g3) w7 (.slice a2 n2 c2) c) := by
          have hcc := HC6.out.trans hc7
          exact ⟨hp7, H5.out.1.trans (hcc.below H5.out.1.size (fun j hj e => by have h4 : j = g3 := e; have h5 := H5.out.2.2.2.2; omega)), H5.out.2.1.chg hcc⟩
        clear hp7 hc7 HPT2 HC6
        go_wp2
        go_meet
        exact ⟨g3, cap3, at', _, rfl, rfl, HX.out.1, HX.out.2.1, HX.out.2.2, H5.out.2.2.1, H5.out.2.2.2.1⟩
  case rest =>
    obtain ⟨g3, cap3, at', q, rfl, rfl, hp3, hb3, hu3, hat, hfin⟩ := hcut
    obtain ⟨w3, rfl⟩ : ∃ w3 : World, w3 = wc := ⟨_, rfl⟩
    have hgB := hp3.lt
    have hput := r5put w3 w.heap.size g3 512 cap3 q (28 + 4 * (i : Int)) 2 (26 + 4 * i + 2) 2 n2 (by push_cast; omega) rfl hp3 (by have := HM.out; omega) (by omega) (by decide) (by decide)
    obtain ⟨q0, hq0⟩ : ∃ q0, pt q (26 + 4 * i + 2) 2 n2 = q0 := ⟨_, rfl⟩
    rw [hq0] at hput hfin
    have HPT := Lib.hid hput
    have HB : Hid (putAt q0 at' c = repP p i c ∧ at' + n2 ≤ 512 ∧ c.length = n2 ∧ Below w.heap.size w w3 ∧ RdB (G1 g3) w3 (.slice a2 n2 c2) c ∧ w.heap.size ≤ g3) := ⟨hfin, hat, HN2.out.symm, hb3, hu3, hgB.1⟩
    have ha0 : (0 : Int) ≤ (at' : Int) := by omega
    have hlb2 : (at' : Int) + (n2 : Int) ≤ 512 := by omega
    clear hput hp3 hb3 hu3 hat hfin hgB hq0 HFR H1 HROOM HRE HF
    go_wp2_with fail
    refine HPT.out.mono ?_
    rintro e w8 ⟨rfl, hP8, hC8⟩
    have H8 : Hid (Pw w.heap.size w8 g3 512 cap3 q0 ∧ Chg (G1 g3) (G1 g3) w3 w8 ∧ RdB (G1 g3) w8 (.slice a2 n2 c2) c) := ⟨hP8, hC8, HB.out.2.2.2.2.1.chg hC8⟩
    clear hP8 hC8 HPT
    go_wp2
    go_loopw [11] (fun j wr => ∃ k : Nat, k ≤ n2 ∧ j = .int .i64 (k : Int) ∧ Pw w.heap.size wr g3 512 cap3 (putAt q0 at' (c.take k)) ∧ Chg (G1 g3) (G1 g3) w8 wr) (fun j _ => n2 - (intOf j).toNat)
    case atStart => exact ⟨0, by omega, rfl, by rw [List.take_zero, putAt_zero]; exact H8.out.1, Chg.refl _ _⟩
    case round =>
      obtain ⟨k, hk, rfl, hP, hC⟩ := hrel
      rcases Nat.lt_or_eq_of_le hk with hlt | heq
      · have hrd2 := H8.out.2.2.chg hC
        have hb := HB.out
        obtain ⟨g2, off2, cc2, e2, -, -, -, -, hcs⟩ := hrd2.at_ (by omega)
        injection e2 with e2 _ e4
        subst e2 e4
        have hql : k < c.length := by omega
        have hc1 := hcs k hql
        have hst := putAt_step q0 c at' k hql (by rw [← H8.out.1.len]; omega)
        have hPs := hP.set (at' + k) (by omega) c[k] (c[k].toNat : Int) rfl
        rw [hst] at hPs
        obtain ⟨x, hx⟩ : ∃ x : Int, ((c[k]'hql).toNat : Int) = x := ⟨_, rfl⟩
        rw [hx] at hc1 hPs
        obtain ⟨y, hcell, hfr⟩ := hP.cell (at' + k) (by omega)
        have hN : Hid (Pw w.heap.size (wr.setCell ⟨g3, at' + k, none⟩ (.int .u8 x)) g3 512 cap3 (putAt q0 at' (c.take (k + 1))) ∧ Chg (G1 g3) (G1 g3) w8 (wr.setCell ⟨g3, at' + k, none⟩ (.int .u8 x)) ∧ k < n2) := ⟨hPs, hC.trans (chg_set _ _ _ _), hlt⟩
        have hqi2 : (k : Int) < (n2 : Int) := by omega
        have hq00 : (0 : Int) ≤ (k : Int) := by omega
        clear hP hC hrd2 hb hcs hql hst hPs hx hlt hk
        go_wp2
        go_roundw
        case rel => exact ⟨k + 1, by have := hN.out.2.2; omega, by go_num, hN.out.1, hN.out.2.1⟩
        case measure => have := hN.out.2.2; simp [intOf]; omega
      · subst heq
        have hb := HB.out
        have HN : Hid (PwOut2 w (repP p i c) (.returned (.tuple #[.slice (some ⟨g3, 0, none⟩) 512 cap3, .bool true])) wr) := by
          refine ⟨g3, cap3, rfl, ?_, hb.2.2.2.1.trans ((H8.out.2.1.trans hC).below hb.2.2.2.1.size (fun j hj e => by have h4 : j = g3 := e; have h5 := hb.2.2.2.2.2; omega))⟩
          rw [List.take_of_length_le (by omega), hb.1] at hP
          exact hP
        clear hP hC hk hb
        go_wp2
        go_ret2
        exact HN.out
end Mun
