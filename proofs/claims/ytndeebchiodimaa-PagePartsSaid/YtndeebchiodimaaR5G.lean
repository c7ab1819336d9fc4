/- Contract of munimentref5.Remove. -/
import Derived.Test.YtndeebchiodimaaR5F
set_option maxRecDepth 100000
set_option linter.unusedVariables false
set_option linter.unusedSimpArgs false
namespace Mun
open Go Go.RowKit
open Go.Proofs

/-- a page that reads, apart from what is new -/
theorem rd_new {F : Foot} {w w' : World} {v : Value} {p : List UInt8} {g : Nat} (h : RdB F w v p) (hg : w.heap.size ≤ g) (hb : Below w.heap.size w w') : RdB (G1 g) w' v p :=
  RdB.below (RdB.mono h (fun k hk e => by have h4 : k = g := e; omega)) hb

set_option maxHeartbeats 2000000 in
theorem r5remove {F : Foot} (w : World) (v : Value) (p : List UInt8) (i : Nat) (hv : RdB F w v p) (hg : GoodP p) (hi : i < cnt p) : Calls Try.prog 26 #[v, .int .i64 i] w (PwOut w (remP p i)) := by
  have hfit := hg.fit
  have hlow := hg.low
  have HV := Lib.hid hv
  have hcp := r5copy w v p hv hg.len
  obtain ⟨a, n, c, rfl, HN, -, -⟩ := hv.formN
  have hrr := rrem_eq p i
  unfold rremP at hrr
  obtain ⟨m, hm⟩ : ∃ m, cnt p = m := ⟨_, rfl⟩
  rw [hm] at hi hfit hrr
  have hm1 : m - 1 + 1 = m := by omega
  have HM : Hid (cnt p = m ∧ i < m ∧ 26 + 4 * m ≤ 512 ∧ p.length = 512) := ⟨hm, hi, by omega, hg.len⟩
  have HRR := Lib.hid hrr
  have HC := Lib.hid hcp
  have hmb : (m : Int) ≤ 121 := by omega
  have hi0 : (0 : Int) ≤ (i : Int) := by omega
  have hii : (i : Int) < (m : Int) := by omega
  clear hv hg hm hfit hlow hcp hrr hi hm1
  go_enter Try.func26, Try.ntmps26
  go_wp2_with fail
  refine HC.out.mono ?_
  rintro e w1 ⟨g, cap, rfl, hp1, hb1⟩
  have hgB := hp1.lt
  have hrd := rd_new HV.out hgB.1 hb1
  have hcn := r5count w1 _ p hrd (by rw [HM.out.2.2.2]; decide)
  rw [HM.out.1] at hcn
  have HCN := Lib.hid hcn
  have H1 := Lib.hid (And.intro hp1 (And.intro hb1 (And.intro hrd hgB)))
  clear hcn hp1 hb1 hrd hgB HC
  go_wp2_with fail
  refine HCN.out.mono ?_
  rintro e w2 ⟨rfl, rfl⟩
  clear HCN
  go_wp2
  go_loopw [7] (fun k wr => ∃ q : Nat, i ≤ q ∧ q + 1 ≤ m ∧ k = .int .i64 (q : Int) ∧ Pw w.heap.size wr g 512 cap (dnP p i q) ∧ Chg (G1 g) (G1 g) w1 wr) (fun k _ => m - (intOf k).toNat)
  case atStart => exact ⟨i, Nat.le_refl _, HM.out.2.1, rfl, by rw [dnP_zero]; exact H1.out.1, Chg.refl _ _⟩
  case round =>
    obtain ⟨q, hq1, hq2, rfl, hP, hC⟩ := hrel
    have hmm := HM.out
    rcases Nat.lt_or_eq_of_le hq2 with hlt | heq
    · have hsl := r5slot wr _ p (q + 1) (H1.out.2.2.1.chg hC) (by rw [hmm.2.2.2]; omega) (by rw [hmm.2.2.2]; decide)
      have hst := dnP_step hmm.2.2.2 i q (by omega) hq1
      have hf1 : sFrom p (q + 1) < 65536 := gt2_lt p _
      have hs1 : sSize p (q + 1) < 65536 := gt2_lt p _
      obtain ⟨f, hf⟩ : ∃ f, sFrom p (q + 1) = f := ⟨_, rfl⟩
      obtain ⟨s, hs⟩ : ∃ s, sSize p (q + 1) = s := ⟨_, rfl⟩
      rw [hf, hs] at hsl hst
      rw [hf] at hf1
      rw [hs] at hs1
      rw [show (((q + 1 : Nat) : Int)) = (q : Int) + 1 by push_cast; rfl] at hsl
      have hput := r5put wr w.heap.size g 512 cap _ (26 + 4 * (q : Int)) 2 (26 + 4 * q) 2 f (by push_cast; rfl) rfl hP (by omega) (by omega) (by decide) (by decide)
      have HSL := Lib.hid hsl
      have HPT := Lib.hid hput
      have HST : Hid (pt (pt (dnP p i q) (26 + 4 * q) 2 f) (26 + 4 * q + 2) 2 s = dnP p i (q + 1) ∧ q + 1 < m ∧ i ≤ q ∧ 26 + 4 * q + 2 + 2 ≤ 512) := ⟨hst, hlt, hq1, by omega⟩
      have HC := Lib.hid hC
      have hqi : (q : Int) + 1 < (m : Int) := by omega
      have hq0 : (0 : Int) ≤ (q : Int) := by omega
      have hfi : (f : Int) < 65536 := by omega
      have hsi : (s : Int) < 65536 := by omega
      have hf0 : (0 : Int) ≤ (f : Int) := by omega
      have hs0 : (0 : Int) ≤ (s : Int) := by omega
      clear hsl hput hst hf hs hlt hq1 hq2 hP hC hmm hf1 hs1
      go_wp2_with fail
      refine HSL.out.mono ?_
      rintro e w5 ⟨rfl, rfl⟩
      go_wp2_with fail
      refine HPT.out.mono ?_
      rintro e w6 ⟨rfl, hP6, hC6⟩
      have hput2 := r5put w6 w.heap.size g 512 cap _ (28 + 4 * (q : Int)) 2 (26 + 4 * q + 2) 2 s (by push_cast; omega) rfl hP6 HST.out.2.2.2 (by omega) (by decide) (by decide)
      rw [HST.out.1] at hput2
      have HPT2 := Lib.hid hput2
      have HC6 := Lib.hid (HC.out.trans hC6)
      clear hput2 hP6 hC6 HPT HSL HC
      go_wp2_with fail
      refine HPT2.out.mono ?_
      rintro e w7 ⟨rfl, hP7, hC7⟩
      have HN7 := Lib.hid (And.intro hP7 (HC6.out.trans hC7))
      clear hP7 hC7 HPT2 HC6
      go_wp2
      go_roundw
      case rel => exact ⟨q + 1, by have := HST.out; omega, by have := HST.out; omega, by go_num, HN7.out.1, HN7.out.2⟩
      case measure => have := HST.out; simp [intOf]; omega
    · have hqm : q = m - 1 := by omega
      have hput := r5put wr w.heap.size g 512 cap _ (26 + 4 * ((m : Int) - 1)) 4 (26 + 4 * (m - 1)) 4 0 (by push_cast [show 1 ≤ m by omega]; omega) rfl hP (by omega) (by omega) (by decide) (by decide)
      rw [hqm] at hput
      have HPT := Lib.hid hput
      have HC := Lib.hid hC
      have hqi : ¬ (q : Int) + 1 < (m : Int) := by omega
      have hq0 : (0 : Int) ≤ (q : Int) := by omega
      have hqb : (q : Int) ≤ 121 := by omega
      have hm1 : (1 : Int) ≤ (m : Int) := by omega
      clear hput hP hC hmm hq1 hq2 heq hqm
      go_wp2_with fail
      refine HPT.out.mono ?_
      rintro e w5 ⟨rfl, hP5, hC5⟩
      have hput2 := r5put w5 w.heap.size g 512 cap _ 14 2 14 2 (m - 1) rfl rfl hP5 (by decide) (by omega) (by decide) (by decide)
      rw [show (((m - 1 : Nat) : Int)) = (m : Int) - 1 by omega] at hput2
      have HPT2 := Lib.hid hput2
      have HC5 := Lib.hid (HC.out.trans hC5)
      clear hput2 hP5 hC5 HPT HC
      go_wp2_with fail
      refine HPT2.out.mono ?_
      rintro e w6 ⟨rfl, hP6, hC6⟩
      have HP6 := Lib.hid (And.intro hP6 (HC5.out.trans hC6))
      clear hP6 hC6 HPT2 HC5
      by_cases h1 : m = 1
      · have t1 : ((m : Int) == 1) = true := by subst h1; rfl
        have hput3 := r5put w6 w.heap.size g 512 cap _ 16 2 16 2 512 rfl rfl HP6.out.1 (by decide) (by decide) (by decide) (by decide)
        have hrr := HRR.out
        rw [if_pos h1] at hrr
        rw [hrr] at hput3
        have HPT3 := Lib.hid hput3
        clear hput3 hrr h1
        go_wp2_with fail
        refine HPT3.out.mono ?_
        rintro e w7 ⟨rfl, hP7, hC7⟩
        have HN : Hid (PwOut w (remP p i) (.returned (.slice (some ⟨g, 0, none⟩) 512 cap)) w7) :=
          ⟨g, cap, rfl, hP7, H1.out.2.1.trans ((HP6.out.2.trans hC7).below H1.out.2.1.size (fun j hj e => by have h4 : j = g := e; have h5 := H1.out.2.2.2.1; omega))⟩
        clear hP7 hC7 HPT3
        go_wp2
        go_ret
        exact HN.out
      · have t1 : ((m : Int) == 1) = false := by
          have h3 : ¬ (m : Int) = 1 := by omega
          simpa using h3
        have hrr := HRR.out
        rw [if_neg h1] at hrr
        have HN : Hid (PwOut w (remP p i) (.returned (.slice (some ⟨g, 0, none⟩) 512 cap)) w6) :=
          ⟨g, cap, rfl, by rw [← hrr]; exact HP6.out.1, H1.out.2.1.trans (HP6.out.2.below H1.out.2.1.size (fun j hj e => by have h4 : j = g := e; have h5 := H1.out.2.2.2.1; omega))⟩
        clear hrr h1
        go_wp2
        go_ret
        exact HN.out
end Mun
