/- Contracts of munimentref5: Copy, Free, New, Set. -/
import Derived.Test.YtndeebchiodimaaR5A
set_option maxRecDepth 100000
set_option linter.unusedVariables false
set_option linter.unusedSimpArgs false
namespace Mun
open Go Go.RowKit
open Go.Proofs

/-- a page of the call's own is told -/
def PwOut (w : World) (p : PBytes) (e : Ending) (w' : World) : Prop := ∃ g cap, e = .returned (.slice (some ⟨g, 0, none⟩) 512 cap) ∧ Pw w.heap.size w' g 512 cap p ∧ Below w.heap.size w w'

theorem r5copy {F : Foot} (w : World) (v : Value) (p : List UInt8) (hv : RdB F w v p) (hp : p.length = 512) : Calls Try.prog 58 #[v] w (PwOut w p) := by
  obtain ⟨g, cap, w1, hr, ho, hb, hg⟩ := append_nil_bytes (ty := 22) hv (by omega) (by omega)
  rw [hp] at hr ho
  obtain ⟨a1, n, c, rfl, -, -, -⟩ := hv.formN
  have HR := Lib.hid hr
  have HO := Lib.hid (And.intro ho (And.intro hb hp))
  clear hr ho hb hg hv hp
  go_enter Try.func58, Try.ntmps58
  go_wp2_with (at_builtin; refine wpList_append_eq rfl rfl HR.out rfl rfl ?_; clear HR)
  go_ret
  exact ⟨g, cap, rfl, ⟨HO.out.1, HO.out.2.2.symm, by decide⟩, HO.out.2.1⟩

set_option maxHeartbeats 1000000 in
theorem r5free {F : Foot} (w : World) (v : Value) (p : List UInt8) (hv : RdB F w v p) (hg : GoodP p) : Calls Try.prog 37 #[v] w fun e w' => e = .returned (.int .i64 (freeP p)) ∧ w = w' := by
  have hc := r5count w v p hv (by rw [hg.len]; decide)
  have hs := fun (i : Nat) (hi : i < cnt p) => r5slot w v p i hv (by have := hg.fit; have := hg.low; rw [hg.len]; omega) (by rw [hg.len]; decide)
  have hfr := free_nonneg hg
  have hm : cnt p ≤ 121 := by have := hg.fit; have := hg.low; omega
  obtain ⟨a1, n, c, rfl, -, -, -⟩ := hv.formN
  obtain ⟨m, hmm⟩ : ∃ m, cnt p = m := ⟨_, rfl⟩
  have hfp : freeP p = 486 - 4 * (m : Int) - (szs p m : Int) := by rw [← hmm]; rfl
  rw [hmm] at hc hs hm
  have HC := Lib.hid hc
  have HS := Lib.hid hs
  have HF := Lib.hid hfp
  rw [hfp] at hfr
  have hsm : ∀ k, k < m → szs p k + sSize p k ≤ szs p m := fun k hk => szs_mono p (show k + 1 ≤ m from hk)
  have HSM := Lib.hid hsm
  clear hc hs hfp hv hg hmm hsm
  go_enter Try.func37, Try.ntmps37
  go_wp2_with fail
  refine HC.out.mono ?_
  rintro e w2 ⟨rfl, rfl⟩
  go_wp2
  go_loop [3, 4] (fun s i => ∃ k : Nat, k ≤ m ∧ i = .int .i64 (k : Int) ∧ s = .int .i64 (486 - 4 * (m : Int) - (szs p k : Int))) (fun _ i => m - (intOf i).toNat)
  case atStart => exact ⟨0, by omega, rfl, by simp [szs]⟩
  case round =>
    obtain ⟨k, hk, rfl, rfl⟩ := hrel
    rcases Nat.lt_or_eq_of_le hk with hlt | heq
    · have hsk := HS.out k hlt
      have hz := HSM.out k hlt
      obtain ⟨sf, hsf⟩ : ∃ sf, sFrom p k = sf := ⟨_, rfl⟩
      obtain ⟨sz, hsz⟩ : ∃ sz, sSize p k = sz := ⟨_, rfl⟩
      have hs1 : szs p (k + 1) = szs p k + sz := by rw [← hsz]; rfl
      rw [hsf, hsz] at hsk
      rw [hsz] at hz
      have HSK := Lib.hid hsk
      have HS1 := Lib.hid (And.intro hs1 hlt)
      obtain ⟨t, ht⟩ : ∃ t, szs p k = t := ⟨_, rfl⟩
      obtain ⟨tm, htm⟩ : ∃ tm, szs p m = tm := ⟨_, rfl⟩
      rw [ht] at HS1 hz
      rw [htm] at hz hfr
      rw [ht]
      have hki : (k : Int) < (m : Int) := by omega
      have hk0 : (0 : Int) ≤ (k : Int) := by omega
      clear hsk hs1 hlt hk ht htm hsf hsz
      go_wp2_with fail
      refine HC.out.mono ?_
      rintro e w2 ⟨rfl, rfl⟩
      go_wp2_with fail
      refine HSK.out.mono ?_
      rintro e w2 ⟨rfl, rfl⟩
      go_wp2
      go_round
      case rel => exact ⟨k + 1, by have := HS1.out.2; omega, by go_num, by rw [HS1.out.1]; congr 1; push_cast; omega⟩
      case measure => have := HS1.out.2; simp [intOf]; omega
    · subst heq
      clear hk
      go_wp2_with fail
      refine HC.out.mono ?_
      rintro e w2 ⟨rfl, rfl⟩
      go_wp2
      go_ret
      exact ⟨by rw [HF.out]; rfl, rfl⟩

theorem pt_len (p : PBytes) (a n x : Nat) (m : Nat) (hm : p.length = m) (h : a + n ≤ m) : (pt p a n x).length = m := by rw [pt_length _ _ _ _ (by omega)]; exact hm

theorem r5set {F : Foot} (w : World) (v : Value) (p : List UInt8) (l x : Nat) (hv : RdB F w v p) (hp : p.length = 512) (hl : l < 4294967296) (hx : x < 4294967296) : Calls Try.prog 39 #[v, .int .i64 l, .int .i64 x] w (PwOut w (setP p l x)) := by
  have hc := r5copy w v p hv hp
  obtain ⟨a1, n, c, rfl, -, -, -⟩ := hv.formN
  have HC := Lib.hid hc
  have hl2 : (l : Int) < 4294967296 := by omega
  have hx2 : (x : Int) < 4294967296 := by omega
  have hl0 : (0 : Int) ≤ (l : Int) := by omega
  have hx0 : (0 : Int) ≤ (x : Int) := by omega
  have HLX := Lib.hid (And.intro hl hx)
  clear hc hv hl hx
  go_enter Try.func39, Try.ntmps39
  go_wp2_with fail
  refine HC.out.mono ?_
  rintro e w1 ⟨g, cap, rfl, hp1, hb1⟩
  have h1 := r5put w1 w.heap.size g 512 cap p 18 4 18 4 l rfl rfl hp1 (by omega) (by have := HLX.out; omega) (by decide) (by decide)
  have H1 := Lib.hid h1
  have HB1 := Lib.hid hb1
  have hgB := hp1.lt.1
  clear h1 hb1 hp1 HC
  go_wp2_with fail
  refine H1.out.mono ?_
  rintro e w2 ⟨rfl, hp2, hc2⟩
  have h2 := r5put w2 w.heap.size g 512 cap _ 22 4 22 4 x rfl rfl hp2 (by omega) (by have := HLX.out; omega) (by decide) (by decide)
  have H2 := Lib.hid h2
  have HC2 := Lib.hid hc2
  clear h2 hp2 hc2 H1
  go_wp2_with fail
  refine H2.out.mono ?_
  rintro e w3 ⟨rfl, hp3, hc3⟩
  have hfin : Hid (PwOut w (setP p l x) (.returned (.slice (some ⟨g, 0, none⟩) 512 cap)) w3) := ⟨g, cap, rfl, hp3, HB1.out.trans ((HC2.out.trans hc3).below HB1.out.size (fun k hk e => by have h4 : k = g := e; omega))⟩
  clear hp3 hc3 H2 HC2 HB1 hgB
  go_wp2
  go_ret
  exact hfin.out

theorem r5seal {F : Foot} (w : World) (v : Value) (p : List UInt8) (l : Nat) (hv : RdB F w v p) (hp : p.length = 512) (hl : l < 18446744073709551616) : Calls Try.prog 41 #[v, .int .u64 l] w (PwOut w (sealP p l)) := by
  have hc := r5copy w v p hv hp
  obtain ⟨a1, n, c, rfl, -, -, -⟩ := hv.formN
  have HC := Lib.hid hc
  have HLX := Lib.hid (And.intro hl hp)
  clear hc hv hl hp
  go_enter Try.func41, Try.ntmps41
  go_wp2_with fail
  refine HC.out.mono ?_
  rintro e w1 ⟨g, cap, rfl, hp1, hb1⟩
  have h1 := r5put w1 w.heap.size g 512 cap p 4 8 4 8 l rfl rfl hp1 (by omega) HLX.out.1 (by decide) (by decide)
  have H1 := Lib.hid h1
  have HB1 := Lib.hid hb1
  have hgB := hp1.lt.1
  clear h1 hb1 hp1 HC
  go_wp2_with fail
  refine H1.out.mono ?_
  rintro e w2 ⟨rfl, hp2, hc2⟩
  change Pw w.heap.size w2 g 512 cap (lsnP p l) at hp2
  obtain ⟨q, hq⟩ : ∃ q, lsnP p l = q := ⟨_, rfl⟩
  rw [hq] at hp2
  have HQ := Lib.hid hq
  obtain ⟨a4, c4, hs4, hr4⟩ := slice_rest (hp2.rd (F := NoF) (noF _)) 4 4 rfl (by decide) hp2.len
  have hof := refof_any w2 _ (q.drop 4) hr4
  have HOF := Lib.hid hof
  have HP2 := Lib.hid (And.intro hp2 hc2)
  clear hp2 hc2 H1 hr4 hof hq
  go_wp2_with fail
  refine HOF.out.mono ?_
  rintro e w3 ⟨rfl, rfl⟩
  have hlt := (crcOf (q.drop 4)).isLt
  obtain ⟨z, hz⟩ : ∃ z, (crcOf (q.drop 4)).toNat = z := ⟨_, rfl⟩
  rw [hz] at hlt ⊢
  have h2 := r5put w2 w.heap.size g 512 cap q 0 4 0 4 z rfl rfl HP2.out.1 (by omega) (by omega) (by decide) (by decide)
  have H2 := Lib.hid h2
  have HZ := Lib.hid hz
  have hz2 : (z : Int) < 4294967296 := by omega
  clear h2 hlt hz HOF
  go_wp2_with fail
  refine H2.out.mono ?_
  rintro e w3 ⟨rfl, hp3, hc3⟩
  have hfin : Hid (PwOut w (sealP p l) (.returned (.slice (some ⟨g, 0, none⟩) 512 cap)) w3) := by
    refine ⟨g, cap, rfl, ?_, HB1.out.trans ((HP2.out.2.trans hc3).below HB1.out.size (fun k hk e => by have h4 : k = g := e; omega))⟩
    rw [← HZ.out, ← HQ.out] at hp3
    exact hp3
  clear hp3 hc3 H2 HP2 HB1 hgB HQ HZ
  go_wp2
  go_ret
  exact hfin.out
end Mun
