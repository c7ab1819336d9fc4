/- The walk of WalFull. -/
import Derived.Test.YtoblajbffnkkiaaFullW
set_option maxRecDepth 100000
set_option linter.unusedVariables false
set_option linter.unusedSimpArgs false
namespace Mun
open Go Go.RowKit
open Go.Proofs

theorem full_no {F : Foot} (w : World) (room : Int) (r : PR) (x : RV) (k : Int) (hk : (k != 0) = true) (hr : RecAt F w r x)
    (hby : ∀ W, Below w.heap.size w W → Calls Try.prog 23 #[rval r x, .int .u64 1] W fun e w' => e = .returned (.tuple #[.slice none 0 0, .int .i64 k]) ∧ Below W.heap.size W w') :
    Calls Try.prog 6 #[.int .i64 room, rval r x] w fun e w' => e = .returned (.bool true) ∧ Below w.heap.size w w' := by
  obtain ⟨da, dn, dc, ca, cn, cc, e1, e2, -⟩ := hr.open
  unfold rval at hby ⊢
  rw [e1, e2] at hby
  rw [e1, e2]
  have HBY := Lib.hid hby
  have haw := awake_any (w.alloc (.cells (rcs r (.slice da dn dc) (.slice ca cn cc)) 26))
  have HAW := Lib.hid haw
  clear hby e1 e2 hr haw
  go_enter Try.func6, Try.ntmps6
  go_wp2_with fail
  refine HAW.out.mono ?_
  rintro e w2 ⟨rfl, hb2⟩
  obtain ⟨c0, c1, c2, c3, c4, c5⟩ := box6 (w := w) (r := r) (box_at hb2)
  have HB2 : Hid (Below w.heap.size w w2) := ((Below.refl _ _).alloc (Nat.le_refl _) _).trans (hb2.mono (by simp))
  clear hb2
  go_wp2_with fail
  refine (HBY.out w2 HB2.out).mono ?_
  rintro e w3 ⟨rfl, hb3⟩
  have HB3 := Lib.hid (HB2.out.trans (hb3.mono HB2.out.size))
  clear hb3 c0 c1 c2 c3 c4 c5
  go_wp2
  go_ret
  exact ⟨rfl, HB3.out⟩

set_option maxHeartbeats 4000000 in
theorem full_ok (w : World) (room : Int) (r : PR) (x : RV) (hr : RecAt NoF w r x) (hok : RecOk r) (hsz : szR r ≤ 4194304) :
    Calls Try.prog 6 #[.int .i64 room, rval r x] w fun e w' => e = .returned (.bool true) ∧ Below w.heap.size w w' := by
  obtain ⟨da, dn, dc, ca, cn, cc, e1, e2, -⟩ := hr.open
  obtain ⟨s, hand, hs⟩ := and_2047 room
  obtain ⟨d, hd⟩ : ∃ d, recLen r = d := ⟨_, rfl⟩
  have hd14 : 14 ≤ d := by rw [← hd]; exact recLen_pos r
  have hby := fun W (hb : Below w.heap.size w W) => r7bytes_ok W r x 1 (by omega) (hr.below hb) hok.good hsz hok.big
  have hokA := fun (w3 wr : World) (D L : Nat) (dm dm' : DM) (m : LM) (hb : Below w.heap.size w wr) (h : Own w3 D L dm m wr) ho hlog hap => own_app (r := r) (x := x) (dm' := dm') h (hr.below hb) hok hsz ho hlog hap
  have hnoA := fun (w3 wr : World) (D L : Nat) (dm dm' : DM) (m : LM) (hb : Below w.heap.size w wr) (h : Own w3 D L dm m wr) ho hlog hap => own_app_no (r := r) (x := x) (dm' := dm') (kk := 7) h (hr.below hb) hok hsz ho hlog hap (by decide)
  have haw := awake_any (w.alloc (.cells (rcs r (.slice da dn dc) (.slice ca cn cc)) 26))
  unfold rval at hby hokA hnoA ⊢
  rw [e1, e2] at hby hokA hnoA
  rw [e1, e2]
  have HBY := Lib.hid hby
  have HAW := Lib.hid haw
  have HOK := Lib.hid hokA
  have HNO := Lib.hid hnoA
  have HD := Lib.hid (And.intro hd (And.intro hd14 hs))
  have hsi : (s : Int) < 2048 := by omega
  clear hby e1 e2 hr haw hok hsz hokA hnoA hd hd14 hs
  go_enter Try.func6, Try.ntmps6
  go_wp2_with fail
  refine HAW.out.mono ?_
  rintro e w2 ⟨rfl, hb2⟩
  have hbx2 := box_at hb2
  obtain ⟨c0, c1, c2, c3, c4, c5⟩ := box6 (w := w) (r := r) hbx2
  have HB2 : Hid (Below w.heap.size w w2 ∧ w2.heap[w.heap.size]? = some (.cells (rcs r (.slice da dn dc) (.slice ca cn cc)) 26 (0, 0))) := ⟨((Below.refl _ _).alloc (Nat.le_refl _) _).trans (hb2.mono (by simp)), hbx2⟩
  clear hb2 hbx2
  go_wp2_with fail
  refine (HBY.out w2 HB2.out.1).mono ?_
  rintro e w3 ⟨g, n, c, rfl, HN, ho, hb3⟩
  obtain rfl : n = d := by have := HN.out; rw [recB_len, HD.out.1] at this; exact this
  have hbx3 : w3.heap[w.heap.size]? = some (.cells (rcs r (.slice da dn dc) (.slice ca cn cc)) 26 (0, 0)) := (hb3.block _ (lt_of_block HB2.out.2)).trans HB2.out.2
  have hb03 := HB2.out.1.trans (hb3.mono HB2.out.1.size)
  have hf : Calls Try.prog 13 #[.int .i64 s] w3 (FreshOut w3 s) := fresh_any w3 s (by have := HD.out.2.2; omega)
  have HF := Lib.hid hf
  have HB3 := Lib.hid (And.intro hb03 hbx3)
  clear hb3 ho hbx3 hb03 hf c0 c1 c2 c3 c4 c5 HN HAW HBY
  go_wp2_with fail
  clear hand
  refine HF.out.mono ?_
  rintro e w4 ⟨D, L, F, bv, sv, rfl, hlog, hb4, hoF, hoE⟩
  have how : Own w3 D L (fdm s 0 r) (flm 0 r) w4 := ⟨F, bv, sv, hlog, hb4, fun k hk => by
    rcases hk with h | h
    · exact hoF k h
    · exact hoE k h⟩
  have HOW := Lib.hid how
  have hbox : ∀ wr, Below w3.heap.size w3 wr → wr.heap[w.heap.size]? = some (.cells (rcs r (.slice da dn dc) (.slice ca cn cc)) 26 (0, 0)) := fun wr hb => (hb.block _ (lt_of_block HB3.out.2)).trans HB3.out.2
  have HBX := Lib.hid hbox
  have hall : ∀ wr, Below w3.heap.size w3 wr → Below w.heap.size w wr := fun wr hb => HB3.out.1.trans (hb.mono HB3.out.1.size)
  have HAL := Lib.hid hall
  clear how hlog hb4 hoF hoE HF hbox hall
  go_wp2
  go_loopw [10, 11] (fun nv iv wr => ∃ k : Nat, nv = .int .i64 k ∧ iv = .int .i64 k ∧ k * n ≤ s ∧ Own w3 D L (fdm s k r) (flm k r) wr) (fun nv _ _ => 200 - (intOf nv).toNat)
  case atStart => exact ⟨0, rfl, rfl, by omega, HOW.out⟩
  case round =>
    obtain ⟨k, rfl, rfl, hks, hown⟩ := hrel
    have hk14 : k * 14 ≤ k * n := Nat.mul_le_mul_left _ HD.out.2.1
    have hs48 := HD.out.2.2
    have k200 : (k : Int) < 200 := by omega
    have HE := Lib.hid (own_end hown)
    have HKS := Lib.hid (And.intro hks (show k < 200 by omega))
    obtain ⟨fq, hfq⟩ : ∃ fq, (flm k r).fin = fq := ⟨_, rfl⟩
    rw [hfq] at HE
    clear hk14 hs48 hks hown
    go_wp2_with fail
    refine HE.out.mono ?_
    rintro e w5 ⟨rfl, ho5⟩
    obtain ⟨c0, c1, c2, c3, c4, c5⟩ := box6 (w := w) (r := r) (HBX.out w5 ho5.below)
    by_cases hk : k * n + n ≤ s
    · have hap := HOK.out w3 w5 D L _ (fdm s (k + 1) r) _ (HAL.out _ ho5.below) ho5 (by show k < _; have := HKS.out.2; omega) (fun _ => rfl) (fdm_ok (by rw [HD.out.1]; exact hk))
      rw [hfq, flm_push] at hap
      have HAP := Lib.hid hap
      have HK := Lib.hid hk
      clear hap hk ho5 HE hfq
      go_wp2_with fail
      refine HAP.out.mono ?_
      rintro e w6 ⟨rfl, ho6⟩
      have HO6 := Lib.hid ho6
      clear ho6 HAP c0 c1 c2 c3 c4 c5
      go_wp2
      go_roundw
      case rel => exact ⟨k + 1, by go_num, by go_num, by rw [Nat.succ_mul]; exact HK.out, HO6.out⟩
      case measure => have := HKS.out.2; simp [intOf]; omega
    · have hap := HNO.out w3 w5 D L _ (fdm s k r) _ (HAL.out _ ho5.below) ho5 (by show k < _; have := HKS.out.2; omega) (fun _ => rfl) (fdm_no (by rw [HD.out.1]; omega))
      have HAP := Lib.hid hap
      have HK := Lib.hid hk
      clear hap hk ho5 HE
      go_wp2_with fail
      refine HAP.out.mono ?_
      rintro e w6 ⟨rfl, ho6⟩
      have hen6 := own_end ho6
      rw [hfq] at hen6
      have HE6 := Lib.hid hen6
      have hn14 := HD.out.2.1
      have hdv : s / n = k := by
        have h1 := HKS.out.1
        have h2 := HK.out
        exact Nat.div_eq_of_lt_le h1 (by rw [Nat.succ_mul]; omega)
      have dv1 : (s : Int) / (n : Int) = (k : Int) := by rw [← hdv]; exact (Int.natCast_ediv s n).symm
      have dv2 : (s : Int).tdiv (n : Int) = (k : Int) := by rw [Int.tdiv_eq_ediv_of_nonneg (by omega)]; exact dv1
      have nz1 : ((n : Int) == 0) = false := by simp; omega
      have nz2 : ¬ (n : Int) = 0 := by omega
      clear hen6 ho6 HAP c0 c1 c2 c3 c4 c5 hfq hdv
      go_wp2_with fail
      refine HE6.out.mono ?_
      rintro e w7 ⟨rfl, ho7⟩
      have HO7 := Lib.hid ho7
      clear ho7 HE6
      by_cases hk0 : k = 0
      · subst hk0
        have hsn : (s : Int) < (n : Int) := by have := HK.out; omega
        go_wp2
        go_ret
        exact ⟨rfl, HAL.out _ HO7.out.below⟩
      · have kz1 : ((k : Int) == 0) = false := by simp; omega
        have kz2 : ¬ (k : Int) = 0 := by omega
        have hfr : Calls Try.prog 18 #[.pointer (some ⟨L, 0, none⟩), .int .u64 1] w7 fun e w' => e = .returned (.int .i64 0) ∧ Own w3 D L (fdm2 s k r) (flm k r).done w' :=
          own_force (lsn := 1) HO7.out (by show k < _; have := HKS.out.2; omega) (Nat.le_refl _) (fdm_force s k r)
        have HFR := Lib.hid hfr
        clear hfr
        go_wp2_with fail
        refine HFR.out.mono ?_
        rintro e w8 ⟨rfl, ho8⟩
        have hen8 := own_end ho8
        have hf8 : (flm k r).done.fin = 1 + k * n := by rw [← HD.out.1]; exact flm_fin k r
        obtain ⟨q, hq⟩ : ∃ q, 1 + k * n = q := ⟨_, rfl⟩
        rw [hf8, hq] at hen8
        have HE8 := Lib.hid hen8
        have HQ := Lib.hid hq
        clear hen8 ho8 HFR hf8 hq
        go_wp2_with fail
        refine HE8.out.mono ?_
        rintro e w9 ⟨rfl, ho9⟩
        have hll : lenL (List.replicate k r) = k * n := by rw [lenL_rep, HD.out.1]
        have hct := own_cut_end (i := k) (o := k * n) (q := q) (dm' := fdm3 s k r) ho9 (by show k + 1 < _; have := HKS.out.2; omega) (by show k = (List.replicate k r).length; simp)
          (by show lenL ((List.replicate k r).take k) = _; rw [List.take_of_length_le (by simp), hll]) HQ.out (by show _ ≤ lenL (List.replicate k r); omega) rfl (by have := HQ.out; have := HKS.out.1; have := HD.out.2.2; omega)
          (by have h := fdm2_cut s k r; rw [HD.out.1, HQ.out] at h; exact h)
        have HCT := Lib.hid hct
        clear hct ho9 HE8 hll
        go_wp2_with fail
        refine HCT.out.mono ?_
        rintro e wa ⟨rfl, hoa⟩
        obtain ⟨c0, c1, c2, c3, c4, c5⟩ := box6 (w := w) (r := r) (HBX.out wa hoa.below)
        have hns : recLen r ≤ s := by
          rw [HD.out.1]
          have h1 := HKS.out.1
          have h2 : 1 * n ≤ k * n := Nat.mul_le_mul_right _ (by omega)
          omega
        have hap := HOK.out w3 wa D L _ _ _ (HAL.out _ hoa.below) hoa (by show k + 2 < _; have := HKS.out.2; omega)
          (fun _ => by
            show [] = encL _ ((List.replicate k r).drop k)
            rw [List.drop_of_length_le (by simp)]
            rfl)
          (Prod.ext rfl (fdm3_ok _ hns))
        have HAP := Lib.hid hap
        clear hap hoa HCT hns
        go_wp2_with fail
        refine HAP.out.mono ?_
        rintro e wb ⟨rfl, hob⟩
        have HOB := Lib.hid (HAL.out _ hob.below)
        clear hob HAP c0 c1 c2 c3 c4 c5
        go_wp2
        go_ret
        exact ⟨rfl, HOB.out⟩

theorem full_all (w : World) (room : Int) (r : PR) (x : RV) (hr : RecAt NoF w r x) (hsz : szR r ≤ 4194304) :
    Calls Try.prog 6 #[.int .i64 room, rval r x] w fun e w' => e = .returned (.bool true) ∧ Below w.heap.size w w' := by
  cases hg : goodR r with
  | false => exact full_no w room r x 1 rfl hr (fun W hW => r7bytes_no W r x 1 (hr.below hW) hg)
  | true =>
    by_cases hbig : (bodyR r).length ≤ 1048576
    · exact full_ok w room r x hr ⟨hg, hbig, hr.tx, hr.prev, hr.next⟩ hsz
    · exact full_no w room r x 2 rfl hr (fun W hW => r7bytes_big W r x 1 (hr.below hW) hg hsz (by omega))
end Mun
