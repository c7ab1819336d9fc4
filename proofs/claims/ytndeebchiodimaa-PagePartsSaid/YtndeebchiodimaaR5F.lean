/- Contract of munimentref5.Compact. -/
import Derived.Test.YtndeebchiodimaaR5E
set_option maxRecDepth 100000
set_option linter.unusedVariables false
set_option linter.unusedSimpArgs false
namespace Mun
open Go Go.RowKit
open Go.Proofs

theorem chg_cell {F F' : Foot} {w w' : World} (h : Chg F F' w w') {k : Nat} (hk : k < w.heap.size) (hF : ¬ F k) (off : Nat) : w'.cell? ⟨k, off, none⟩ = w.cell? ⟨k, off, none⟩ := by
  unfold World.cell?
  simp only [h.block k hk hF]

theorem PwOut.form {w w' : World} {p : PBytes} {e : Ending} (h : PwOut w p e w') : ∃ g cap, e = .returned (.slice (some ⟨g, 0, none⟩) 512 cap) ∧ Pw w.heap.size w' g 512 cap p ∧ Below w.heap.size w w' := h
theorem Pw.lower {B B' : Nat} {wr : World} {g m cap : Nat} {p : PBytes} (h : Pw B wr g m cap p) (hB : B' ≤ B) : Pw B' wr g m cap p := ⟨h.own.lower hB, h.len, h.pos⟩
/-- a byte's cell in a page of the call's own -/
theorem Pw.cell {B : Nat} {wr : World} {g m cap : Nat} {p : PBytes} (h : Pw B wr g m cap p) (i : Nat) (hi : i < m) : ∃ y : Int, wr.cell? ⟨g, i, none⟩ = some (.int .u8 y) ∧ wr.frozen? ⟨g, i, none⟩ = false := by
  obtain ⟨y, hy⟩ := h.own.cellEx i (by rw [← h.len]; exact hi)
  exact ⟨y, hy, h.own.frozenAt (by rw [← h.len]; exact h.pos) i⟩

/-- the bytes of a list's element -/
theorem lists_byte {F : Foot} {w : World} {v : Value} {cs : List (List UInt8)} {vs : List Value} (h : ListsAt F w v cs vs) (i : Nat) (hi : i < cs.length) :
    ∃ g off c a c2, v = .slice (some ⟨g, off, none⟩) cs.length c ∧ w.cell? ⟨g, off + i, none⟩ = some (.slice a cs[i].length c2) ∧ RdB F w (.slice a cs[i].length c2) cs[i] := by
  obtain ⟨g, off, c, a, n, c2, h1, h2, h3, -, -⟩ := h.cellAt i hi
  obtain ⟨a', c', e, -⟩ := h3.form
  injection e with e1 e2 e3
  subst e1 e2 e3
  exact ⟨g, off, c, _, _, h1, h2, h3⟩

theorem zer_take (k n : Nat) (h : k ≤ n) : (zer n).take k = zer k := by unfold zer; rw [List.take_replicate, Nat.min_eq_left h]
theorem zer_get (k n : Nat) (h : k < (zer n).length) : (zer n)[k] = 0 := by simp [zer]

set_option maxHeartbeats 2000000 in
theorem r5compact {F : Foot} (w : World) (v : Value) (p : List UInt8) (hv : RdB F w v p) (hg : AnewOk p) : Calls Try.prog 40 #[v] w (PwOut w (rcompP p)) := by
  have hfit := hg.fit
  have HV := Lib.hid hv
  have HP := Lib.hid hg
  have hcp := r5copy w v p hv hg.len
  obtain ⟨a, n, c, rfl, HN, -, -⟩ := hv.formN
  have hmb : cnt p ≤ 121 := by omega
  obtain ⟨m, hm⟩ : ∃ m, cnt p = m := ⟨_, rfl⟩
  have HFIT : Hid (26 + 4 * m + szs p m ≤ 512) := by show _ ≤ _; rw [← hm]; exact hfit
  rw [hm] at hmb
  have HM := Lib.hid hm
  have HC := Lib.hid hcp
  clear hv hg hm hfit hcp
  go_enter Try.func40, Try.ntmps40
  go_wp2_with fail
  refine HC.out.mono ?_
  rintro e w1 ⟨g, cap, rfl, hp1, hb1⟩
  have hcl := r5cells w1 _ p (RdB.below HV.out hb1) HP.out
  rw [HM.out] at hcl
  have HCL := Lib.hid hcl
  have H1 := Lib.hid (And.intro hp1 hb1)
  clear hcl hp1 hb1 HC
  go_wp2_with fail
  refine HCL.out.mono ?_
  rintro e w2 ⟨u, us, rfl, hL⟩
  have hul : us.length = m := by rw [hL.len, cellsP_length]
  obtain ⟨ua, uc, rfl⟩ := hL.form
  rw [hul] at hL ⊢
  have hb2 : Below w1.heap.size w1 w2 := hL.bl
  have hgl : g < w1.heap.size := H1.out.1.lt.2
  have hls : ListsAt (G1 g) w2 (.slice ua m uc) (cellsP p m) us := hL.lists.mono (fun k _ hk => by have h3 : k = g := hk; unfold OldF; omega)
  have H2 : Hid (ListsAt (G1 g) w2 (.slice ua m uc) (cellsP p m) us ∧ Pw w.heap.size w2 g 512 cap p ∧ Below w.heap.size w w2) := ⟨hls, H1.out.1.below hb2, H1.out.2.trans (hb2.mono H1.out.2.size)⟩
  clear hL hb2 hls hul HCL hgl
  go_wp2
  -- the noughts
  go_loopw [6] (fun i wr => ∃ q : Nat, 26 + 4 * m ≤ q ∧ q ≤ 512 ∧ i = .int .i64 (q : Int) ∧ Pw w.heap.size wr g 512 cap (putAt p (26 + 4 * m) (zer (q - (26 + 4 * m)))) ∧ Chg (G1 g) (G1 g) w2 wr) (fun i _ => 512 - (intOf i).toNat)
  case atStart => exact ⟨26 + 4 * m, by omega, by omega, by go_num, by rw [Nat.sub_self, show zer 0 = [] from rfl, putAt_zero]; exact H2.out.2.1, Chg.refl _ _⟩
  case round =>
    obtain ⟨q, hq1, hq2, rfl, hP, hC⟩ := hrel
    rcases Nat.lt_or_eq_of_le hq2 with hlt | heq
    · obtain ⟨y, hcell, hfr⟩ := hP.cell q hlt
      have hz := zer_length (512 - (26 + 4 * m))
      have hst := putAt_step p (zer (512 - (26 + 4 * m))) (26 + 4 * m) (q - (26 + 4 * m)) (by omega) (by rw [hz, HP.out.len]; omega)
      rw [zer_get, zer_take _ _ (by omega), zer_take _ _ (by omega), show 26 + 4 * m + (q - (26 + 4 * m)) = q by omega, show q - (26 + 4 * m) + 1 = q + 1 - (26 + 4 * m) by omega] at hst
      have hPs := hP.set q hlt 0 0 rfl
      rw [hst] at hPs
      have hN : Hid (Pw w.heap.size (wr.setCell ⟨g, q, none⟩ (.int .u8 0)) g 512 cap (putAt p (26 + 4 * m) (zer (q + 1 - (26 + 4 * m)))) ∧ Chg (G1 g) (G1 g) w2 (wr.setCell ⟨g, q, none⟩ (.int .u8 0)) ∧ 26 + 4 * m ≤ q ∧ q < 512) := ⟨hPs, hC.trans (chg_set _ _ _ _), hq1, hlt⟩
      have hqi : (q : Int) < 512 := by omega
      have hq0 : (0 : Int) ≤ (q : Int) := by omega
      clear hP hC hst hPs hz hlt hq1 hq2
      go_wp2
      go_roundw
      case rel => exact ⟨q + 1, by have := hN.out.2.2; omega, by have := hN.out.2.2; omega, by go_num, hN.out.1, hN.out.2.1⟩
      case measure => have := hN.out.2.2; simp [intOf]; omega
    · subst heq
      have hR0 : Pw w.heap.size wr g 512 cap (rcS p 0) := by show Pw _ _ _ _ _ (rcZ p); unfold rcZ; rw [HM.out]; exact hP
      obtain ⟨w3, rfl⟩ : ∃ w3 : World, w3 = wr := ⟨_, rfl⟩
      have H3 := Lib.hid (And.intro hR0 hC)
      have htest : decide ((512 : Int) < 512) = false := by simp
      clear hP hC hR0 hq1 hq2
      rw [show ((512 : Nat) : Int) = 512 from rfl]
      go_wp2
      go_loopw [5, 7] (fun lo i wr => ∃ k : Nat, k ≤ m ∧ i = .int .i64 (k : Int) ∧ lo = .int .i64 ((512 - szs p k : Nat) : Int) ∧ Pw w.heap.size wr g 512 cap (rcS p k) ∧ Chg (G1 g) (G1 g) w2 wr) (fun _ i _ => m - (intOf i).toNat)
      case atStart => exact ⟨0, by omega, rfl, rfl, H3.out.1, H3.out.2⟩
      case round =>
        obtain ⟨k, hk, rfl, rfl, hP, hC⟩ := hrel
        have hzk : szs p k ≤ szs p m := szs_mono p hk
        have hfit := HFIT.out
        rcases Nat.lt_or_eq_of_le hk with hlt | heq
        · have hz1 : szs p (k + 1) ≤ szs p m := szs_mono p hlt
          have hz2 : szs p (k + 1) = szs p k + sSize p k := rfl
          have hrs : rcS p (k + 1) = pt (putAt (rcS p k) (512 - szs p (k + 1)) (cellP p k)) (26 + 4 * k) 2 (512 - szs p (k + 1)) := rfl
          have hcl := cellP_length HP.out (k := k) (by rw [HM.out]; exact hlt)
          have hls := H2.out.1.chg hC
          obtain ⟨g1, off1, cc1, a1, cc2, e1, hce, hrd⟩ := lists_byte hls k (by rw [cellsP_length]; exact hlt)
          have hget : (cellsP p m)[k]'(by rw [cellsP_length]; exact hlt) = cellP p k := by
            have h1 := cellsP_get p m k hlt
            rw [List.getElem?_eq_getElem (by rw [cellsP_length]; exact hlt)] at h1
            injection h1
          rw [hget] at hce hrd
          rw [cellsP_length] at e1
          injection e1 with e1 _ e3
          subst e1 e3
          obtain ⟨s, hs⟩ : ∃ s, sSize p k = s := ⟨_, rfl⟩
          obtain ⟨z, hz⟩ : ∃ z, szs p k = z := ⟨_, rfl⟩
          obtain ⟨lo, hlo⟩ : ∃ lo, 512 - szs p (k + 1) = lo := ⟨_, rfl⟩
          obtain ⟨bs, hbs⟩ : ∃ bs, cellP p k = bs := ⟨_, rfl⟩
          obtain ⟨q0, hq0⟩ : ∃ q0, rcS p k = q0 := ⟨_, rfl⟩
          rw [hlo, hbs, hq0] at hrs
          rw [hs] at hcl hz2
          rw [hbs] at hcl hce hrd
          rw [hcl] at hce hrd
          rw [hz] at hz2 hzk ⊢
          rw [hq0] at hP
          have hll : 512 - z = lo + s := by omega
          rw [hll]
          have HK : Hid (lo + s ≤ 512 ∧ 26 + 4 * m ≤ lo ∧ bs.length = s ∧ rcS p (k + 1) = pt (putAt q0 lo bs) (26 + 4 * k) 2 lo ∧ k < m ∧ 512 - szs p (k + 1) = lo ∧ q0.length = 512) := ⟨by omega, by omega, hcl, hrs, hlt, hlo, hP.len.symm⟩
          have hki : (k : Int) < (m : Int) := by omega
          have hk0 : (0 : Int) ≤ (k : Int) := by omega
          have hlo2 : (lo : Int) + (s : Int) ≤ 512 := by omega
          have hsb : (s : Int) ≤ 512 := by omega
          obtain ⟨w4, rfl⟩ : ∃ w4 : World, w4 = wr := ⟨_, rfl⟩
          have H4 : Hid (Pw w.heap.size w4 g 512 cap q0 ∧ Chg (G1 g) (G1 g) w2 w4 ∧ RdB (G1 g) w4 (.slice a1 s cc2) bs ∧ w4.cell? ⟨g1, off1 + k, none⟩ = some (.slice a1 s cc2) ∧ g1 ≠ g ∧ g1 < w4.heap.size) := by
            refine ⟨hP, hC, hrd, hce, ?_, ?_⟩
            · obtain ⟨g5, off5, cc5, a5, n5, cc6, e5, -⟩ := hls.cellAt k (by rw [cellsP_length]; exact hlt)
              obtain ⟨g6, off6, c6, e6, -, -, h6, h7, -⟩ := RdV.at_ hls.row (by rw [cellsP_length]; omega)
              injection e6 with e6 _ _
              injection e6 with e6
              injection e6 with e6 _ _
              subst e6
              exact fun e => h6 e
            · obtain ⟨g6, off6, c6, e6, -, -, h6, h7, -⟩ := RdV.at_ hls.row (by rw [cellsP_length]; omega)
              injection e6 with e6 _ _
              injection e6 with e6
              injection e6 with e6 _ _
              subst e6
              exact h7
          clear hP hC hls hrd hz1 hz2 hrs hcl hget hs hz hlo hbs hq0 hll hlt hk hzk hfit
          go_wp2
          go_loopw [8] (fun j wr => ∃ q : Nat, q ≤ s ∧ j = .int .i64 (q : Int) ∧ Pw w.heap.size wr g 512 cap (putAt q0 lo (bs.take q)) ∧ Chg (G1 g) (G1 g) w4 wr) (fun j _ => s - (intOf j).toNat)
          case atStart => exact ⟨0, by omega, rfl, by rw [List.take_zero, putAt_zero]; exact H4.out.1, Chg.refl _ _⟩
          case round =>
            obtain ⟨q, hq, rfl, hP, hC⟩ := hrel
            have hce2 : wr.cell? ⟨g1, off1 + k, none⟩ = some (.slice a1 s cc2) := by
              have h1 := H4.out.2.2.2.1
              rw [← h1]
              exact chg_cell hC H4.out.2.2.2.2.2 (fun e => H4.out.2.2.2.2.1 e) _
            rcases Nat.lt_or_eq_of_le hq with hlt | heq
            · have hrd2 := H4.out.2.2.1.chg hC
              have hk2 := HK.out
              have hsp : 0 < bs.length := by omega
              obtain ⟨g2, off2, c2, e2, -, -, -, -, hcs⟩ := hrd2.at_ hsp
              injection e2 with e2 _ e4
              subst e2 e4
              have hql : q < bs.length := by omega
              have hc1 := hcs q hql
              have hst := putAt_step q0 bs lo q hql (by omega)
              have hPs := hP.set (lo + q) (by omega) bs[q] (bs[q].toNat : Int) rfl
              rw [hst] at hPs
              obtain ⟨x, hx⟩ : ∃ x : Int, ((bs[q]'hql).toNat : Int) = x := ⟨_, rfl⟩
              rw [hx] at hc1 hPs
              obtain ⟨y, hcell, hfr⟩ := hP.cell (lo + q) (by omega)
              have hN : Hid (Pw w.heap.size (wr.setCell ⟨g, lo + q, none⟩ (.int .u8 x)) g 512 cap (putAt q0 lo (bs.take (q + 1))) ∧ Chg (G1 g) (G1 g) w4 (wr.setCell ⟨g, lo + q, none⟩ (.int .u8 x)) ∧ q < s) := ⟨hPs, hC.trans (chg_set _ _ _ _), hlt⟩
              have hqi : (q : Int) < (s : Int) := by omega
              have hq00 : (0 : Int) ≤ (q : Int) := by omega
              have hlo0 : (0 : Int) ≤ (lo : Int) := by omega
              clear hP hC hrd2 hk2 hsp hcs hql hst hPs hx hlt hq
              go_wp2
              go_roundw
              case rel => exact ⟨q + 1, by have := hN.out.2.2; omega, by go_num, hN.out.1, hN.out.2.1⟩
              case measure => have := hN.out.2.2; simp [intOf]; omega
            · subst heq
              have hk2 := HK.out
              have hP2 : Pw w.heap.size wr g 512 cap (putAt q0 lo bs) := by
                have := hP
                rw [List.take_of_length_le (by omega)] at this
                exact this
              have hput := r5put wr w.heap.size g 512 cap _ (26 + 4 * (k : Int)) 2 (26 + 4 * k) 2 lo (by push_cast; rfl) rfl hP2 (by omega) (by omega) (by decide) (by decide)
              rw [← hk2.2.2.2.1] at hput
              have HPT := Lib.hid hput
              have HC5 := Lib.hid (H4.out.2.1.trans hC)
              have hlo0 : (0 : Int) ≤ (lo : Int) := by omega
              have htest : decide ((q : Int) < (q : Int)) = false := by simp
              clear hP hC hP2 hput hk2 hq
              go_wp2_with fail
              refine HPT.out.mono ?_
              rintro e w6 ⟨rfl, hP6, hC6⟩
              have HN : Hid (Pw w.heap.size w6 g 512 cap (rcS p (k + 1)) ∧ Chg (G1 g) (G1 g) w2 w6 ∧ k < m ∧ 512 - szs p (k + 1) = lo) := ⟨hP6, HC5.out.trans hC6, HK.out.2.2.2.2.1, HK.out.2.2.2.2.2.1⟩
              clear hP6 hC6 HPT HC5
              go_wp2
              go_roundw
              case rel => exact ⟨k + 1, by have := HN.out.2.2; omega, by go_num, by rw [HN.out.2.2.2], HN.out.1, HN.out.2.1⟩
              case measure => have := HN.out.2.2; simp [intOf]; omega
        · subst heq
          obtain ⟨lo, hlo⟩ : ∃ lo, 512 - szs p k = lo := ⟨_, rfl⟩
          rw [hlo]
          have hput := r5put wr w.heap.size g 512 cap _ 16 2 16 2 lo rfl rfl hP (by omega) (by omega) (by decide) (by decide)
          have hre : rcompP p = pt (rcS p k) 16 2 lo := by unfold rcompP; rw [HM.out, hlo]
          rw [← hre] at hput
          have HPT := Lib.hid hput
          have HC5 := Lib.hid hC
          have hloi : (lo : Int) ≤ 512 := by omega
          have hlo0 : (0 : Int) ≤ (lo : Int) := by omega
          clear hP hC hput hre hlo hk hzk hfit
          go_wp2_with fail
          refine HPT.out.mono ?_
          rintro e w6 ⟨rfl, hP6, hC6⟩
          have HN : Hid (PwOut w (rcompP p) (.returned (.slice (some ⟨g, 0, none⟩) 512 cap)) w6) := by
            have hgB := hP6.lt.1
            exact ⟨g, cap, rfl, hP6, H2.out.2.2.trans ((HC5.out.trans hC6).below H2.out.2.2.size (fun j hj e => by have h4 : j = g := e; omega))⟩
          clear hP6 hC6 HPT HC5
          go_wp2
          go_ret
          exact HN.out
end Mun
