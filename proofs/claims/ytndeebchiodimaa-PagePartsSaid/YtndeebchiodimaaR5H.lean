/- Contract of munimentref5.Insert. -/
import Derived.Test.YtndeebchiodimaaR5G
set_option maxRecDepth 100000
set_option linter.unusedVariables false
set_option linter.unusedSimpArgs false
namespace Mun
open Go Go.RowKit
open Go.Proofs

def PwOut2 (w : World) (p : PBytes) (e : Ending) (w' : World) : Prop := ∃ g cap, e = .returned (.tuple #[.slice (some ⟨g, 0, none⟩) 512 cap, .bool true]) ∧ Pw w.heap.size w' g 512 cap p ∧ Below w.heap.size w w'
def PwNo2 (w : World) (e : Ending) (w' : World) : Prop := e = .returned (.tuple #[.slice none 0 0, .bool false]) ∧ Below w.heap.size w w'

/-- low, from the page itself -/
theorem r5low {F : Foot} (w : World) (v : Value) (p : List UInt8) (hv : RdB F w v p) (hp : 18 ≤ p.length) : Calls Try.prog 18 #[v] w fun e w' => e = .returned (.int .i64 (lowP p)) ∧ w = w' := reflow_any w v p hv hp

theorem r5insert_no {F : Foot} (w : World) (v u : Value) (p c : List UInt8) (i : Int) (hv : RdB F w v p) (hu : RdB F w u c) (hg : GoodP p) (hcl : c.length ≤ 140737488355328) (hf : freeP p < (c.length : Int) + 4) : Calls Try.prog 24 #[v, .int .i64 i, u] w (PwNo2 w) := by
  have hfr := r5free w v p hv hg
  obtain ⟨a, n, cp, rfl, HN, -, -⟩ := hv.formN
  obtain ⟨a2, n2, c2, rfl, HN2, -, -⟩ := hu.formN
  obtain ⟨f, hff⟩ : ∃ f, freeP p = f := ⟨_, rfl⟩
  rw [hff] at hfr hf
  rw [← HN2.out] at hf hcl
  have HF := Lib.hid hfr
  have hn2 : (n2 : Int) ≤ 140737488355328 := by omega
  have hn0 : (0 : Int) ≤ (n2 : Int) := by omega
  clear hv hu hg hfr hff hcl
  go_enter Try.func24, Try.ntmps24
  go_wp2_with fail
  refine HF.out.mono ?_
  rintro e w2 ⟨rfl, rfl⟩
  go_wp2
  go_ret2
  exact ⟨rfl, Below.refl _ _⟩

set_option maxHeartbeats 2000000 in
theorem r5insert_yes {F : Foot} (w : World) (v u : Value) (p c : List UInt8) (i : Nat) (hv : RdB F w v p) (hu : RdB F w u c) (hg : GoodP p) (hi : i ≤ cnt p) (hf : (c.length : Int) + 4 ≤ freeP p) : Calls Try.prog 24 #[v, .int .i64 i, u] w (PwOut2 w (insP p i c)) := by
  have hfr := r5free w v p hv hg
  have hcp := r5copy w v p hv hg.len
  have hrm := room_ok hg (c.length + 4) (by push_cast; exact hf)
  have hre := rins_eq hg hi hf
  have hrdef : roomP p (c.length + 4) = if lowP p < 26 + 4 * cnt p + (c.length + 4) then anewP p else p := rfl
  have hao := good_anewOk hg
  have hfb : freeP p ≤ 486 := by unfold freeP; omega
  have HV := Lib.hid hv
  have HU := Lib.hid hu
  obtain ⟨a, n, cp, rfl, HN, -, -⟩ := hv.formN
  obtain ⟨a2, n2, c2, rfl, HN2, -, -⟩ := hu.formN
  unfold rinsP at hre
  obtain ⟨m, hm⟩ : ∃ m, cnt p = m := ⟨_, rfl⟩
  obtain ⟨f, hff⟩ : ∃ f, freeP p = f := ⟨_, rfl⟩
  obtain ⟨lo, hlo⟩ : ∃ lo, lowP p = lo := ⟨_, rfl⟩
  obtain ⟨q, hq⟩ : ∃ q, roomP p (c.length + 4) = q := ⟨_, rfl⟩
  have hfit := hg.fit
  have hlow := hg.low
  have hrl := hrm.room
  have hrw := hrm.low
  have hrlen := hrm.len
  have hrc := hrm.cnt
  rw [hq] at hrm hre hrdef hrl hrw hrlen hrc
  rw [hm] at hi hfit hre hrdef hrl hrc
  rw [hlo] at hfit hlow hrdef
  rw [hff] at hfr hf hfb
  obtain ⟨lq, hlq⟩ : ∃ lq, lowP q = lq := ⟨_, rfl⟩
  rw [hlq] at hrl hrw hre
  rw [← HN2.out] at hf hrdef hrl
  have HM : Hid (cnt p = m ∧ lowP p = lo ∧ lowP q = lq ∧ p.length = 512 ∧ i ≤ m ∧ 26 + 4 * m + (n2 + 4) ≤ lq ∧ lq ≤ 512 ∧ q.length = 512 ∧ AnewOk p) := ⟨hm, hlo, hlq, hg.len, hi, hrl, hrw, hrlen, hao⟩
  have HQ := Lib.hid hrdef
  have HE := Lib.hid hre
  have HF := Lib.hid hfr
  have HC := Lib.hid hcp
  have hmb : (m : Int) ≤ 121 := by omega
  have hn2 : (n2 : Int) ≤ 486 := by omega
  have hn0 : (0 : Int) ≤ (n2 : Int) := by omega
  have hi0 : (0 : Int) ≤ (i : Int) := by omega
  have him : (i : Int) ≤ (m : Int) := by omega
  have hlob : (lo : Int) ≤ 512 := by omega
  have hlqb : (lq : Int) ≤ 512 := by omega
  have hlqn : (n2 : Int) ≤ (lq : Int) := by omega
  have hfn : ¬ f < (n2 : Int) + 4 := by omega
  clear hv hu hg hfr hcp hrm hre hrdef hfb hm hff hlo hq hfit hlow hrl hrw hrlen hrc hlq hf hao hi
  go_enter Try.func24, Try.ntmps24
  go_wp2_with fail
  refine HF.out.mono ?_
  rintro e w2 ⟨rfl, rfl⟩
  clear HF
  go_wp2_with fail
  refine HC.out.mono ?_
  rintro e w1 ⟨g, cap, rfl, hp1, hb1⟩
  have hgB := hp1.lt
  have hrd := rd_new HV.out hgB.1 hb1
  have hcn := r5count w1 _ p hrd (by rw [HM.out.2.2.2.1]; decide)
  have hlw := r5low w1 _ p hrd (by rw [HM.out.2.2.2.1]; decide)
  have hcm := r5compact w1 _ p hrd HM.out.2.2.2.2.2.2.2.2
  rw [HM.out.1] at hcn
  rw [HM.out.2.1] at hlw
  have HCN := Lib.hid hcn
  have HLW := Lib.hid hlw
  have HCM := Lib.hid hcm
  have H1 := Lib.hid (And.intro hp1 hb1)
  clear hcn hlw hcm hp1 hb1 hrd hgB HC
  go_wp2_with fail
  refine HCN.out.mono ?_
  rintro e w2 ⟨rfl, rfl⟩
  clear HCN
  go_wp2_with fail
  refine HLW.out.mono ?_
  rintro e w2 ⟨rfl, rfl⟩
  clear HLW
  go_upto_if 34 with fail
  go_cut [8] (fun s8 wx => ∃ g cap, s8 = .slice (some ⟨g, 0, none⟩) 512 cap ∧ Pw w.heap.size wx g 512 cap q ∧ Below w.heap.size w wx)
  case first =>
    by_cases hroom : (lo : Int) - 26 - 4 * (m : Int) < (n2 : Int) + 4
    · have HX : Hid (rcompP p = q) := by
        show _ = _
        rw [rcomp_eq HM.out.2.2.2.2.2.2.2.2, HQ.out, if_pos (by omega)]
      go_wp2_with fail
      refine HCM.out.mono ?_
      rintro e w3 ⟨g2, cap2, rfl, hp3, hb3⟩
      have HX3 : Hid (Pw w.heap.size w3 g2 512 cap2 q ∧ Below w.heap.size w w3) := by
        rw [HX.out] at hp3
        exact ⟨hp3.lower H1.out.2.size, H1.out.2.trans (hb3.mono H1.out.2.size)⟩
      clear hp3 hb3 HCM
      go_wp2
      go_meet
      exact ⟨g2, cap2, rfl, HX3.out⟩
    · have HX : Hid (p = q) := by
        show _ = _
        rw [HQ.out, if_neg (by omega)]
      go_wp2
      go_meet
      exact ⟨g, cap, rfl, by rw [← HX.out]; exact H1.out.1, H1.out.2⟩
  case rest =>
    obtain ⟨g3, cap3, rfl, hp3, hb3⟩ := hcut
    obtain ⟨w3, rfl⟩ : ∃ w3 : World, w3 = wc := ⟨_, rfl⟩
    clear HCM H1
    have hgB := hp3.lt
    have hrd3 := hp3.rd (F := NoF) (noF _)
    have hlw := r5low w3 _ q hrd3 (by rw [HM.out.2.2.2.2.2.2.2.1]; decide)
    rw [HM.out.2.2.1] at hlw
    have hu3 : RdB (G1 g3) w3 (.slice a2 n2 c2) c := rd_new HU.out hgB.1 hb3
    have HLW := Lib.hid hlw
    have H3 := Lib.hid (And.intro hp3 (And.intro hb3 (And.intro hu3 hgB.1)))
    clear hlw hp3 hb3 hrd3 hu3 hgB
    go_wp2_with fail
    refine HLW.out.mono ?_
    rintro e w2 ⟨rfl, rfl⟩
    clear HLW
    go_wp2
    go_loopw [11] (fun k wr => ∃ r : Nat, i ≤ r ∧ r ≤ m ∧ k = .int .i64 (r : Int) ∧ Pw w.heap.size wr g3 512 cap3 (upP q r m) ∧ Chg (G1 g3) (G1 g3) w3 wr) (fun k _ => (intOf k).toNat - i)
    case atStart => exact ⟨m, HM.out.2.2.2.2.1, Nat.le_refl _, rfl, by rw [upP_zero]; exact H3.out.1, Chg.refl _ _⟩
    case round =>
      obtain ⟨r, hr1, hr2, rfl, hP, hC⟩ := hrel
      have hmm := HM.out
      have hql := hmm.2.2.2.2.2.2.2.1
      have hmr := hmm.2.2.2.2.2.1
      have hlqm := hmm.2.2.2.2.2.2.1
      rcases Nat.lt_or_eq_of_le hr1 with hlt | heq
      · obtain ⟨j, rfl⟩ : ∃ j, r = j + 1 := ⟨r - 1, by omega⟩
        have hul := upP_len hql (j + 1) m (by omega) hr2
        have hss := upP_slot hql j m (by omega) hr2
        have hsl := r5slot wr _ (upP q (j + 1) m) j (hP.rd (F := NoF) (noF _)) (by rw [hul]; omega) (by rw [hul]; decide)
        have hst := upP_step hql j m (by omega) hr2
        have hf1 : sFrom q j < 65536 := gt2_lt q _
        have hs1 : sSize q j < 65536 := gt2_lt q _
        rw [hss.1, hss.2] at hsl
        obtain ⟨f2, hf⟩ : ∃ f2, sFrom q j = f2 := ⟨_, rfl⟩
        obtain ⟨s, hs⟩ : ∃ s, sSize q j = s := ⟨_, rfl⟩
        rw [hf, hs] at hsl hst
        rw [hf] at hf1
        rw [hs] at hs1
        have hput := r5put wr w.heap.size g3 512 cap3 _ (26 + 4 * ((j : Int) + 1)) 2 (26 + 4 * (j + 1)) 2 f2 (by push_cast; rfl) rfl hP (by omega) (by omega) (by decide) (by decide)
        have HSL := Lib.hid hsl
        have HPT := Lib.hid hput
        have HST : Hid (pt (pt (upP q (j + 1) m) (26 + 4 * (j + 1)) 2 f2) (26 + 4 * (j + 1) + 2) 2 s = upP q j m ∧ i ≤ j ∧ j + 1 ≤ m ∧ 26 + 4 * (j + 1) + 2 + 2 ≤ 512) := ⟨hst, by omega, hr2, by omega⟩
        have HC := Lib.hid hC
        have hqi : (j : Int) + 1 > (i : Int) := by omega
        have hq0 : (0 : Int) ≤ (j : Int) := by omega
        have hjm : (j : Int) + 1 ≤ (m : Int) := by omega
        have hfi : (f2 : Int) < 65536 := by omega
        have hsi : (s : Int) < 65536 := by omega
        have hf0 : (0 : Int) ≤ (f2 : Int) := by omega
        have hs0 : (0 : Int) ≤ (s : Int) := by omega
        have hj1 : (j : Int) + 1 - 1 = (j : Int) := by omega
        rw [show (((j + 1 : Nat) : Int)) = (j : Int) + 1 by push_cast; rfl]
        clear hsl hput hst hf hs hlt hr1 hr2 hP hC hmm hf1 hs1 hul hss hql hmr hlqm
        go_wp2_with fail
        refine HSL.out.mono ?_
        rintro e w5 ⟨rfl, rfl⟩
        go_wp2_with fail
        refine HPT.out.mono ?_
        rintro e w6 ⟨rfl, hP6, hC6⟩
        have hput2 := r5put w6 w.heap.size g3 512 cap3 _ (28 + 4 * ((j : Int) + 1)) 2 (26 + 4 * (j + 1) + 2) 2 s (by push_cast; omega) rfl hP6 HST.out.2.2.2 (by omega) (by decide) (by decide)
        rw [HST.out.1] at hput2
        have HPT2 := Lib.hid hput2
        have HC6 := Lib.hid (HC.out.trans hC6)
        clear hput2 hP6 hC6 HPT HSL HC
        go_wp2_with fail
        refine HPT2.out.mono ?_
        rintro e w7 ⟨rfl, hP7, hC7⟩
        have HN7 := Lib.hid (And.intro hP7 (HC6.out.trans hC7))
        clear hP7 hC7 HPT2 HC6
        go_wp2
        go_roundw
        case rel => exact ⟨j, HST.out.2.1, by have := HST.out; omega, by go_num, HN7.out.1, HN7.out.2⟩
        case measure => have := HST.out; simp [intOf]; omega
      · subst heq
        obtain ⟨lo2, hlo2⟩ : ∃ lo2, lq - n2 = lo2 := ⟨_, rfl⟩
        have hlo2i : (lq : Int) - (n2 : Int) = (lo2 : Int) := by omega
        have hcl : c.length = n2 := HN2.out.symm
        have hE := HE.out
        rw [hcl, hlo2] at hE
        have HB : Hid (putAt (pt (pt (pt (pt (upP q i m) (26 + 4 * i) 2 lo2) (26 + 4 * i + 2) 2 n2) 14 2 (m + 1)) 16 2 lo2) lo2 c = insP p i c ∧ 26 + 4 * (m + 1) ≤ lo2 ∧ lo2 + n2 ≤ 512 ∧ i ≤ m ∧ c.length = n2) := ⟨hE, by omega, by omega, hr2, hcl⟩
        have hput := r5put wr w.heap.size g3 512 cap3 _ (26 + 4 * (i : Int)) 2 (26 + 4 * i) 2 lo2 (by push_cast; rfl) rfl hP (by omega) (by omega) (by decide) (by decide)
        have HPT := Lib.hid hput
        have HC := Lib.hid hC
        have hl0 : (0 : Int) ≤ (lo2 : Int) := by omega
        have hlb : (lo2 : Int) ≤ 512 := by omega
        have hqi : ¬ (i : Int) > (i : Int) := by omega
        rw [hlo2i]
        clear hput hP hC hmm hr1 hr2 hlo2 hlo2i hcl hE hql hmr hlqm
        go_wp2_with fail
        refine HPT.out.mono ?_
        rintro e w5 ⟨rfl, hP5, hC5⟩
        have hput2 := r5put w5 w.heap.size g3 512 cap3 _ (28 + 4 * (i : Int)) 2 (26 + 4 * i + 2) 2 n2 (by push_cast; omega) rfl hP5 (by have := HB.out; omega) (by omega) (by decide) (by decide)
        have HPT2 := Lib.hid hput2
        have HC5 := Lib.hid (HC.out.trans hC5)
        clear hput2 hP5 hC5 HPT HC
        go_wp2_with fail
        refine HPT2.out.mono ?_
        rintro e w6 ⟨rfl, hP6, hC6⟩
        have hput3 := r5put w6 w.heap.size g3 512 cap3 _ 14 2 14 2 (m + 1) rfl rfl hP6 (by decide) (by omega) (by decide) (by decide)
        rw [show (((m + 1 : Nat) : Int)) = (m : Int) + 1 by push_cast; rfl] at hput3
        have HPT3 := Lib.hid hput3
        have HC6 := Lib.hid (HC5.out.trans hC6)
        clear hput3 hP6 hC6 HPT2 HC5
        go_wp2_with fail
        refine HPT3.out.mono ?_
        rintro e w7 ⟨rfl, hP7, hC7⟩
        have hput4 := r5put w7 w.heap.size g3 512 cap3 _ 16 2 16 2 lo2 rfl rfl hP7 (by decide) (by omega) (by decide) (by decide)
        have HPT4 := Lib.hid hput4
        have HC7 := Lib.hid (HC6.out.trans hC7)
        clear hput4 hP7 hC7 HPT3 HC6
        go_wp2_with fail
        refine HPT4.out.mono ?_
        rintro e w8 ⟨rfl, hP8, hC8⟩
        obtain ⟨q0, hq0⟩ : ∃ q0, pt (pt (pt (pt (upP q i m) (26 + 4 * i) 2 lo2) (26 + 4 * i + 2) 2 n2) 14 2 (m + 1)) 16 2 lo2 = q0 := ⟨_, rfl⟩
        rw [hq0] at hP8 HB
        have H8 : Hid (Pw w.heap.size w8 g3 512 cap3 q0 ∧ Chg (G1 g3) (G1 g3) w3 w8 ∧ RdB (G1 g3) w8 (.slice a2 n2 c2) c) := ⟨hP8, HC7.out.trans hC8, H3.out.2.2.1.chg (HC7.out.trans hC8)⟩
        have hlb2 : (lo2 : Int) + (n2 : Int) ≤ 512 := by have := HB.out; omega
        clear hP8 hC8 HPT4 HC7 hq0
        go_wp2
        go_loopw [14] (fun j wr => ∃ k : Nat, k ≤ n2 ∧ j = .int .i64 (k : Int) ∧ Pw w.heap.size wr g3 512 cap3 (putAt q0 lo2 (c.take k)) ∧ Chg (G1 g3) (G1 g3) w8 wr) (fun j _ => n2 - (intOf j).toNat)
        case atStart => exact ⟨0, by omega, rfl, by rw [List.take_zero, putAt_zero]; exact H8.out.1, Chg.refl _ _⟩
        case round =>
          obtain ⟨k, hk, rfl, hP, hC⟩ := hrel
          rcases Nat.lt_or_eq_of_le hk with hlt | heq
          · have hrd2 := H8.out.2.2.chg hC
            have hb := HB.out
            obtain ⟨g2, off2, cc2, e2, -, -, -, -, hcs⟩ := hrd2.at_ (by omega)
            injection e2 with e2 _ e4
            subst e2 e4
            have hql : k < c.length := by omega
            have hc1 := hcs k hql
            have hst := putAt_step q0 c lo2 k hql (by rw [← H8.out.1.len]; omega)
            have hPs := hP.set (lo2 + k) (by omega) c[k] (c[k].toNat : Int) rfl
            rw [hst] at hPs
            obtain ⟨x, hx⟩ : ∃ x : Int, ((c[k]'hql).toNat : Int) = x := ⟨_, rfl⟩
            rw [hx] at hc1 hPs
            obtain ⟨y, hcell, hfr⟩ := hP.cell (lo2 + k) (by omega)
            have hN : Hid (Pw w.heap.size (wr.setCell ⟨g3, lo2 + k, none⟩ (.int .u8 x)) g3 512 cap3 (putAt q0 lo2 (c.take (k + 1))) ∧ Chg (G1 g3) (G1 g3) w8 (wr.setCell ⟨g3, lo2 + k, none⟩ (.int .u8 x)) ∧ k < n2) := ⟨hPs, hC.trans (chg_set _ _ _ _), hlt⟩
            have hqi2 : (k : Int) < (n2 : Int) := by omega
            have hq00 : (0 : Int) ≤ (k : Int) := by omega
            clear hP hC hrd2 hb hcs hql hst hPs hx hlt hk
            go_wp2
            go_roundw
            case rel => exact ⟨k + 1, by have := hN.out.2.2; omega, by go_num, hN.out.1, hN.out.2.1⟩
            case measure => have := hN.out.2.2; simp [intOf]; omega
          · subst heq
            have hb := HB.out
            have HN : Hid (PwOut2 w (insP p i c) (.returned (.tuple #[.slice (some ⟨g3, 0, none⟩) 512 cap3, .bool true])) wr) := by
              refine ⟨g3, cap3, rfl, ?_, H3.out.2.1.trans ((H8.out.2.1.trans hC).below H3.out.2.1.size (fun j hj e => by have h4 : j = g3 := e; have h5 := H3.out.2.2.2; omega))⟩
              rw [List.take_of_length_le (by omega), hb.1] at hP
              exact hP
            clear hP hC hk hb
            go_wp2
            go_ret2
            exact HN.out
end Mun
