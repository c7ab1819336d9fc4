/- The walk of LockFair (under way). -/
import Derived.Test.YtbdkhegfmnladaaFairX
import Derived.Test.YtbdkhegfmnladaaLockG
set_option maxRecDepth 100000
set_option linter.unusedVariables false
set_option linter.unusedSimpArgs false
namespace Mun
open Go Go.RowKit
open Go.Proofs

theorem and3_u8 (b : Nat) (h : b < 256) : bits .and .u8 (b : Int) 3 = ((b % 4 : Nat) : Int) := by
  have key : ∀ a : Nat, a < 256 → bits .and .u8 (a : Int) 3 = ((a % 4 : Nat) : Int) := by decide +kernel
  exact key b h

theorem isM_mode (b : Nat) : isM (1 + ((b % 4 : Nat) : Int)) = true := by
  rw [isM_iff]; omega

/-- the law's rows, as its first loop stands at i -/
structure AskAt (w1 wr : World) (T : Nat) (i : Nat) (ov_ : Value) (t : TV) (qs : List (Int × Int)) : Prop where
  T : t.T = T
  at_ : FairAt w1 wr t [(1, 4)] qs
  len : qs.length = i
  own : ∀ a ∈ qs, (2 : Int) ≤ a.1 ∧ a.1 < 2 + i
  row : wr.ownsRow w1.heap.size 29 1 ov_ qs.length (ov qs)

set_option maxHeartbeats 4000000 in
theorem fair_any (w : World) (v : Value) (ms : List UInt8) (hv : RdB NoF w v ms) :
    Calls Try.prog 5 #[v] w fun e w' => e = .returned (.bool true) ∧ Below w.heap.size w w' := by
  obtain ⟨va, vn, vc, rfl, HVN, -, -⟩ := hv.formN
  have haw := awake14 w
  have HV := Lib.hid hv
  clear hv
  go_enter Try.func5, Try.ntmps5
  go_wp2_with fail
  refine haw.mono ?_
  rintro e w1 ⟨rfl, hb1⟩
  have HB1 := Lib.hid hb1
  have hnew := tab_new w1
  have HNEW := Lib.hid hnew
  clear hb1 hnew haw
  go_wp2_with fail
  refine HNEW.out.mono ?_
  rintro e w2 ⟨t, rfl, ht, h1, h2, h3⟩
  have hfi := fair_first ht h1 h2 h3
  have HFI := Lib.hid hfi
  clear hfi ht h1 h2 h3 HNEW
  go_wp2_with fail
  refine HFI.out.mono ?_
  rintro e w3 ⟨rfl, t1, hT, hat⟩
  obtain ⟨T, hTT⟩ : ∃ T, t.T = T := ⟨_, rfl⟩
  rw [hTT] at hT ⊢
  have HST : Hid (AskAt w1 w3 T 0 (.slice none 0 0) t1 []) := ⟨hT, hat, rfl, by simp, World.ownsRow_nil _ _ _ _⟩
  clear hT hat HFI hTT
  go_wp2_with fail
  go_loopw [4, 5] (fun ov_ iv wr => ∃ (i : Nat) (wa : Option Addr) (wc : Nat) (t : TV) (qs : List (Int × Int)), ov_ = .slice wa i wc ∧ iv = .int .i64 i ∧ i ≤ 40 ∧ AskAt w1 wr T i (.slice wa i wc) t qs) (fun _ iv _ => 40 - (Go.RowKit.intOf iv).toNat)
  case atStart => exact ⟨0, none, 0, t1, [], rfl, rfl, by omega, HST.out⟩
  case round =>
    obtain ⟨i, wa, wc, t, qs, rfl, rfl, hi40, hat⟩ := hrel
    by_cases hlt : i < vn ∧ i < 40
    · obtain ⟨hl1, hl2⟩ := hlt
      have hb : Below w.heap.size w wr := HB1.out.trans (hat.at_.tab.bl.mono HB1.out.size)
      have hml : i < ms.length := by rw [← HVN.out]; exact hl1
      have hvr : RdB NoF wr (.slice va vn vc) ms := HV.out.below hb
      obtain ⟨g, off, c', hvv, -, -, -, hg, hcell⟩ := RdB.at_ hvr (by omega)
      injection hvv with e1 e2 e3
      subst e1
      have c0 := hcell i hml
      obtain ⟨b, hbb⟩ : ∃ b, ms[i].toNat = b := ⟨_, rfl⟩
      have hb256 : b < 256 := by rw [← hbb]; exact UInt8.toNat_lt _
      rw [hbb] at c0
      have hand := and3_u8 b hb256
      have hism := isM_mode b
      obtain ⟨m, hm⟩ : ∃ m, b % 4 = m := ⟨_, rfl⟩
      rw [hm] at hand hism
      have hm3 : (m : Int) ≤ 3 := by omega
      have hask := hat.at_.ask (2 + (i : Int)) (1 + (m : Int)) (by omega) (by omega) hism (fun hq => by
        obtain ⟨a, ha, he⟩ := List.mem_map.1 hq
        have := (hat.own a ha).2
        omega) (by rw [hat.len]; omega)
      rw [hat.T] at hask
      have HASK := Lib.hid hask
      have HAT := Lib.hid hat
      have HI := Lib.hid hl2
      have hii : (i : Int) < (vn : Int) := by omega
      have hi4 : (i : Int) < 40 := by omega
      have hi0 : (0 : Int) ≤ (i : Int) := by omega
      have hu1 : IntKind.u64.wrap (2 + (i : Int)) = 2 + (i : Int) := by rw [IntKind.wrap_u64]; omega
      clear hb hml hvr hg hcell hbb hb256 hism hm hask hat hl1 hl2 hi40 e2 e3
      go_wp2_with fail
      refine HASK.out.mono ?_
      rintro e w5 ⟨rfl, hk5, t5, hT5, hat5⟩
      have hrow5 := rowU_keepU HAT.out.row hk5
      obtain ⟨R, cp, w6, hr6, hrow6, z1, z2, z3, z4, z5⟩ := push_o (ty := 36) (2 + (i : Int), 1 + (m : Int)) hrow5 hat5.tab.bl.size (by rw [HAT.out.len]; have := HI.out; omega)
      have hat6 : AskAt w1 w6 T (i + 1) (.slice (some ⟨R, 0, none⟩) (i + 1) cp) t5 (qs ++ [(2 + (i : Int), 1 + (m : Int))]) := by
        refine ⟨hT5, hat5.turn (hat5.tab.rowTurn hrow5 z1 z2 z3 z4 z5), by simp [HAT.out.len], fun a ha => ?_, ?_⟩
        · rcases List.mem_append.1 ha with h9 | h9
          · have := HAT.out.own a h9; omega
          · rw [List.mem_singleton] at h9; subst h9; exact ⟨by show (2 : Int) ≤ 2 + i; omega, by show 2 + (i : Int) < _; omega⟩
        · have h9 := hrow6
          rw [HAT.out.len] at h9
          exact h9
      rw [HAT.out.len] at hr6
      have HR6 := Lib.hid hr6
      have HX := Lib.hid hat6
      clear hk5 hT5 hat5 hrow5 hr6 hrow6 z1 z2 z3 z4 z5 hat6 HASK c0
      go_wp2_with (at_builtin; refine wpList_append_eq rfl rfl HR6.out rfl rfl ?_; clear HR6)
      go_roundw
      case rel => exact ⟨i + 1, _, cp, t5, _, rfl, by go_num, by have := HI.out; omega, HX.out⟩
      case measure => have := HI.out; simp [Go.RowKit.intOf]; omega
    · have hcase : (¬ i < vn) ∨ (i < vn ∧ ¬ i < 40) := by omega
      obtain ⟨wN, hwN⟩ : ∃ wN, wr.alloc (.cells #[.int .u64 1] 29) = wN := ⟨_, rfl⟩
      have hbN : Below wr.heap.size wr wN := by rw [← hwN]; exact (Below.refl _ _).alloc (Nat.le_refl _) _
      have hsN : w1.heap.size ≤ wr.heap.size := hat.at_.tab.bl.size
      have hrowN : wN.ownsRow wr.heap.size 29 1 (.slice (some ⟨wr.heap.size, 0, none⟩) 1 1) 1 (ov [((1 : Int), (4 : Int))]) := by
        rw [← hwN]
        exact ⟨rfl, .inr ⟨wr.heap.size, 1, _, rfl, Nat.le_refl _, heap_alloc_new wr _, Nat.le_refl _, by unfold maxLen; omega, by simp, by simp [ov]⟩⟩
      have hr1 : Rows w1.heap.size wr [(.slice wa i wc, qs)] := by
        refine ⟨fun j p hp => ?_, fun j k p q hjk hp hq => ?_⟩
        · cases j with
          | zero => injection hp with hp; subst hp; rw [hat.len]; have h9 := hat.row; rw [hat.len] at h9; exact h9
          | succ j => simp at hp
        · cases j with
          | zero =>
            cases k with
            | zero => exact absurd rfl hjk
            | succ k => simp at hq
          | succ j => simp at hp
      have hrN : Rows w1.heap.size wN [(.slice (some ⟨wr.heap.size, 0, none⟩) 1 1, [((1 : Int), (4 : Int))]), (.slice none 0 0, []), (.slice wa i wc, qs)] := (hr1.nil hsN).push (below_keepU hbN) hsN hrowN
      have hfN : FairSt w1 wN T qs [] ([((1 : Int), (4 : Int))].map (·.1)) := FairSt.below ⟨hat.at_.tab.bl, .inr ⟨t, [(1, 4)], qs, hat.T, hat.at_, rfl, rfl⟩⟩ hbN
      have HN := Lib.hid (And.intro hrN (And.intro hfN (And.intro hat.len hi40)))
      clear hbN hsN hrowN hr1 hrN hfN hat hlt hi40
      rcases hcase with hc | ⟨hc1, hc2⟩
      all_goals (
        go_wp2_with fail
        go_loopw [6, 7] (fun gv nv wx => ∃ (ga na : Option Addr) (gn gc nn nc : Nat) (gl nl : List (Int × Int)), gv = .slice ga gn gc ∧ nv = .slice na nn nc ∧ gl.length = gn ∧ nl.length = nn ∧ nn ≤ 41 ∧ gl.length ≤ qs.length ∧ Rows w1.heap.size wx [(.slice na nn nc, nl), (.slice ga gn gc, gl), (.slice wa i wc, qs)] ∧ FairSt w1 wx T qs gl (nl.map (·.1))) (fun gv nv _ => (i - slen gv) * 2 + (if slen nv = 0 then 0 else 1))
        case atStart => exact ⟨none, some ⟨wr.heap.size, 0, none⟩, 0, 0, 1, 1, [], [(1, 4)], rfl, rfl, rfl, rfl, by decide, Nat.zero_le _, HN.out.1, HN.out.2.1⟩
        case round =>
          obtain ⟨ga, na, gn, gc, nn, nc, gl, nl, rfl, rfl, hgn, hnn, hn41, hgq0, hrows, hst⟩ := hrel
          have hq40 : qs.length ≤ 40 := by rw [HN.out.2.2.1]; exact HN.out.2.2.2
          by_cases hn0 : nn = 0
          · subst hn0
            obtain rfl : nl = [] := List.eq_nil_of_length_eq_zero hnn
            obtain rfl : gl = qs := hst.done
            obtain rfl : gn = i := by rw [← hgn]; exact HN.out.2.2.1
            have hnum := numbers_same (F := NoF) wr ga wa gn gc wc gl HN.out.2.2.1 (by have := HN.out.2.2.2; omega) (by have h9 := RdV.of_own (F := NoF) (hrows.row 1 _ rfl) (fun _ _ => noF _); simp only at h9; rw [HN.out.2.2.1] at h9; exact h9) (by have h9 := RdV.of_own (F := NoF) (hrows.row 2 _ rfl) (fun _ _ => noF _); simp only at h9; rw [HN.out.2.2.1] at h9; exact h9)
            have HNUM := Lib.hid hnum
            have HBL : Hid (Below w.heap.size w wr) := HB1.out.trans (hst.bl.mono HB1.out.size)
            clear hnum hrows hst hgn hnn hq40
            go_wp2_with fail
            refine HNUM.out.mono ?_
            rintro e w9 ⟨rfl, hb9⟩
            have HB9 := Lib.hid hb9
            clear hb9
            go_wp2
            go_ret
            exact ⟨rfl, HBL.out.trans (HB9.out.mono HBL.out.size)⟩
          · have hsz : w1.heap.size ≤ wr.heap.size := hst.bl.size
            have hnp : decide (0 < nn) = true := by simp; omega
            have HR := Lib.hid (And.intro hrows (And.intro hst (And.intro hgn (And.intro hnn (And.intro hq40 hn0)))))
            have hr0 := hrows.nil hsz
            have HR0 := Lib.hid hr0
            clear hrows hst hr0
            go_wp2_with fail
            go_loopw [6, 8, 9] (fun gv mv kv wx => ∃ (ga ma : Option Addr) (gn2 gc mn mc k : Nat) (gl ml : List (Int × Int)), gv = .slice ga gn2 gc ∧ mv = .slice ma mn mc ∧ kv = .int .i64 k ∧ k ≤ nn ∧ gl.length = gn2 ∧ ml.length = mn ∧ gn2 = gn + mn ∧ gl.length ≤ qs.length ∧
              Rows w1.heap.size wx [(.slice ma mn mc, ml), (.slice na nn nc, nl), (.slice ga gn2 gc, gl), (.slice wa i wc, qs)] ∧ FairSt w1 wx T qs gl ((nl.drop k).map (·.1) ++ ml.map (·.1))) (fun _ _ kv _ => nn - (Go.RowKit.intOf kv).toNat)
            case atStart => exact ⟨ga, none, gn, gc, 0, 0, 0, gl, [], rfl, rfl, rfl, Nat.zero_le _, hgn, rfl, rfl, hgq0, HR0.out, by simpa using HR.out.2.1⟩
            case round =>
              clear HR0
              obtain ⟨ga2, ma, gn2, gc2, mn, mc, k, gl2, ml, rfl, rfl, rfl, hkn, hg2, hml, hgm, hgq, hrows, hst⟩ := hrel
              by_cases hk : k < nn
              · have hkl : k < nl.length := by rw [hnn]; exact hk
                obtain ⟨ng, no, rfl, kc⟩ := ov_cell (F := NoF) (n := nn) (by have h9 := RdV.of_own (F := NoF) (hrows.row 1 _ rfl) (fun _ _ => noF _); simp only at h9; rw [hnn] at h9; exact h9) hnn k hkl
                have c1 := kc wr (Below.refl _ _)
                obtain ⟨y, hy⟩ : ∃ y, nl[k].1 = y := ⟨_, rfl⟩
                rw [hy] at c1
                have hdr : (nl.drop k).map (·.1) = y :: (nl.drop (k + 1)).map (·.1) := by rw [List.drop_eq_getElem_cons hkl, List.map_cons, hy]
                rw [hdr, List.cons_append] at hst
                have hfr := hst.free (o := y) (by simp) hq40
                have HFR := Lib.hid hfr
                have HRW := Lib.hid (And.intro hrows (And.intro hg2 (And.intro hml (And.intro hgm (And.intro hst.bl.size hk)))))
                have hki : (k : Int) < (nn : Int) := by omega
                have hk0 : (0 : Int) ≤ (k : Int) := by omega
                have hk9 : (k : Int) < 41 := by omega
                have hkd : decide (k < nn) = true := by simp; omega
                clear hkl kc hy hfr hrows hst hg2 hml hgm hgq hkn hk hnn hgn
                go_wp2_with fail
                refine HFR.out.mono ?_
                rintro e w5 ⟨v, pop, rfl, hku, hrow, hst5, hle⟩
                clear HFR
                obtain ⟨va, vn, vc, rfl, hvn⟩ : ∃ va vn vc, v = .slice va vn vc ∧ pop.length = vn := by
                  obtain ⟨a, c, e, -⟩ := (RdV.of_own (F := NoF) hrow (fun _ _ => noF _)).form
                  exact ⟨a, _, c, e, rfl⟩
                have hr5 := HRW.out.1.push hku HRW.out.2.2.2.2.1 hrow
                have hs5 := hst5.bl.size
                obtain ⟨gv', w6, hrun6, hr6, z1, z2, z3, z4, z5⟩ := hr5.app (i := 3) (j := 0) (by decide) rfl rfl hs5 (by omega)
                have hst6 := hst5.row (hr5.row 3 _ rfl) z1 z2 z3 z4 z5
                obtain ⟨mv', w7, hrun7, hr7, y1, y2, y3, y4, y5⟩ := hr6.app (i := 1) (j := 0) (by decide) rfl rfl (by omega) (by have h9 := HRW.out.2.1; have h8 := HRW.out.2.2.1; have h7 := HRW.out.2.2.2.1; omega)
                have hst7 := hst6.row (hr6.row 1 _ rfl) y1 y2 y3 y4 y5
                have hr8 := hr7.tail
                obtain ⟨ga', gn', gc', rfl, hgn'⟩ : ∃ a n c, gv' = .slice a n c ∧ (gl2 ++ pop).length = n := by
                  obtain ⟨a, c, e, -⟩ := (RdV.of_own (F := NoF) (hr8.row 2 _ rfl) (fun _ _ => noF _)).form
                  exact ⟨a, _, c, e, rfl⟩
                obtain ⟨ma', mn', mc', rfl, hmn'⟩ : ∃ a n c, mv' = .slice a n c ∧ (ml ++ pop).length = n := by
                  obtain ⟨a, c, e, -⟩ := (RdV.of_own (F := NoF) (hr8.row 0 _ rfl) (fun _ _ => noF _)).form
                  exact ⟨a, _, c, e, rfl⟩
                have hfin : FairSt w1 w7 T qs (gl2 ++ pop) ((nl.drop (k + 1)).map (·.1) ++ (ml ++ pop).map (·.1)) := by
                  have h9 := hst7
                  rw [List.erase_cons_head] at h9
                  simpa [List.append_assoc] using h9
                have HF := Lib.hid (And.intro hr8 (And.intro hfin (And.intro hgn' (And.intro hmn' (And.intro hle hvn)))))
                have HR6 := Lib.hid hrun6
                have HR7 := Lib.hid hrun7
                clear hku hrow hst5 hr5 hs5 hr6 z1 z2 z3 z4 z5 hst6 hr7 y1 y2 y3 y4 y5 hst7 hr8 hfin hgn' hmn' hle hvn hrun6 hrun7
                go_wp2_with (first | (at_builtin; refine wpList_append_eq rfl rfl HR6.out rfl rfl ?_; clear HR6) | (at_builtin; refine wpList_append_eq rfl rfl HR7.out rfl rfl ?_; clear HR7))
                go_roundw
                case rel =>
                  refine ⟨ga', ma', gn', gc', mn', mc', k + 1, gl2 ++ pop, ml ++ pop, rfl, rfl, by go_num, HRW.out.2.2.2.2.2, HF.out.2.2.1, HF.out.2.2.2.1, ?_, by rw [List.length_append]; exact HF.out.2.2.2.2.1, HF.out.1, HF.out.2.1⟩
                  have h1 := HF.out.2.2.1
                  have h2 := HF.out.2.2.2.1
                  have h3 := HRW.out.2.1
                  have h4 := HRW.out.2.2.1
                  have h5 := HRW.out.2.2.2.1
                  rw [List.length_append] at h1 h2
                  omega
                case measure => have := HRW.out.2.2.2.2.2; simp [Go.RowKit.intOf]; omega
              · obtain rfl : k = nn := by omega
                have hkd : decide (k < k) = false := by simp
                have hst2 : FairSt w1 wr T qs gl2 (ml.map (·.1)) := by
                  have h9 := hst
                  rw [List.drop_eq_nil_of_le (by omega)] at h9
                  simpa using h9
                have HE := Lib.hid (And.intro hrows.del1 (And.intro hst2 (And.intro hg2 (And.intro hml (And.intro hgm hgq)))))
                clear hrows hst hst2 hg2 hml hgm hgq hk hkn hnn hgn
                go_wp2
                go_roundw
                case rel => exact ⟨ga2, ma, gn2, gc2, mn, mc, gl2, ml, rfl, rfl, HE.out.2.2.1, HE.out.2.2.2.1, (by have h1 := HE.out.2.2.1; have h2 := HE.out.2.2.2.2.1; have h3 := HE.out.2.2.2.2.2; omega), HE.out.2.2.2.2.2, HE.out.1, HE.out.2.1⟩
                case measure =>
                  have h1 := HE.out.2.2.1
                  have h2 := HE.out.2.2.2.2.1
                  have h3 := HE.out.2.2.2.2.2
                  have h4 := HN.out.2.2.1
                  have h5 := HR.out.2.2.2.2.2
                  by_cases hm : mn = 0
                  · simp only [slen, h5, hm, if_true, if_false]; omega
                  · simp only [slen, h5, hm, if_false]; omega)
end Mun
