/- The law PageLists: the walk. -/
import Derived.Test.YtndeebchiodimaaSpliceP
import Derived.Test.YtndeebchiodimaaListPl
import Derived.Test.YtndeebchiodimaaDeedP
import Derived.Test.YtndeebchiodimaaKeptPA
import Derived.Deep.DeepCutAuto
import Derived.Deep.CutBlock
set_option maxRecDepth 100000
set_option linter.unusedVariables false
set_option linter.unusedSimpArgs false
namespace Mun
open Go Go.RowKit
open Go.Proofs

/-- a page and a list of cells that are its -/
structure LS (W wr : World) (pv cv : Value) (p : PBytes) (cs : List PBytes) (us : List Value) : Prop where
  bl : Below W.heap.size W wr
  rd : RdB NoF wr pv p
  good : GoodP p
  eq : cellsP p (cnt p) = cs
  lists : ListsAt NoF wr cv cs us

theorem LS.below {W wr w' : World} {pv cv : Value} {p : PBytes} {cs : List PBytes} {us : List Value} (h : LS W wr pv cv p cs us) (hb : Below wr.heap.size wr w') : LS W w' pv cv p cs us :=
  ⟨h.bl.trans (hb.mono h.bl.size), RdB.below h.rd hb, h.good, h.eq, h.lists.below hb⟩

theorem replace_any {F : Foot} (w : World) (v u : Value) (p c : List UInt8) (i : Nat) (hv : RdB F w v p) (hu : RdB F w u c) (hg : GoodP p) (hi : i < cnt p) (hf : (c.length : Int) - sSize p i ≤ freeP p) :
    Calls Try.prog 20 #[v, .int .i64 i, u] w (PageOut w (repP p i c)) := by
  by_cases hs : c.length ≤ sSize p i
  · exact replace_fits w v u p c i hv hu hg hi hs
  · exact replace_yes w v u p c i hv hu hg hi (by omega) hf

set_option maxHeartbeats 8000000 in
theorem listsp_ok (W : World) (v : Value) (l : List Deed) (hl : DeedsAt NoF W v l) (hb : ∀ d ∈ l, d.b.length ≤ 1048576) :
    Calls Try.prog 7 #[v] W fun e W' => e = .returned (.bool true) ∧ Below W.heap.size W W' := by
  have HAW := Lib.hid (awake5 W)
  obtain ⟨a, c, hv, hlc, hcm⟩ := hl.row.form
  subst hv
  obtain ⟨n, hn⟩ : ∃ n, l.length = n := ⟨_, rfl⟩
  rw [hn] at hl hlc ⊢
  have HDL := Lib.hid (And.intro hl (And.intro hb hn))
  have hnb : n ≤ maxLen := Nat.le_trans hlc hcm
  unfold maxLen at hnb
  clear hl hb hn hlc hcm
  go_enter Try.func7, Try.ntmps7
  go_wp2_with fail
  refine HAW.out.mono ?_
  rintro e w1 ⟨rfl, hb1⟩
  go_wp2_with fail
  refine (new_yes w1 3 (by decide)).mono ?_
  rintro e w2 ⟨g0, rfl, hp0, hg0, hb2⟩
  have hL0 : LS W w2 (PV g0) (.slice none 0 0) (newP 3) [] [] := by
    refine ⟨hb1.trans (hb2.mono hb1.size), ?_, new_good 3, by rw [new_cnt]; rfl, ⟨RdV.nil _ _ _, fun i hi => by simp at hi⟩⟩
    exact hp0.rd (noF _)
  have HL0 := Lib.hid hL0
  clear hb1 hb2 hp0 hg0 hL0
  go_wp2
  go_loopw [3, 5, 6] (fun pv cv iv wr => ∃ (k : Nat) (p : PBytes) (cs : List PBytes) (us : List Value), k ≤ n ∧ iv = .int .i64 (k : Int) ∧ LS W wr pv cv p cs us) (fun _ _ i _ => n - (intOf i).toNat)
  case atStart => exact ⟨0, _, _, _, by omega, rfl, HL0.out⟩
  case round =>
    obtain ⟨k, p, cs, us, hk, rfl, hL⟩ := hrel
    rcases Nat.lt_or_eq_of_le hk with hlt | heq
    · obtain ⟨x, hx⟩ : ∃ x, l[k]'(by rw [HDL.out.2.2]; exact hlt) = x := ⟨_, rfl⟩
      have hdw := HDL.out.1.keep (F' := NoF) (w' := wr) (fun q hq _ => hL.bl.block q hq) (fun _ _ h => h)
      obtain ⟨g, off, c', hva, hlc', hcm', k0, k1, k2⟩ := hdw.at_ k (by rw [HDL.out.2.2]; exact hlt)
      injection hva with e1 e2 e3
      subst e1 e3
      rw [hx] at k0 k1 k2
      have hxm : x ∈ l := by rw [← hx]; exact List.getElem_mem _
      have hxr := hdw.rd x hxm
      have hxb := HDL.out.2.1 x hxm
      obtain ⟨pa, pn, pc, rfl, HPN, hpc, hpm⟩ := hL.rd.formN
      obtain rfl : pn = 512 := by rw [HPN.out]; exact hL.good.len
      obtain ⟨ca, m, cc, rfl, HM, hmc, hcm⟩ := hL.lists.form
      obtain ⟨xa, xn, xc, hxv, HXN, hxc, hxcm⟩ := hxr.formN
      rw [hxv] at k2 hxr
      have hxb2 : xn ≤ 1048576 := by rw [HXN.out]; exact hxb
      have hmb : m ≤ 121 := by
        have h1 := hL.good.fit
        have h2 := hL.good.low
        have h3 := HM.out
        rw [← hL.eq, cellsP_length] at h3
        omega
      have hkn : (k : Int) < (n : Int) := by omega
      have hk0 : (0 : Int) ≤ (k : Int) := by omega
      have HL := Lib.hid (And.intro hL (And.intro hxr hlt))
      clear hL hxr hdw hxm hxb hx hxv hlc' hcm' e2 hlt hk
      go_wp2
      obtain ⟨bx, hbx⟩ : ∃ bx, wr.heap.size = bx := ⟨_, rfl⟩
      have hbxo := heap_alloc_new wr (Obj.cells #[.int .i64 x.op, .int .i64 x.n, .slice xa xn xc] 53)
      have hbel := (Below.refl wr.heap.size wr).alloc (Nat.le_refl _) (Obj.cells #[.int .i64 x.op, .int .i64 x.n, .slice xa xn xc] 53)
      obtain ⟨wb, hwb⟩ : ∃ wb, wr.alloc (Obj.cells #[.int .i64 x.op, .int .i64 x.n, .slice xa xn xc] 53) = wb := ⟨_, rfl⟩
      rw [hwb] at hbxo hbel ⊢
      rw [hbx] at hbxo ⊢
      have HB : Hid (LS W wb (.slice pa 512 pc) (.slice ca m cc) p cs us ∧ RdB NoF wb (.slice xa xn xc) x.b ∧ k < n ∧ wb.heap[bx]? = some (Obj.cells #[.int .i64 x.op, .int .i64 x.n, .slice xa xn xc] 53)) := ⟨HL.out.1.below hbel, RdB.below HL.out.2.1 hbel, HL.out.2.2, hbxo⟩
      have hfr : freeP p = lft cs := by rw [← HL.out.1.eq, lft_cells HL.out.1.good]
      have hfn := free_nonneg HL.out.1.good
      have hf486 := lft_le cs
      obtain ⟨f, hf⟩ : ∃ f, lft cs = f := ⟨_, rfl⟩
      rw [hfr] at hfn
      rw [hf] at hfr hfn hf486
      have HF := Lib.hid (And.intro hf hfr)
      have b0 : wb.cell? ⟨bx, 0, none⟩ = some (.int .i64 x.op) := cell_of_row wb bx 0 _ _ _ hbxo
      have b1 : wb.cell? ⟨bx, 1, none⟩ = some (.int .i64 x.n) := cell_of_row wb bx 1 _ _ _ hbxo
      have b2 : wb.cell? ⟨bx, 2, none⟩ = some (.slice xa xn xc) := cell_of_row wb bx 2 _ _ _ hbxo
      clear k0 k1 k2 hbxo hbel hwb hbx HL hf hfr HDL
      go_loop [8, 9] (fun s i => ∃ q : Nat, q ≤ m ∧ i = .int .i64 (q : Int) ∧ s = .int .i64 (lft (cs.take q))) (fun _ i => m - (intOf i).toNat)
      case atStart => exact ⟨0, by omega, rfl, rfl⟩
      case round =>
        obtain ⟨q, hq, rfl, rfl⟩ := hrel
        rcases Nat.lt_or_eq_of_le hq with hqlt | hqeq
        · obtain ⟨g2, off2, c2, a2, n2, d2, e2, hc2, hr2, -, -⟩ := HB.out.1.lists.cellAt q (by rw [← HM.out]; exact hqlt)
          injection e2 with e3 e4 e5
          subst e3 e5
          clear e4
          obtain ⟨s, hs⟩ : ∃ s, lft (cs.take q) = s := ⟨_, rfl⟩
          have hs' := lft_take_succ cs q (by rw [← HM.out]; exact hqlt)
          have hln : n2 = (cs[q]'(by rw [← HM.out]; exact hqlt)).length := by
            obtain ⟨_, _, e, -⟩ := hr2.form
            injection e
          rw [← hln, hs] at hs'
          have hs1 := lft_take cs (q + 1)
          have hs2 := lft_le (cs.take q)
          rw [HF.out.1, hs'] at hs1
          rw [hs] at hs2
          have hsb : (n2 : Int) + 4 ≤ s := by omega
          have HS := Lib.hid (And.intro hs' hqlt)
          rw [hs]
          have hqm : (q : Int) < (m : Int) := by omega
          have hq0 : (0 : Int) ≤ (q : Int) := by omega
          clear hr2 hs hs' hs1 hln hqlt hq
          go_wp2
          go_round
          case rel => exact ⟨q + 1, by have := HS.out.2; omega, by go_num, by rw [HS.out.1]⟩
          case measure => have := HS.out.2; simp [intOf]; omega
        · have hlm : lft (cs.take q) = f := by rw [List.take_of_length_le (by rw [← HM.out]; omega)]; exact HF.out.1
          rw [hlm]
          subst hqeq
          clear hlm hq
          have hcp := compact_yes wb _ p HB.out.1.rd HB.out.1.good (good_anewOk HB.out.1.good)
          have HCP := Lib.hid hcp
          clear hcp
          go_wp2_with fail
          refine HCP.out.mono ?_
          rintro e w6 ⟨g6, rfl, hp6, hg6, hb6⟩
          clear HCP
          have hbo : w6.heap[bx]? = some (Obj.cells #[.int .i64 x.op, .int .i64 x.n, .slice xa xn xc] 53) := (hb6.block bx (Array.getElem?_eq_some_iff.1 HB.out.2.2.2).1).trans HB.out.2.2.2
          have H6 : Hid (LS W w6 (.slice pa 512 pc) (.slice ca q cc) p cs us ∧ RdB NoF w6 (.slice xa xn xc) x.b ∧ k < n ∧ w6.heap[bx]? = some (Obj.cells #[.int .i64 x.op, .int .i64 x.n, .slice xa xn xc] 53) ∧ RdB NoF w6 (PV g6) (anewP p)) := ⟨HB.out.1.below hb6, RdB.below HB.out.2.1 hb6, HB.out.2.2.1, hbo, hp6.rd (noF _)⟩
          have d0 : w6.cell? ⟨bx, 0, none⟩ = some (.int .i64 x.op) := cell_of_row w6 bx 0 _ _ _ hbo
          have d1 : w6.cell? ⟨bx, 1, none⟩ = some (.int .i64 x.n) := cell_of_row w6 bx 1 _ _ _ hbo
          have d2 : w6.cell? ⟨bx, 2, none⟩ = some (.slice xa xn xc) := cell_of_row w6 bx 2 _ _ _ hbo
          clear HB hp6 hg6 hb6 b0 b1 b2 hbo
          go_upto_if 58 with fail
          go_cut [13] (fun s13 wx => ∃ at' : Nat, s13 = .int .i64 (at' : Int) ∧ (at' < q ∨ at' = 0 ∧ q = 0) ∧ wx = w6)
          case first =>
            by_cases hq0 : q = 0
            · subst hq0
              go_wp2
              go_meet
              exact ⟨0, rfl, .inr (by simp), rfl⟩
            · have hqp : (q : Int) > 0 := by omega
              have ht1 : x.n.tmod (q : Int) < (q : Int) := Int.tmod_lt_of_pos _ (by omega)
              have ht2 : -(q : Int) < x.n.tmod (q : Int) := Int.lt_tmod_of_pos _ (by omega)
              have ht3 : (q : Int) ≤ 121 := by omega
              go_wp2
              all_goals
                go_meet
                exact ⟨(x.n.tmod (q : Int)).natAbs, congrArg (Value.int .i64) (by omega), .inl (by omega), rfl⟩
          case rest =>
            obtain ⟨at', rfl, hat, rfl⟩ := hcut
            obtain ⟨w6, rfl⟩ : ∃ w6 : World, w6 = wc := ⟨_, rfl⟩
            have hcq : cnt p = q := by have := HM.out; rw [← H6.out.1.eq, cellsP_length] at this; exact this.symm
            have HQ := Lib.hid hcq
            clear hcq
            obtain ⟨z, hz, hz4⟩ : ∃ z : Int, bits .and .i64 x.op 3 = z ∧ (z = 0 ∨ z = 1 ∨ z = 2 ∨ z = 3) := by
              obtain ⟨y, hy, hy4⟩ := and_3 x.op
              exact ⟨_, hy, by omega⟩
            go_upto_block 4 with fail
            go_cut [10, 11, 12] (fun s10 s11 s12 wx => ∃ g7 p2 cs2 us2 na nn nc, s10 = .slice (some ⟨g7, 0, none⟩) 512 512 ∧ s11 = .int .i64 0 ∧ s12 = .slice na nn nc ∧ LS W wx (PV g7) (.slice na nn nc) p2 cs2 us2)
            case first =>
              rcases hz4 with rfl | rfl | rfl | rfl
              · as_aux_lemma =>
                  by_cases hfit : (xn : Int) + 4 ≤ f
                  · have hat1 : at' ≤ q := by omega
                    have hcl := insert_yes w6 _ _ p x.b at' H6.out.1.rd H6.out.2.1 H6.out.1.good (by rw [HQ.out]; exact hat1) (by rw [← HXN.out, HF.out.2]; exact hfit)
                    have hpl := cells_ins H6.out.1.good (i := at') (c := x.b) (by rw [HQ.out]; exact hat1) (by rw [← HXN.out, HF.out.2]; exact hfit)
                    rw [H6.out.1.eq] at hpl
                    have HCL := Lib.hid hcl
                    have HPL := Lib.hid hpl
                    clear hcl hpl
                    go_wp2_with fail
                    refine HCL.out.mono ?_
                    rintro e w7 ⟨g7, rfl, hp7, hg7, hb7⟩
                    have hlt7 : bx < w7.heap.size := Nat.lt_of_lt_of_le (Array.getElem?_eq_some_iff.1 H6.out.2.2.2.1).1 hb7.size
                    have dd2 : w7.cell? ⟨bx, 2, none⟩ = some (.slice xa xn xc) := (hb7.cell (p := ⟨bx, 2, none⟩) (Array.getElem?_eq_some_iff.1 H6.out.2.2.2.1).1).trans d2
                    have H7 : Hid (Below W.heap.size W w7 ∧ RdB NoF w7 (PV g7) (insP p at' x.b) ∧ k < n) := ⟨H6.out.1.bl.trans (hb7.mono H6.out.1.bl.size), hp7.rd (noF _), H6.out.2.2.1⟩
                    have HLX : Hid (ListsAt NoF w7 (.slice ca q cc) cs us ∧ RdB NoF w7 (.slice xa xn xc) x.b) := ⟨H6.out.1.lists.below hb7, RdB.below H6.out.2.1 hb7⟩
                    clear hp7 hg7 hb7 HCL
                    obtain ⟨a1, c1, hs1, hs3, ⟨aA, nA, cA, wA2, aA2, nA2, cA2, wA3, aA3, nA3, cA3, wA4, rA1, rA2, rA3, lA, kA4, kA2, kAx, kA3⟩, ⟨aB, nB, cB, wB2, aB2, nB2, cB2, wB3, aB3, nB3, cB3, wB4, rB1, rB2, rB3, lB, kB4, kB2, kB3⟩, ⟨aC, nC, cC, wC2, aC2, nC2, cC2, wC3, aC3, nC3, cC3, wC4, rC1, rC2, rC3, lC, kC4, kC2, kC3⟩⟩ := splice3 (t1 := 28) (t2 := 28) (t3 := 28) w7 ca q cc at' (at') ((at' : Int)) cs us (.slice xa xn xc) x.b HLX.out.1 HLX.out.2 (by omega) (by omega) (by omega) (by push_cast; rfl)
                    have hSS : ∀ V, Below w7.heap.size w7 V → V.cell? ⟨bx, 2, none⟩ = some (.slice xa xn xc) := fun V hV => (hV.cell (p := ⟨bx, 2, none⟩) hlt7).trans dd2
                    have b0 : Below w7.heap.size w7 w7.drew := below_drewN (Below.refl _ _) 1
                    have bE : Below w7.heap.size w7 (w7.alloc EO).drew := b0.alloc b0.size _
                    have bX : Below w7.heap.size w7 (w7.alloc (XO (.slice xa xn xc))).drew := b0.alloc b0.size _
                    have bEX : Below w7.heap.size w7 ((w7.alloc EO).alloc (XO (.slice xa xn xc))).drew := bE.alloc bE.size _
                    have bXE : Below w7.heap.size w7 ((w7.alloc (XO (.slice xa xn xc))).alloc EO).drew := bX.alloc bX.size _
                    have S0 := hSS _ b0
                    have S1 := hSS _ bE
                    have S2 := hSS _ bX
                    have S3 := hSS _ bEX
                    have S4 := hSS _ bXE
                    have S5 := hSS _ kA2
                    have S6 := hSS _ kAx
                    have S7 := hSS _ kA3
                    have S8 := hSS _ kB2
                    have S9 := hSS _ kB3
                    have S10 := hSS _ kC2
                    have S11 := hSS _ kC3
                    have S12 := hSS _ kA4
                    have S13 := hSS _ kB4
                    have S14 := hSS _ kC4
                    have RA1 := Lib.hid rA1
                    have RA2 := Lib.hid rA2
                    have RA3 := Lib.hid rA3
                    have RB1 := Lib.hid rB1
                    have RB2 := Lib.hid rB2
                    have RB3 := Lib.hid rB3
                    have RC1 := Lib.hid rC1
                    have RC2 := Lib.hid rC2
                    have RC3 := Lib.hid rC3
                    have FA := Lib.hid (And.intro lA kA4)
                    have FB := Lib.hid (And.intro lB kB4)
                    have FC := Lib.hid (And.intro lC kC4)
                    clear rA1 rA2 rA3 rB1 rB2 rB3 rC1 rC2 rC3 lA lB lC kA2 kAx kA3 kA4 kB2 kB3 kB4 kC2 kC3 kC4 hSS b0 bE bX bEX bXE
                    go_wp2
                    go_region_held_law (fun V => V.cell? ⟨bx, 2, none⟩ = some (.slice xa xn xc))
                      (first | assumption | exact S0 | exact S1 | exact S2 | exact S3 | exact S4 | exact S5 | exact S6 | exact S7 | exact S8 | exact S9 | exact S10 | exact S11 | exact S12 | exact S13 | exact S14)
                      (first
                      | (refine step_append_eq rfl rfl RA1.out rfl rfl ?_)
                      | (refine step_append_eq rfl rfl RA2.out rfl rfl ?_)
                      | (refine step_append_eq rfl rfl RA3.out rfl rfl ?_)
                      | (refine step_append_eq rfl rfl RB1.out rfl rfl ?_)
                      | (refine step_append_eq rfl rfl RB2.out rfl rfl ?_)
                      | (refine step_append_eq rfl rfl RB3.out rfl rfl ?_)
                      | (refine step_append_eq rfl rfl RC1.out rfl rfl ?_)
                      | (refine step_append_eq rfl rfl RC2.out rfl rfl ?_)
                      | (refine step_append_eq rfl rfl RC3.out rfl rfl ?_))
                    all_goals simp only [Act.put, List.getElem_toArray, List.getElem_cons_succ, List.getElem_cons_zero, List.setIfInBounds_toArray, List.set_cons_succ, List.set_cons_zero]
                    all_goals
                      go_wp2_with fail
                      go_meet
                      first
                      | exact ⟨g7, (insP p at' x.b), _, _, _, _, _, rfl, rfl, rfl, ⟨H7.out.1.trans (FA.out.2.mono H7.out.1.size), RdB.below H7.out.2.1 FA.out.2, HPL.out.1, HPL.out.2, FA.out.1⟩⟩
                      | exact ⟨g7, (insP p at' x.b), _, _, _, _, _, rfl, rfl, rfl, ⟨H7.out.1.trans (FB.out.2.mono H7.out.1.size), RdB.below H7.out.2.1 FB.out.2, HPL.out.1, HPL.out.2, FB.out.1⟩⟩
                      | exact ⟨g7, (insP p at' x.b), _, _, _, _, _, rfl, rfl, rfl, ⟨H7.out.1.trans (FC.out.2.mono H7.out.1.size), RdB.below H7.out.2.1 FC.out.2, HPL.out.1, HPL.out.2, FC.out.1⟩⟩

                  · have hcl := insert_full w6 _ _ p x.b at' H6.out.1.rd H6.out.2.1 H6.out.1.good (by rw [HQ.out]; omega) (by rw [← HXN.out, HF.out.2]; omega) (by rw [← HXN.out]; omega)
                    have HCL := Lib.hid hcl
                    clear hcl
                    go_wp2_with fail
                    refine HCL.out.mono ?_
                    rintro e w7 ⟨rfl, hb7⟩
                    have dd2 : w7.cell? ⟨bx, 2, none⟩ = some (.slice xa xn xc) := (hb7.cell (p := ⟨bx, 2, none⟩) (Array.getElem?_eq_some_iff.1 H6.out.2.2.2.1).1).trans d2
                    have HE : Hid (LS W w7 (.slice pa 512 pc) (.slice ca q cc) p cs us ∧ k < n) := ⟨H6.out.1.below hb7, H6.out.2.2.1⟩
                    clear hb7 HCL
                    go_wp2
                    go_roundw
                    case rel => exact ⟨k + 1, p, cs, us, by have := HE.out.2; omega, by go_num, HE.out.1⟩
                    case measure => have := HE.out.2; simp [intOf]; omega
              · as_aux_lemma =>
                  by_cases hq0 : q = 0
                  · subst hq0
                    have HE : Hid (LS W w6 (.slice pa 512 pc) (.slice ca 0 cc) p cs us ∧ k < n) := ⟨H6.out.1, H6.out.2.2.1⟩
                    go_wp2
                    go_roundw
                    case rel => exact ⟨k + 1, p, cs, us, by have := HE.out.2; omega, by go_num, HE.out.1⟩
                    case measure => have := HE.out.2; simp [intOf]; omega

                  · have hat1 : at' < q := by omega
                    have hqz : ((q : Int) == 0) = false := by simp; omega
                    have hwr : IntKind.i64.wrap ((at' : Int) + 1) = (at' : Int) + 1 := by rw [IntKind.wrap_i64]; omega
                    obtain ⟨a1, c1, hs1, hs3, ⟨aA, nA, cA, wA2, aA3, nA3, cA3, wA4, rA1, rA3, lA, kA4, kA2⟩⟩ := splice2 (t1 := 28) (t3 := 28) w6 ca q cc at' (at' + 1) ((at' : Int) + 1) cs us H6.out.1.lists (by omega) (by omega) (by omega) (by push_cast; rfl)
                    have RA1 := Lib.hid rA1
                    have RA3 := Lib.hid rA3
                    have FA := Lib.hid (And.intro lA kA4)
                    clear rA1 rA3 lA kA2 kA4
                    go_upto_region 31 with fail
                    go_cut [12] (fun s12 wx => ∃ a' n' c' us', s12 = .slice a' n' c' ∧ ListsAt NoF wx (.slice a' n' c') (cs.take at' ++ cs.drop (at' + 1)) us' ∧ Below w6.heap.size w6 wx)
                    case first =>
                      go_region_held_law (fun V => True)
                        (first | exact trivial)
                        (first
                        | (refine step_append_eq rfl rfl RA1.out rfl rfl ?_)
                        | (refine step_append_eq rfl rfl RA3.out rfl rfl ?_))
                      all_goals simp only [Act.put, List.getElem_toArray, List.getElem_cons_succ, List.getElem_cons_zero, List.setIfInBounds_toArray, List.set_cons_succ, List.set_cons_zero]
                      all_goals
                        go_wp2_with fail
                        go_meet
                        exact ⟨_, _, _, _, rfl, FA.out⟩

                    case rest =>
                      obtain ⟨na, nn, nc, us2, rfl, hl', hb'⟩ := hcut
                      obtain ⟨w7, rfl⟩ : ∃ w7 : World, w7 = wc := ⟨_, rfl⟩
                      have hbl7 : bx < w6.heap.size := (Array.getElem?_eq_some_iff.1 H6.out.2.2.2.1).1
                      have e0 : w7.cell? ⟨bx, 0, none⟩ = some (.int .i64 x.op) := (hb'.cell (p := ⟨bx, 0, none⟩) hbl7).trans d0
                      have e2 : w7.cell? ⟨bx, 2, none⟩ = some (.slice xa xn xc) := (hb'.cell (p := ⟨bx, 2, none⟩) hbl7).trans d2
                      have H7 : Hid (LS W w7 (.slice pa 512 pc) (.slice ca q cc) p cs us ∧ RdB NoF w7 (.slice xa xn xc) x.b ∧ k < n ∧ bx < w7.heap.size ∧ ListsAt NoF w7 (.slice na nn nc) (cs.take at' ++ cs.drop (at' + 1)) us2) := ⟨H6.out.1.below hb', RdB.below H6.out.2.1 hb', H6.out.2.2.1, Nat.lt_of_lt_of_le hbl7 hb'.size, hl'⟩
                      clear hl' hb' hbl7 H6 d0 d1 d2 hs1 hs3 RA1 RA3 FA hqz
                      have hcl := remove_yes w7 _ p at' H7.out.1.rd H7.out.1.good (by rw [HQ.out]; exact hat1)
                      have hpl := cells_rem H7.out.1.good (i := at') (by rw [HQ.out]; exact hat1)
                      rw [H7.out.1.eq] at hpl
                      have HCL := Lib.hid hcl
                      have HPL := Lib.hid hpl
                      clear hcl hpl
                      go_wp2_with fail
                      refine HCL.out.mono ?_
                      rintro e wt ⟨g7, rfl, hp7, hg7, hb7⟩
                      have HT0 : Hid (LS W wt (PV g7) (.slice na nn nc) (remP p at') (cs.take at' ++ cs.drop (at' + 1)) us2) := ⟨H7.out.1.bl.trans (hb7.mono H7.out.1.bl.size), hp7.rd (noF _), HPL.out.1, HPL.out.2, H7.out.2.2.2.2.below hb7⟩
                      clear HPL H7 HCL hat1 hat e0 e2 hp7 hg7 hb7 hwr
                      go_wp2
                      go_meet
                      exact ⟨g7, _, _, _, _, _, _, rfl, rfl, rfl, HT0.out⟩
              · as_aux_lemma =>
                  by_cases hq0 : q = 0
                  · subst hq0
                    have HE : Hid (LS W w6 (.slice pa 512 pc) (.slice ca 0 cc) p cs us ∧ k < n) := ⟨H6.out.1, H6.out.2.2.1⟩
                    go_wp2
                    go_roundw
                    case rel => exact ⟨k + 1, p, cs, us, by have := HE.out.2; omega, by go_num, HE.out.1⟩
                    case measure => have := HE.out.2; simp [intOf]; omega

                  · have hat1 : at' < q := by omega
                    have hqz : ((q : Int) == 0) = false := by simp; omega
                    have hwr : IntKind.i64.wrap ((at' : Int) + 1) = (at' : Int) + 1 := by rw [IntKind.wrap_i64]; omega
                    obtain ⟨a1, c1, hs1, hs3, ⟨aA, nA, cA, wA2, aA3, nA3, cA3, wA4, rA1, rA3, lA, kA4, kA2⟩⟩ := splice2 (t1 := 28) (t3 := 28) w6 ca q cc at' (at' + 1) ((at' : Int) + 1) cs us H6.out.1.lists (by omega) (by omega) (by omega) (by push_cast; rfl)
                    have RA1 := Lib.hid rA1
                    have RA3 := Lib.hid rA3
                    have FA := Lib.hid (And.intro lA kA4)
                    clear rA1 rA3 lA kA2 kA4
                    go_upto_region 31 with fail
                    go_cut [12] (fun s12 wx => ∃ a' n' c' us', s12 = .slice a' n' c' ∧ ListsAt NoF wx (.slice a' n' c') (cs.take at' ++ cs.drop (at' + 1)) us' ∧ Below w6.heap.size w6 wx)
                    case first =>
                      go_region_held_law (fun V => True)
                        (first | exact trivial)
                        (first
                        | (refine step_append_eq rfl rfl RA1.out rfl rfl ?_)
                        | (refine step_append_eq rfl rfl RA3.out rfl rfl ?_))
                      all_goals simp only [Act.put, List.getElem_toArray, List.getElem_cons_succ, List.getElem_cons_zero, List.setIfInBounds_toArray, List.set_cons_succ, List.set_cons_zero]
                      all_goals
                        go_wp2_with fail
                        go_meet
                        exact ⟨_, _, _, _, rfl, FA.out⟩

                    case rest =>
                      obtain ⟨na, nn, nc, us2, rfl, hl', hb'⟩ := hcut
                      obtain ⟨w7, rfl⟩ : ∃ w7 : World, w7 = wc := ⟨_, rfl⟩
                      have hbl7 : bx < w6.heap.size := (Array.getElem?_eq_some_iff.1 H6.out.2.2.2.1).1
                      have e0 : w7.cell? ⟨bx, 0, none⟩ = some (.int .i64 x.op) := (hb'.cell (p := ⟨bx, 0, none⟩) hbl7).trans d0
                      have e2 : w7.cell? ⟨bx, 2, none⟩ = some (.slice xa xn xc) := (hb'.cell (p := ⟨bx, 2, none⟩) hbl7).trans d2
                      have H7 : Hid (LS W w7 (.slice pa 512 pc) (.slice ca q cc) p cs us ∧ RdB NoF w7 (.slice xa xn xc) x.b ∧ k < n ∧ bx < w7.heap.size ∧ ListsAt NoF w7 (.slice na nn nc) (cs.take at' ++ cs.drop (at' + 1)) us2) := ⟨H6.out.1.below hb', RdB.below H6.out.2.1 hb', H6.out.2.2.1, Nat.lt_of_lt_of_le hbl7 hb'.size, hl'⟩
                      clear hl' hb' hbl7 H6 d0 d1 d2 hs1 hs3 RA1 RA3 FA hqz
                      obtain ⟨gq, offq, ccq, aq, nq2, dq, eq1, hcq1, hrq, -, -⟩ := H7.out.1.lists.cellAt at' (by rw [← HM.out]; exact hat1)
                      injection eq1 with eq3 eq4 eq5
                      subst eq3 eq5
                      clear eq4
                      have hsz : nq2 = sSize p at' := by
                        have hi2 : at' < cnt p := by rw [HQ.out]; exact hat1
                        have e1 := cellsP_get p (cnt p) at' hi2
                        obtain ⟨_, _, e, -⟩ := hrq.form
                        injection e with _ e3 _
                        rw [e3, ← good_size H7.out.1.good hi2]
                        congr 1
                        have e4 : cs[at']? = some (cellP p at') := by rw [← H7.out.1.eq]; exact e1
                        rw [List.getElem?_eq_getElem (by rw [← HM.out]; exact hat1)] at e4
                        injection e4
                      have hnq : nq2 ≤ 512 := by
                        have := (H7.out.1.good.cell at' (by rw [HQ.out]; exact hat1)).2
                        omega
                      have HSZ := Lib.hid hsz
                      have hltq : gq < w7.heap.size := by
                        obtain ⟨_, cur, _, _, hh, _⟩ := cell_block hcq1
                        exact (Array.getElem?_eq_some_iff.1 hh).1
                      have hwd : IntKind.i64.wrap ((xn : Int) - (nq2 : Int)) = (xn : Int) - (nq2 : Int) := by rw [IntKind.wrap_i64]; omega
                      have HLQ := Lib.hid hltq
                      clear hrq hsz hltq
                      by_cases hfit : (xn : Int) - (nq2 : Int) ≤ f
                      · have hcl := replace_any w7 _ _ p x.b at' H7.out.1.rd H7.out.2.1 H7.out.1.good (by rw [HQ.out]; exact hat1) (by rw [← HXN.out, HF.out.2, ← HSZ.out]; exact hfit)
                        have hpl := cells_rep H7.out.1.good (i := at') (c := x.b) (by rw [HQ.out]; exact hat1) (by rw [← HXN.out, HF.out.2, ← HSZ.out]; exact hfit)
                        rw [H7.out.1.eq] at hpl
                        have HCL := Lib.hid hcl
                        have HPL := Lib.hid hpl
                        clear hcl hpl
                        go_wp2_with fail
                        refine HCL.out.mono ?_
                        rintro e w8 ⟨g7, rfl, hp7, hg7, hb7⟩
                        have i2 : w8.cell? ⟨bx, 2, none⟩ = some (.slice xa xn xc) := (hb7.cell (p := ⟨bx, 2, none⟩) H7.out.2.2.2.1).trans e2
                        have iq : w8.cell? ⟨gq, offq + at', none⟩ = some (.slice aq nq2 dq) := (hb7.cell (p := ⟨gq, offq + at', none⟩) HLQ.out).trans hcq1
                        have H8 : Hid (LS W w8 (.slice pa 512 pc) (.slice (some ⟨gq, offq, none⟩) q cc) p cs us ∧ RdB NoF w8 (.slice xa xn xc) x.b ∧ k < n ∧ bx < w8.heap.size ∧ RdB NoF w8 (PV g7) (repP p at' x.b)) := ⟨H7.out.1.below hb7, RdB.below H7.out.2.1 hb7, H7.out.2.2.1, Nat.lt_of_lt_of_le H7.out.2.2.2.1 hb7.size, hp7.rd (noF _)⟩
                        clear hp7 hg7 hb7 HCL H7 hcq1 e0 e2
                        go_wp2
                        go_quiet (fail)
                        have H9 : Hid (LS W (w8.drewN nq) (.slice pa 512 pc) (.slice (some ⟨gq, offq, none⟩) q cc) p cs us ∧ RdB NoF (w8.drewN nq) (.slice xa xn xc) x.b ∧ k < n ∧ bx < (w8.drewN nq).heap.size ∧ RdB NoF (w8.drewN nq) (PV g7) (repP p at' x.b)) := ⟨H8.out.1.below (below_drewN (Below.refl _ _) _), RdB.below H8.out.2.1 (below_drewN (Below.refl _ _) _), H8.out.2.2.1, H8.out.2.2.2.1, H8.out.2.2.2.2⟩
                        have dd2 : (w8.drewN nq).cell? ⟨bx, 2, none⟩ = some (.slice xa xn xc) := i2
                        obtain ⟨w9, hw9⟩ : ∃ w9, w8.drewN nq = w9 := ⟨_, rfl⟩
                        rw [hw9] at H9 dd2 ⊢
                        have hlt7 : bx < w9.heap.size := H9.out.2.2.2.1
                        clear hw9 i2 iq H8
                        obtain ⟨a1, c1, hs1, hs3, ⟨aA, nA, cA, wA2, aA2, nA2, cA2, wA3, aA3, nA3, cA3, wA4, rA1, rA2, rA3, lA, kA4, kA2, kAx, kA3⟩, ⟨aB, nB, cB, wB2, aB2, nB2, cB2, wB3, aB3, nB3, cB3, wB4, rB1, rB2, rB3, lB, kB4, kB2, kB3⟩, ⟨aC, nC, cC, wC2, aC2, nC2, cC2, wC3, aC3, nC3, cC3, wC4, rC1, rC2, rC3, lC, kC4, kC2, kC3⟩⟩ := splice3 (t1 := 28) (t2 := 28) (t3 := 28) w9 (some ⟨gq, offq, none⟩) q cc at' (at' + 1) ((at' : Int) + 1) cs us (.slice xa xn xc) x.b H9.out.1.lists H9.out.2.1 (by omega) (by omega) (by omega) (by push_cast; rfl)
                        have hSS : ∀ V, Below w9.heap.size w9 V → V.cell? ⟨bx, 2, none⟩ = some (.slice xa xn xc) := fun V hV => (hV.cell (p := ⟨bx, 2, none⟩) hlt7).trans dd2
                        have b0 : Below w9.heap.size w9 w9.drew := below_drewN (Below.refl _ _) 1
                        have bE : Below w9.heap.size w9 (w9.alloc EO).drew := b0.alloc b0.size _
                        have bX : Below w9.heap.size w9 (w9.alloc (XO (.slice xa xn xc))).drew := b0.alloc b0.size _
                        have bEX : Below w9.heap.size w9 ((w9.alloc EO).alloc (XO (.slice xa xn xc))).drew := bE.alloc bE.size _
                        have bXE : Below w9.heap.size w9 ((w9.alloc (XO (.slice xa xn xc))).alloc EO).drew := bX.alloc bX.size _
                        have S0 := hSS _ b0
                        have S1 := hSS _ bE
                        have S2 := hSS _ bX
                        have S3 := hSS _ bEX
                        have S4 := hSS _ bXE
                        have S5 := hSS _ kA2
                        have S6 := hSS _ kAx
                        have S7 := hSS _ kA3
                        have S8 := hSS _ kB2
                        have S9 := hSS _ kB3
                        have S10 := hSS _ kC2
                        have S11 := hSS _ kC3
                        have S12 := hSS _ kA4
                        have S13 := hSS _ kB4
                        have S14 := hSS _ kC4
                        have RA1 := Lib.hid rA1
                        have RA2 := Lib.hid rA2
                        have RA3 := Lib.hid rA3
                        have RB1 := Lib.hid rB1
                        have RB2 := Lib.hid rB2
                        have RB3 := Lib.hid rB3
                        have RC1 := Lib.hid rC1
                        have RC2 := Lib.hid rC2
                        have RC3 := Lib.hid rC3
                        have FA := Lib.hid (And.intro lA kA4)
                        have FB := Lib.hid (And.intro lB kB4)
                        have FC := Lib.hid (And.intro lC kC4)
                        clear rA1 rA2 rA3 rB1 rB2 rB3 rC1 rC2 rC3 lA lB lC kA2 kAx kA3 kA4 kB2 kB3 kB4 kC2 kC3 kC4 hSS b0 bE bX bEX bXE
                        go_wp2
                        go_region_held_law (fun V => V.cell? ⟨bx, 2, none⟩ = some (.slice xa xn xc))
                          (first | assumption | exact S0 | exact S1 | exact S2 | exact S3 | exact S4 | exact S5 | exact S6 | exact S7 | exact S8 | exact S9 | exact S10 | exact S11 | exact S12 | exact S13 | exact S14)
                          (first
                          | (refine step_append_eq rfl rfl RA1.out rfl rfl ?_)
                          | (refine step_append_eq rfl rfl RA2.out rfl rfl ?_)
                          | (refine step_append_eq rfl rfl RA3.out rfl rfl ?_)
                          | (refine step_append_eq rfl rfl RB1.out rfl rfl ?_)
                          | (refine step_append_eq rfl rfl RB2.out rfl rfl ?_)
                          | (refine step_append_eq rfl rfl RB3.out rfl rfl ?_)
                          | (refine step_append_eq rfl rfl RC1.out rfl rfl ?_)
                          | (refine step_append_eq rfl rfl RC2.out rfl rfl ?_)
                          | (refine step_append_eq rfl rfl RC3.out rfl rfl ?_))
                        all_goals simp only [Act.put, List.getElem_toArray, List.getElem_cons_succ, List.getElem_cons_zero, List.setIfInBounds_toArray, List.set_cons_succ, List.set_cons_zero]
                        all_goals
                          go_wp2_with fail
                          go_meet
                          first
                          | exact ⟨g7, (repP p at' x.b), _, _, _, _, _, rfl, rfl, rfl, ⟨H9.out.1.bl.trans (FA.out.2.mono H9.out.1.bl.size), RdB.below H9.out.2.2.2.2 FA.out.2, HPL.out.1, HPL.out.2, FA.out.1⟩⟩
                          | exact ⟨g7, (repP p at' x.b), _, _, _, _, _, rfl, rfl, rfl, ⟨H9.out.1.bl.trans (FB.out.2.mono H9.out.1.bl.size), RdB.below H9.out.2.2.2.2 FB.out.2, HPL.out.1, HPL.out.2, FB.out.1⟩⟩
                          | exact ⟨g7, (repP p at' x.b), _, _, _, _, _, rfl, rfl, rfl, ⟨H9.out.1.bl.trans (FC.out.2.mono H9.out.1.bl.size), RdB.below H9.out.2.2.2.2 FC.out.2, HPL.out.1, HPL.out.2, FC.out.1⟩⟩

                      · have hcl := replace_full w7 _ _ p x.b at' H7.out.1.rd H7.out.2.1 H7.out.1.good (by rw [HQ.out]; exact hat1) (by rw [← HXN.out, ← HSZ.out]; omega) (by rw [← HXN.out, HF.out.2, ← HSZ.out]; omega) (by rw [← HXN.out]; omega)
                        have HCL := Lib.hid hcl
                        clear hcl
                        go_wp2_with fail
                        refine HCL.out.mono ?_
                        rintro e w8 ⟨rfl, hb7⟩
                        have i2 : w8.cell? ⟨bx, 2, none⟩ = some (.slice xa xn xc) := (hb7.cell (p := ⟨bx, 2, none⟩) H7.out.2.2.2.1).trans e2
                        have iq : w8.cell? ⟨gq, offq + at', none⟩ = some (.slice aq nq2 dq) := (hb7.cell (p := ⟨gq, offq + at', none⟩) HLQ.out).trans hcq1
                        have H8 : Hid (LS W w8 (.slice pa 512 pc) (.slice (some ⟨gq, offq, none⟩) q cc) p cs us ∧ k < n) := ⟨H7.out.1.below hb7, H7.out.2.2.1⟩
                        clear hb7 HCL H7 hcq1 e0 e2
                        go_wp2
                        go_quiet (fail)
                        have HE : Hid (LS W (w8.drewN nq) (.slice pa 512 pc) (.slice (some ⟨gq, offq, none⟩) q cc) p cs us ∧ k < n) := ⟨H8.out.1.below (below_drewN (Below.refl _ _) _), H8.out.2⟩
                        go_wp2
                        go_roundw
                        case rel => exact ⟨k + 1, p, cs, us, by have := HE.out.2; omega, by go_num, HE.out.1⟩
                        case measure => have := HE.out.2; simp [intOf]; omega
              · as_aux_lemma =>
                  have HT0 : Hid (LS W w6 (PV g6) (.slice ca q cc) (anewP p) cs us) := ⟨H6.out.1.bl, H6.out.2.2.2.2, (cells_anew H6.out.1.good).1, (cells_anew H6.out.1.good).2.trans H6.out.1.eq, H6.out.1.lists⟩
                  go_wp2
                  go_meet
                  exact ⟨g6, _, _, _, _, _, _, rfl, rfl, rfl, HT0.out⟩
            case rest =>
              obtain ⟨g7, p2, cs2, us2, na, nn, nc, rfl, rfl, rfl, hls⟩ := hcut
              obtain ⟨wt, rfl⟩ : ∃ wt : World, wt = wc := ⟨_, rfl⟩
              have HT : Hid (LS W wt (PV g7) (.slice na nn nc) p2 cs2 us2 ∧ k < n) := ⟨hls, H6.out.2.2.1⟩
              clear hls H6 d0 d1 d2 hat HQ hz hz4
              -- the tail: HT : Hid (LS W wt (PV g7) (.slice na nn nc) p2 cs2 us2 ∧ k < n)
              have hgd := good_any wt _ p2 HT.out.1.rd
              rw [goodB_true HT.out.1.good] at hgd
              have HGD := Lib.hid hgd
              have hn2 : Hid (nn = cs2.length) := by
                obtain ⟨_, _, e, -⟩ := HT.out.1.lists.row.form
                injection e
              have hnb2 : nn ≤ 121 := by
                have h1 := HT.out.1.good.fit
                have h2 := HT.out.1.good.low
                have h3 := hn2.out
                rw [← HT.out.1.eq, cellsP_length] at h3
                omega
              have HM2 := hn2
              have hfr2 : freeP p2 = lft cs2 := by rw [← HT.out.1.eq, lft_cells HT.out.1.good]
              have hfn2 := free_nonneg HT.out.1.good
              have hfle2 := lft_le cs2
              obtain ⟨f2, hf2⟩ : ∃ f2, lft cs2 = f2 := ⟨_, rfl⟩
              rw [hfr2] at hfn2
              rw [hf2] at hfr2 hfn2 hfle2
              have HF2 := Lib.hid (And.intro hf2 hfr2)
              clear hgd hf2 hfr2 hn2
              go_wp2_with fail
              refine HGD.out.mono ?_
              rintro e w8 ⟨rfl, hb8⟩
              have HT8 : Hid (LS W w8 (PV g7) (.slice na nn nc) p2 cs2 us2) := HT.out.1.below hb8
              have hce := cells_yes w8 _ p2 HT8.out.rd HT8.out.good
              have HCE := Lib.hid hce
              clear hce hb8 HGD
              go_wp2_with fail
              refine HCE.out.mono ?_
              rintro e w9 ⟨u9, gs9, rfl, hc9, hb9⟩
              have hl9 := hc9.lists (fun c hc => by
                obtain ⟨i, hi, rfl⟩ := List.getElem_of_mem hc
                have hi2 : i < cnt p2 := by rw [cellsP_length] at hi; exact hi
                have e1 := cellsP_get p2 (cnt p2) i hi2
                rw [List.getElem?_eq_getElem hi] at e1
                injection e1 with e1
                rw [e1, good_size HT8.out.good hi2]
                have := (HT8.out.good.cell i hi2).2
                unfold maxLen
                omega)
              rw [HT8.out.eq] at hl9
              obtain ⟨ua, un, uc, rfl, -, -, -⟩ := hl9.form
              have HT9 : Hid (LS W w9 (PV g7) (.slice na nn nc) p2 cs2 us2) := HT8.out.below hb9
              have hpf := pfree_yes w9 _ p2 HT9.out.rd HT9.out.good
              rw [HF2.out.2] at hpf
              have HPF := Lib.hid hpf
              have HL9 := Lib.hid hl9
              clear hpf hl9 hc9 hb9 HCE
              go_wp2_with fail
              refine HPF.out.mono ?_
              rintro e w10 ⟨rfl, hb10⟩
              have HT10 : Hid (LS W w10 (PV g7) (.slice na nn nc) p2 cs2 us2 ∧ k < n) := ⟨HT9.out.below hb10, HT.out.2⟩
              have hli := lists_any w10 _ _ _ _ _ _ (HL9.out.below hb10) HT10.out.1.lists true (decide_eq_true rfl)
              have HLI := Lib.hid hli
              clear hli hb10 HPF HT HT8 HT9 HL9
              go_wp2

              go_loop [18, 19] (fun s i => ∃ q : Nat, q ≤ nn ∧ i = .int .i64 (q : Int) ∧ s = .int .i64 (lft (cs2.take q))) (fun _ i => nn - (intOf i).toNat)
              case atStart => exact ⟨0, by omega, rfl, rfl⟩
              case round =>
                obtain ⟨q2, hq, rfl, rfl⟩ := hrel
                rcases Nat.lt_or_eq_of_le hq with hqlt | hqeq
                · obtain ⟨gg, off2, c2, a2, n2, d2, e2, hc2, hr2, -, -⟩ := HT10.out.1.lists.cellAt q2 (by rw [← HM2.out]; exact hqlt)
                  injection e2 with e3 e4 e5
                  subst e3 e5
                  clear e4
                  obtain ⟨s, hs⟩ : ∃ s, lft (cs2.take q2) = s := ⟨_, rfl⟩
                  have hs' := lft_take_succ cs2 q2 (by rw [← HM2.out]; exact hqlt)
                  have hln : n2 = (cs2[q2]'(by rw [← HM2.out]; exact hqlt)).length := by
                    obtain ⟨_, _, e, -⟩ := hr2.form
                    injection e
                  rw [← hln, hs] at hs'
                  have hs1 := lft_take cs2 (q2 + 1)
                  have hs2 := lft_le (cs2.take q2)
                  rw [HF2.out.1, hs'] at hs1
                  rw [hs] at hs2
                  have hsb : (n2 : Int) + 4 ≤ s := by omega
                  have HS := Lib.hid (And.intro hs' hqlt)
                  rw [hs]
                  have hqm : (q2 : Int) < (nn : Int) := by omega
                  have hq0 : (0 : Int) ≤ (q2 : Int) := by omega
                  clear hr2 hs hs' hs1 hln hqlt hq
                  go_wp2
                  go_round
                  case rel => exact ⟨q2 + 1, by have := HS.out.2; omega, by go_num, by rw [HS.out.1]⟩
                  case measure => have := HS.out.2; simp [intOf]; omega
                · have hlm : lft (cs2.take q2) = f2 := by rw [List.take_of_length_le (by rw [← HM2.out]; omega)]; exact HF2.out.1
                  rw [hlm]
                  subst hqeq
                  clear hlm hq
                  go_wp2_with fail
                  refine HLI.out.mono ?_
                  rintro e w11 ⟨rfl, hb11⟩
                  have HT11 : Hid (LS W w11 (PV g7) (.slice na q2 nc) p2 cs2 us2 ∧ k < n) := ⟨HT10.out.1.below hb11, HT10.out.2⟩
                  clear hb11 HLI HT10
                  go_wp2
                  go_roundw
                  case rel => exact ⟨k + 1, p2, cs2, us2, by have := HT11.out.2; omega, by go_num, HT11.out.1⟩
                  case measure => have := HT11.out.2; simp [intOf]; omega
    · subst heq
      have HL := Lib.hid hL
      clear hL hk
      go_wp2
      go_ret
      exact ⟨rfl, HL.out.bl⟩
end Mun
