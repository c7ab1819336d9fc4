/- The walk of WalCuts. -/
import Derived.Test.YtoblajbffnkkiaaCutsP
import Derived.Deep.CutBlock
import Derived.Deep.DeepCutAuto
import Derived.Outline
set_option maxRecDepth 100000
set_option linter.unusedVariables false
set_option linter.unusedSimpArgs false
namespace Mun
open Go Go.RowKit
open Go.Proofs

theorem rd_far2 {w W : World} {F : Foot} {v : Value} {b : Bytes} (h : RdB NoF w v b) (hb : Below w.heap.size w W) (hF : ∀ k, F k → w.heap.size ≤ k) : RdB F W v b :=
  RdV.keep h (fun k hk _ => hb.block k hk) (fun k hk h => by have := hF k h; omega)

set_option maxHeartbeats 4000000 in
theorem cuts_any (w : World) (v cv : Value) (l : List QV) (at_ : Int) (p : QV) (ch : Bytes) (hl : RecsAt NoF w v l) (hlen : l.length ≤ 1048576) (hsz : ∀ q ∈ l ++ [p], szR q.1 ≤ 4194304) (hp : RecAt NoF w p.1 p.2) (hc : RdB NoF w cv ch) :
    Calls Try.prog 7 #[v, .int .i64 at_, rval p.1 p.2, cv] w fun e w' => e = .returned (.bool true) ∧ Below w.heap.size w w' := by
  obtain ⟨va, vc, rfl, -⟩ := hl.row.form
  obtain ⟨da, dn, dc, ca, cn, cc, e1, e2, -⟩ := hp.open
  obtain ⟨xa, xn, xc, rfl, -⟩ := hc.formN
  have haw := awake_any (w.alloc (.cells (rcs p.1 (.slice da dn dc) (.slice ca cn cc)) 26))
  unfold rval
  rw [e1, e2]
  have HAW := Lib.hid haw
  have HL := Lib.hid (And.intro hl (And.intro hlen hsz))
  have HP := Lib.hid hp
  have HPE := Lib.hid (And.intro e1 e2)
  have HC := Lib.hid hc
  clear hl hlen hsz hp hc haw e1 e2
  go_enter Try.func7, Try.ntmps7
  go_wp2_with fail
  refine HAW.out.mono ?_
  rintro e w1 ⟨rfl, hb1⟩
  have hbx1 := box_at hb1
  have hb01 : Below w.heap.size w w1 := ((Below.refl _ _).alloc (Nat.le_refl _) _).trans (hb1.mono (by simp))
  have HB1 := Lib.hid hb01
  have HL1 := Lib.hid (And.intro (HL.out.1.below hb01) HL.out.2)
  have HP1 := Lib.hid (HP.out.below hb01)
  have HC1 : Hid (RdB NoF w1 (.slice xa xn xc) ch) := Lib.hid (HC.out.below hb01)
  have HBX := Lib.hid hbx1
  have hf := fresh_any w1 262144 (by decide)
  have HF := Lib.hid hf
  clear hb1 hbx1 hb01 hf HL HP HC HAW
  go_wp2_with fail
  refine HF.out.mono ?_
  rintro e w2 ⟨D, L, F, bv, sv, rfl, hlog, hb2, hoF, hoE⟩
  have how : OwnG w1 D L (DM.new 1 262144) LM.new NoF w2 := ⟨F, bv, sv, hlog, hb2, fun k hk => by
    rcases hk with h | h
    · exact hoF k h
    · exact hoE k h, fun k hk => absurd hk (noF k)⟩
  have hst : CutsAt w1 D L 0 (l ++ [p]) (.slice none 0 0) (.slice none 0 0) [] (DM.new 1 262144) w2 := by
    have hz : rowZ (.slice none 0 0) (rowZ (.slice none 0 0) NoF) = NoF := by
      funext k
      exact propext ⟨fun h => by rcases h with h | h | h <;> first | exact h | simp [Value.ownBlock] at h, fun h => .inr (.inr h)⟩
    exact ⟨Nat.le_refl _, by simp, by simp [prs], World.ownsRow_nil _ _ _ _, World.ownsRow_nil _ _ _ _, by rw [hz]; exact how, ⟨rfl, rfl⟩, rfl, rfl, rfl, rfl, Nat.zero_le _⟩
  have HST := Lib.hid hst
  clear hst how hlog hb2 hoF hoE HF
  go_wp2_with fail
  go_loopw [11, 12, 13] (fun av kv iv wr => ∃ (i : Nat) (ps : List QV) (dm : DM), iv = .int .i64 i ∧ i ≤ l.length ∧ CutsAt w1 D L i (l ++ [p]) av kv ps dm wr) (fun _ _ iv _ => l.length - (intOf iv).toNat)
  case atStart => exact ⟨0, [], _, rfl, Nat.zero_le _, HST.out⟩
  case round =>
    obtain ⟨i, ps, dm, rfl, hil, hat⟩ := hrel
    by_cases hlt : i < l.length
    · obtain ⟨g, off, qda, qdn, qdc, qea, qen, qec, rfl, hg, e1, e2, hcs⟩ := recs_cells HL1.out.1 i hlt
      obtain ⟨c0, c1, c2, c3, c4, c5⟩ := hcs wr hat.own.below
      have hg5 : g < wr.heap.size := Nat.lt_of_lt_of_le hg hat.own.below.size
      obtain ⟨aa, ac, rfl, -⟩ := (RdV.of_own (F := NoF) hat.arow (fun _ _ => noF _)).form
      obtain ⟨ka, kc, rfl, -⟩ := (RdV.of_own (F := NoF) hat.krow (fun _ _ => noF _)).form
      have hrd : RecAt NoF wr l[i].1 l[i].2 := (HL1.out.1.below hat.own.below).rd _ (List.getElem_mem hlt)
      have hmem : l[i] ∈ l ++ [p] := List.mem_append_left _ (List.getElem_mem hlt)
      obtain ⟨q, hq⟩ : ∃ q, l[i] = q := ⟨_, rfl⟩
      rw [hq] at e1 e2 c0 c1 c2 c3 hrd hmem hcs
      have hap := ownx_app hat.own hrd (HL1.out.2.2 q hmem) (by have := hat.ops; have := HL1.out.2.1; omega) (fun _ => hat.log)
      unfold rval at hap
      rw [e1, e2] at hap
      have HAP := Lib.hid hap
      have HAT := Lib.hid hat
      have HPQ := Lib.hid (And.intro hmem (And.intro e1 e2))
      have HLT := Lib.hid hlt
      have hlti : (i : Int) < (l.length : Int) := by omega
      have hltb : (i : Int) < 1048576 := by have := HL1.out.2.1; omega
      have HCS := Lib.hid hcs
      clear hcs hg hap hat hq hmem e1 e2 hrd hlt
      go_wp2_with fail
      refine HAP.out.mono ?_
      rintro e w5 ⟨n, k, dm', m', rfl, ho5, hk5, hcase⟩
      have HO5 := Lib.hid (And.intro ho5 hk5)
      have hg6 : g < w5.heap.size := Nat.lt_of_lt_of_le hg5 hk5.1
      clear ho5 hk5 HAP c0 c1 c2 c3 c4 c5
      rcases hcase with ⟨hk, rfl, rfl, rfl⟩ | ⟨hok, hap5, hcase⟩
      · have HX := Lib.hid (CutsAt.step HAT.out HO5.out.1 HO5.out.2)
        clear HO5 HAT
        rcases hk with ⟨rfl, -⟩ | ⟨rfl, -, -⟩
        · go_wp2
          go_roundw
          case rel => exact ⟨i + 1, ps, _, by go_num, HLT.out, HX.out⟩
          case measure => have := HLT.out; simp [intOf]; omega
        · go_wp2
          go_roundw
          case rel => exact ⟨i + 1, ps, _, by go_num, HLT.out, HX.out⟩
          case measure => have := HLT.out; simp [intOf]; omega
      · rcases hcase with ⟨hk, rfl, rfl⟩ | ⟨rfl, rfl, rfl⟩
        · obtain ⟨rfl, rfl⟩ := live_app_no HAT.out.live hap5 hk
          have HX := Lib.hid (CutsAt.step HAT.out HO5.out.1 HO5.out.2)
          clear HO5 HAT hk hap5
          go_wp2
          go_roundw
          case rel => exact ⟨i + 1, ps, _, by go_num, HLT.out, HX.out⟩
          case measure => have := HLT.out; simp [intOf]; omega
        · have ha5 := ownsRow_keep HAT.out.arow (fun k e => HO5.out.2.2 k (.inl e))
          have hk5 := ownsRow_keep HAT.out.krow (fun k e => HO5.out.2.2 k (.inr (.inl e)))
          have hps : ps.length < 16777216 := by have := HAT.out.le; have := HL1.out.2.1; have := HLT.out; omega
          obtain ⟨R6, cp6, w6, hr6, hrow6, hc6⟩ := push_u64 (ty := 48) (l := offs 1 (prs ps)) (1 + lenL (prs ps)) (by rw [offs_length, prs_length]; exact ha5) (by rw [offs_length, prs_length]; exact hps)
          rw [offs_length, prs_length] at hr6 hrow6 hc6
          obtain ⟨ho6, hk6⟩ := push_a HO5.out.1 ha5 hk5 hc6
          obtain ⟨R7, cp7, w7, hr7, hrow7, hc7⟩ := push_rec (ty := 46) q.1 q.2 HPQ.out.2.1 HPQ.out.2.2 hk6 hps
          obtain ⟨ho7, ha7⟩ := push_k ho6 hrow6 hk6 hc7
          obtain ⟨c0, c1, c2, c3, c4, c5⟩ := HCS.out w6 ho6.below
          have hg7 : g < w6.heap.size := by have h9 := (hc6 NoF).size; omega
          unfold rcs at hr7
          obtain ⟨qf, hqf⟩ : ∃ qf, LM.fin ⟨1, prs ps, 0, 0⟩ = qf := ⟨_, rfl⟩
          have hqf' : 1 + lenL (prs ps) = qf := hqf
          rw [hqf]
          rw [hqf'] at hr6
          have HR6 := Lib.hid hr6
          have HR7 := Lib.hid hr7
          have HX := Lib.hid (CutsAt.push HAT.out HPQ.out.1 hok hap5 ho7 ha7 hrow7)
          clear ha5 hk5 hps hr6 hrow6 hc6 ho6 hk6 hr7 hrow7 hc7 ho7 ha7 hqf hqf' hok hap5
          go_wp2_with (first | (at_builtin; refine wpList_append_eq rfl rfl HR6.out rfl rfl ?_; clear HR6) | (at_builtin; refine wpList_append_eq rfl rfl HR7.out rfl rfl ?_; clear HR7))
          go_roundw
          case rel => exact ⟨i + 1, _, _, by go_num, HLT.out, HX.out⟩
          case measure => have := HLT.out; simp [intOf]; omega
    · have hi20 : i ≤ 1048576 := by have := HL1.out.2.1; omega
      obtain ⟨aa, ac, rfl, -⟩ := (RdV.of_own (F := NoF) hat.arow (fun _ _ => noF _)).form
      obtain ⟨ka, kc, rfl, -⟩ := (RdV.of_own (F := NoF) hat.krow (fun _ _ => noF _)).form
      have hlti : ¬ (i : Int) < (l.length : Int) := by omega
      have HAT := Lib.hid hat
      have HI := Lib.hid hi20
      clear hat hi20 hil hlt
      by_cases hn0 : ps.length = 0
      · obtain rfl : ps = [] := List.length_eq_zero_iff.1 hn0
        have hen : Calls Try.prog 15 #[.pointer (some ⟨L, 0, none⟩)] wr fun e w' => e = .returned (.int .u64 1) ∧ OwnG w1 D L dm ⟨1, prs [], 0, 0⟩ (rowZ (.slice aa 0 ac) (rowZ (.slice ka 0 kc) NoF)) w' ∧ KeepZ (rowZ (.slice aa 0 ac) (rowZ (.slice ka 0 kc) NoF)) wr w' := ownx_quiet HAT.out.own (fun bv sv hm => l_end hm)
        have HEN := Lib.hid hen
        clear hen
        go_wp2_with fail
        refine HEN.out.mono ?_
        rintro e w3 ⟨rfl, ho3, hk3⟩
        have hcut := CutsAt.toCut0 (HAT.out.same ho3 hk3) HI.out
        have HCUT := Lib.hid hcut
        clear hcut ho3 hk3 HEN
        go_wp2_with fail
        refine HCUT.out.mono ?_
        rintro e w4 ⟨rfl, dm3, ho4⟩
        have hfi : Calls Try.prog 14 #[.pointer (some ⟨L, 0, none⟩)] w4 fun e w' => e = .returned (.int .u64 1) ∧ w4 = w' := owng_first ho4
        have hen4 : Calls Try.prog 15 #[.pointer (some ⟨L, 0, none⟩)] w4 fun e w' => e = .returned (.int .u64 1) ∧ OwnG w1 D L dm3 ⟨1, [], 0, 0⟩ (rowZ (.slice aa 0 ac) (rowZ (.slice ka 0 kc) NoF)) w' ∧ KeepZ (rowZ (.slice aa 0 ac) (rowZ (.slice ka 0 kc) NoF)) w4 w' := ownx_quiet ho4 (fun bv sv hm => l_end hm)
        have HFI := Lib.hid hfi
        have HEN4 := Lib.hid hen4
        clear hfi hen4 ho4 HCUT
        go_wp2_with fail
        refine HFI.out.mono ?_
        rintro e w5 ⟨rfl, rfl⟩
        go_wp2_with fail
        refine HEN4.out.mono ?_
        rintro e w5 ⟨rfl, ho5, -⟩
        have HF5 := Lib.hid (HB1.out.trans (ho5.below.mono HB1.out.size))
        clear ho5
        go_wp2
        go_ret
        exact ⟨rfl, HF5.out⟩
      · obtain ⟨n, hn⟩ : ∃ n, ps.length = n := ⟨_, rfl⟩
        rw [hn] at hn0 HAT ⊢
        have hn20 : n ≤ 1048576 := by rw [← hn]; exact Nat.le_trans HAT.out.le HI.out
        have HN := Lib.hid (And.intro hn hn20)
        have npos : (0 : Int) < (n : Int) := by omega
        have nz1 : ((n : Int) == 0) = false := by simp; omega
        have nz2 : ¬ (n : Int) = 0 := by omega
        have nb : (n : Int) ≤ 1048576 := by omega
        clear hn hn20
        go_upto_if 86 with fail
        have hK1 := Int.tmod_lt_of_pos at_ npos
        have hK2 := Int.lt_tmod_of_pos at_ npos
        generalize at_.tmod (n : Int) = K at hK1 hK2 ⊢
        have HR : Hid (∃ kk : Nat, kk < n ∧ (K = (kk : Int) ∨ (0 < kk ∧ K = -(kk : Int)))) := ⟨K.natAbs, by omega, by omega⟩
        clear hK1 hK2 nz1 nz2
        go_cut [16] (fun kv wx => ∃ k : Nat, kv = .int .i64 k ∧ k < n ∧ wx = wr)
        case first =>
          as_aux_lemma =>
            obtain ⟨kk, hkk, rfl | ⟨hk0, rfl⟩⟩ := HR.out
            · have hnn : ¬ (kk : Int) < 0 := by omega
              go_wp2
              go_meet
              exact ⟨kk, rfl, hkk, rfl⟩
            · have hnn : -(kk : Int) < 0 := by omega
              have hkb : (kk : Int) ≤ 1048576 := by omega
              have hkp : (0 : Int) < (kk : Int) := by omega
              go_wp2
              go_meet
              exact ⟨kk, by simp, hkk, rfl⟩
        case rest =>
          obtain ⟨k, rfl, hk, rfl⟩ := hcut
          have hkp : k < ps.length := by rw [HN.out.1]; exact hk
          obtain ⟨ob, hob⟩ : ∃ ob, 1 + lenL ((prs ps).take k) = ob := ⟨_, rfl⟩
          have har := HAT.out.arow
          rw [HN.out.1] at har
          obtain ⟨ag, ao, rfl, hcell⟩ := row_u64 har (by omega)
          have hxk : (offs 1 (prs ps))[k]? = some ob := by rw [offs_get _ _ _ (by rw [prs_length]; exact hkp), hob]
          have hck : ∀ W' : World, W'.ownsRow 0 22 1 (.slice (some ⟨ag, ao, none⟩) n ac) ps.length (uv (offs 1 (prs ps))) → W'.cell? ⟨ag, ao + k, none⟩ = some (.int .u64 ob) := fun W' h => hcell W' (by rw [HN.out.1] at h; exact h) k ob hxk
          obtain ⟨z, hz⟩ : ∃ z : Nat, n = z + 1 := ⟨n - 1, by omega⟩
          obtain ⟨lz, hlz⟩ : ∃ lz, 1 + lenL ((prs ps).take z) = lz := ⟨_, rfl⟩
          have hzp : z < ps.length := by rw [HN.out.1]; omega
          have hxz : (offs 1 (prs ps))[z]? = some lz := by rw [offs_get _ _ _ (by rw [prs_length]; exact hzp), hlz]
          have hcz : ∀ W' : World, W'.ownsRow 0 22 1 (.slice (some ⟨ag, ao, none⟩) n ac) ps.length (uv (offs 1 (prs ps))) → W'.cell? ⟨ag, ao + z, none⟩ = some (.int .u64 lz) := fun W' h => hcell W' (by rw [HN.out.1] at h; exact h) z lz hxz
          have hz1 : (n : Int) - 1 = (z : Int) := by omega
          have hzw : IntKind.i64.wrap (z : Int) = (z : Int) := by rw [IntKind.wrap_i64]; omega
          have hzn : (z : Int) < (n : Int) := by omega
          have hki : (k : Int) < (n : Int) := by omega
          have HK := Lib.hid (And.intro hkp (And.intro hob (And.intro hlz hzp)))
          have HCK := Lib.hid hck
          have HCZ := Lib.hid hcz
          clear har hcell hxk hck hxz hcz hlz hzp hob hkp hz
          go_upto_region 20 with fail
          go_cut [99] (fun s wx => s = .bool false ∧ CutsAt w1 D L i (l ++ [p]) (.slice (some ⟨ag, ao, none⟩) n ac) (.slice ka n kc) ps dm wx)
          case first =>
            as_aux_lemma =>
              by_cases hk0 : k = 0
              · have hk0i : ¬ (0 : Int) < (k : Int) := by omega
                have hk0n : decide (0 < k) = false := by simp; omega
                clear hk0
                go_wp2
                go_meet
                exact ⟨rfl, HAT.out⟩
              · have hkpos : (0 : Int) < (k : Int) := by omega
                have ck := HCK.out _ HAT.out.arow
                have hno := HAT.out.noCut HK.out.1 (by omega) HK.out.2.1
                have HNO := Lib.hid hno
                clear hno hk0
                go_wp2_with fail
                refine HNO.out.mono ?_
                rintro e w3 ⟨rfl, h3⟩
                have H3 := Lib.hid h3
                clear h3 ck
                go_wp2
                go_meet
                exact ⟨rfl, H3.out⟩
          case rest =>
            obtain ⟨rfl, hat⟩ := hcut
            clear HAT
            have HAT := Lib.hid hat
            have HAT0 := Lib.hid hat.len24
            clear hat
            obtain ⟨w3, hw3⟩ : ∃ w3, wc = w3 := ⟨_, rfl⟩
            rw [hw3] at HAT ⊢
            clear hw3
            have har3 := HAT.out.arow
            have hS0 : w3.drew.cell? ⟨ag, ao + z, none⟩ = some (.int .u64 lz) ∧ w3.drew.cell? ⟨ag, ao + k, none⟩ = some (.int .u64 ob) := ⟨HCZ.out w3.drew (ownsRow_keep har3 (fun _ _ => rfl)), HCK.out w3.drew (ownsRow_keep har3 (fun _ _ => rfl))⟩
            have hatd : CutsAt w1 D L i (l ++ [p]) (.slice (some ⟨ag, ao, none⟩) n ac) (.slice ka n kc) ps dm w3.drew := HAT.out.same (HAT.out.own.drewN 1) ⟨Nat.le_refl _, fun _ _ => rfl⟩
            have hfo := hatd.toForce HI.out (lsn := lz) (by have := HK.out.2.2.1; omega)
            have HFO := Lib.hid hfo
            have HATD := Lib.hid hatd
            have hnne : ((ob : Int) != (ob : Int)) = false := by simp
            have hk00 : (0 : Int) ≤ (k : Int) := by omega
            have hz00 : (0 : Int) ≤ (z : Int) := by omega
            clear har3 hatd hfo
            go_upto_region 22 with fail
            go_cut [126] (fun s wx => s = .bool false ∧ ∃ dm3, CutsTwo w1 D L k ob (lenL (prs ps) - lenL ((prs ps).take k)) (l ++ [p]) (.slice (some ⟨ag, ao, none⟩) n ac) (.slice ka n kc) ps dm3 wx ∧ dm3.ops ≤ 1048578)
            case first =>
              as_aux_lemma =>
                refine wp_region_U (fun W => W.cell? ⟨ag, ao + z, none⟩ = some (.int .u64 lz) ∧ W.cell? ⟨ag, ao + k, none⟩ = some (.int .u64 ob)) [] (by kernel_rfl) ?_
                refine wpAnyU_take (i := 0) [7, 8, 9, 10, 11, 12, 13, 14, 15, 16, 17, 18, 19, 20, 21, 22, 23, 24, 25, 26] rfl (by as_aux_lemma => kernel_rfl) (by as_aux_lemma => kernel_rfl) (by as_aux_lemma => kernel_rfl) (by as_aux_lemma => kernel_rfl) (by as_aux_lemma => kernel_rfl) (by as_aux_lemma => kernel_rfl) (fun _ _ _ h => h) (Or.inl ⟨by rfl, (by intro W hSW; (try dsimp only at hSW); (try go_split_ands); go_simp <;> with_reducible rfl)⟩) hS0 ?_
                try simp only [Act.put, List.getElem_toArray, List.getElem_cons_succ, List.getElem_cons_zero, List.setIfInBounds_toArray, List.set_cons_zero, List.set_cons_succ]
                refine wpAnyU_take (i := 1) [5, 6, 7, 8, 9, 10, 11, 12, 13, 14, 15, 16, 17, 18, 19, 20, 21, 22, 23, 24, 25, 26] rfl (by as_aux_lemma => kernel_rfl) (by as_aux_lemma => kernel_rfl) (by as_aux_lemma => kernel_rfl) (by as_aux_lemma => kernel_rfl) (by as_aux_lemma => kernel_rfl) (by as_aux_lemma => kernel_rfl) (fun _ _ _ h => h) (Or.inl ⟨by rfl, (by intro W hSW; (try dsimp only at hSW); (try go_split_ands); go_simp <;> with_reducible rfl)⟩) hS0 ?_
                try simp only [Act.put, List.getElem_toArray, List.getElem_cons_succ, List.getElem_cons_zero, List.setIfInBounds_toArray, List.set_cons_zero, List.set_cons_succ]
                refine wpAnyU_take (i := 2) [3, 4, 5, 6, 7, 8, 9, 10, 11, 12, 13, 14, 15, 16, 17, 18, 19, 20, 21, 22, 23, 24, 25, 26] rfl (by as_aux_lemma => kernel_rfl) (by as_aux_lemma => kernel_rfl) (by as_aux_lemma => kernel_rfl) (by as_aux_lemma => kernel_rfl) (by as_aux_lemma => kernel_rfl) (by as_aux_lemma => kernel_rfl) (fun _ _ _ h => h) (Or.inl ⟨by rfl, (by intro W hSW; (try dsimp only at hSW); (try go_split_ands); go_simp <;> with_reducible rfl)⟩) hS0 ?_
                try simp only [Act.put, List.getElem_toArray, List.getElem_cons_succ, List.getElem_cons_zero, List.setIfInBounds_toArray, List.set_cons_zero, List.set_cons_succ]
                refine wpAnyU_take (i := 3) [4, 5, 6, 7, 8, 9, 10, 11, 12, 13, 14, 15, 16, 17, 18, 19, 20, 21, 22, 23, 24, 25, 26] rfl (by as_aux_lemma => kernel_rfl) (by as_aux_lemma => kernel_rfl) (by as_aux_lemma => kernel_rfl) (by as_aux_lemma => kernel_rfl) (by as_aux_lemma => kernel_rfl) (by as_aux_lemma => kernel_rfl) (fun _ _ _ h => h) (Or.inl ⟨by rfl, (by intro W hSW; (try dsimp only at hSW); (try go_split_ands); go_simp <;> with_reducible rfl)⟩) hS0 ?_
                try simp only [Act.put, List.getElem_toArray, List.getElem_cons_succ, List.getElem_cons_zero, List.setIfInBounds_toArray, List.set_cons_zero, List.set_cons_succ]
                refine wpAnyU_take (i := 4) [5, 6, 7, 8, 9, 10, 11, 12, 13, 14, 15, 16, 17, 18, 19, 20, 21, 22, 23, 24, 25, 26] rfl (by as_aux_lemma => kernel_rfl) (by as_aux_lemma => kernel_rfl) (by as_aux_lemma => kernel_rfl) (by as_aux_lemma => kernel_rfl) (by as_aux_lemma => kernel_rfl) (by as_aux_lemma => kernel_rfl) (fun _ _ _ h => h) (Or.inl ⟨by rfl, (by intro W hSW; (try dsimp only at hSW); (try go_split_ands); go_simp <;> with_reducible rfl)⟩) hS0 ?_
                try simp only [Act.put, List.getElem_toArray, List.getElem_cons_succ, List.getElem_cons_zero, List.setIfInBounds_toArray, List.set_cons_zero, List.set_cons_succ]
                refine wpAnyU_take (i := 5) [6, 7, 8, 9, 10, 11, 12, 13, 14, 15, 16, 17, 18, 19, 20, 21, 22, 23, 24, 25, 26] rfl (by as_aux_lemma => kernel_rfl) (by as_aux_lemma => kernel_rfl) (by as_aux_lemma => kernel_rfl) (by as_aux_lemma => kernel_rfl) (by as_aux_lemma => kernel_rfl) (by as_aux_lemma => kernel_rfl) (fun _ _ _ h => h) (Or.inl ⟨by rfl, (by intro W hSW; (try dsimp only at hSW); (try go_split_ands); go_simp <;> with_reducible rfl)⟩) hS0 ?_
                try simp only [Act.put, List.getElem_toArray, List.getElem_cons_succ, List.getElem_cons_zero, List.setIfInBounds_toArray, List.set_cons_zero, List.set_cons_succ]
                refine wpAnyU_take (i := 6) [7, 8, 9, 10, 11, 12, 13, 14, 15, 16, 17, 18, 19, 20, 21, 22, 23, 24, 25, 26] rfl (by as_aux_lemma => kernel_rfl) (by as_aux_lemma => kernel_rfl) (by as_aux_lemma => kernel_rfl) (by as_aux_lemma => kernel_rfl) (by as_aux_lemma => kernel_rfl) (by as_aux_lemma => kernel_rfl) (fun _ _ _ h => h) (Or.inl ⟨by rfl, (by intro W hSW; (try dsimp only at hSW); (try go_split_ands); go_simp <;> with_reducible rfl)⟩) hS0 ?_
                try simp only [Act.put, List.getElem_toArray, List.getElem_cons_succ, List.getElem_cons_zero, List.setIfInBounds_toArray, List.set_cons_zero, List.set_cons_succ]
                refine wpAnyU_one (i := 7) (by kernel_rfl) rfl (fun K hK => ?_)
                go_simp
                go_at_call 18
                (with_reducible refine HFO.out.mono ?_)
                rintro e w4 ⟨rfl, hkz4, dm2, hf4, ho4⟩
                have har4 := ownsRow_keep (HATD.out.arow) (fun k e => hkz4.2 k (.inl e))
                have hS4 : w4.cell? ⟨ag, ao + z, none⟩ = some (.int .u64 lz) ∧ w4.cell? ⟨ag, ao + k, none⟩ = some (.int .u64 ob) := ⟨HCZ.out w4 har4, HCK.out w4 har4⟩
                have hct := HATD.out.toCut HI.out HK.out.1 HK.out.2.1 hkz4 hf4 ho4
                have HCT := Lib.hid hct
                clear hkz4 hf4 ho4 har4 hct HFO
                refine hK.out _ _ (fun _ => hS4) (fun _ => ?_)
                clear hK K
                try simp only [Act.put, List.getElem_toArray, List.getElem_cons_succ, List.getElem_cons_zero, List.setIfInBounds_toArray, List.set_cons_zero, List.set_cons_succ]
                refine wpAnyU_take (i := 8) [9, 10, 11, 12, 13, 14, 15, 16, 17, 18, 19, 20, 21, 22, 23, 24, 25, 26] rfl (by as_aux_lemma => kernel_rfl) (by as_aux_lemma => kernel_rfl) (by as_aux_lemma => kernel_rfl) (by as_aux_lemma => kernel_rfl) (by as_aux_lemma => kernel_rfl) (by as_aux_lemma => kernel_rfl) (fun _ _ _ h => h) (Or.inl ⟨by rfl, (by intro W hSW; (try dsimp only at hSW); (try go_split_ands); go_simp <;> with_reducible rfl)⟩) hS4 ?_
                try simp only [Act.put, List.getElem_toArray, List.getElem_cons_succ, List.getElem_cons_zero, List.setIfInBounds_toArray, List.set_cons_zero, List.set_cons_succ]
                refine wpAnyU_take (i := 9) [10, 11, 12, 13, 14, 15, 16, 17, 18, 19, 20, 21, 22, 23, 24, 25, 26] rfl (by as_aux_lemma => kernel_rfl) (by as_aux_lemma => kernel_rfl) (by as_aux_lemma => kernel_rfl) (by as_aux_lemma => kernel_rfl) (by as_aux_lemma => kernel_rfl) (by as_aux_lemma => kernel_rfl) (fun _ _ _ h => h) (Or.inl ⟨by rfl, (by intro W hSW; (try dsimp only at hSW); (try go_split_ands); go_simp <;> with_reducible rfl)⟩) hS4 ?_
                try simp only [Act.put, List.getElem_toArray, List.getElem_cons_succ, List.getElem_cons_zero, List.setIfInBounds_toArray, List.set_cons_zero, List.set_cons_succ]
                refine wpAnyU_take (i := 10) [15, 16, 17, 18, 19, 20, 21, 22, 23, 24, 25, 26] rfl (by as_aux_lemma => kernel_rfl) (by as_aux_lemma => kernel_rfl) (by as_aux_lemma => kernel_rfl) (by as_aux_lemma => kernel_rfl) (by as_aux_lemma => kernel_rfl) (by as_aux_lemma => kernel_rfl) (fun _ _ _ h => h) (by first | exact Or.inl ⟨by rfl, (by intro W hSW; (try dsimp only at hSW); (try go_split_ands); go_simp <;> with_reducible rfl)⟩ | exact Or.inr ⟨by rfl, rfl⟩) hS4 ?_
                try simp only [Act.put, List.getElem_toArray, List.getElem_cons_succ, List.getElem_cons_zero, List.setIfInBounds_toArray, List.set_cons_zero, List.set_cons_succ]
                refine wpAnyU_take (i := 11) [13, 14, 15, 16, 17, 18, 19, 20, 21, 22, 23, 24, 25, 26] rfl (by as_aux_lemma => kernel_rfl) (by as_aux_lemma => kernel_rfl) (by as_aux_lemma => kernel_rfl) (by as_aux_lemma => kernel_rfl) (by as_aux_lemma => kernel_rfl) (by as_aux_lemma => kernel_rfl) (fun _ _ _ h => h) (by first | exact Or.inl ⟨by rfl, (by intro W hSW; (try dsimp only at hSW); (try go_split_ands); go_simp <;> with_reducible rfl)⟩ | exact Or.inr ⟨by rfl, rfl⟩) hS4 ?_
                try simp only [Act.put, List.getElem_toArray, List.getElem_cons_succ, List.getElem_cons_zero, List.setIfInBounds_toArray, List.set_cons_zero, List.set_cons_succ]
                refine wpAnyU_take (i := 12) [13, 14, 15, 16, 17, 18, 19, 20, 21, 22, 23, 24, 25, 26] rfl (by as_aux_lemma => kernel_rfl) (by as_aux_lemma => kernel_rfl) (by as_aux_lemma => kernel_rfl) (by as_aux_lemma => kernel_rfl) (by as_aux_lemma => kernel_rfl) (by as_aux_lemma => kernel_rfl) (fun _ _ _ h => h) (by first | exact Or.inl ⟨by rfl, (by intro W hSW; (try dsimp only at hSW); (try go_split_ands); go_simp <;> with_reducible rfl)⟩ | exact Or.inr ⟨by rfl, rfl⟩) hS4 ?_
                try simp only [Act.put, List.getElem_toArray, List.getElem_cons_succ, List.getElem_cons_zero, List.setIfInBounds_toArray, List.set_cons_zero, List.set_cons_succ]
                refine wpAnyU_take (i := 13) [14, 15, 16, 17, 18, 19, 20, 21, 22, 23, 24, 25, 26] rfl (by as_aux_lemma => kernel_rfl) (by as_aux_lemma => kernel_rfl) (by as_aux_lemma => kernel_rfl) (by as_aux_lemma => kernel_rfl) (by as_aux_lemma => kernel_rfl) (by as_aux_lemma => kernel_rfl) (fun _ _ _ h => h) (by first | exact Or.inl ⟨by rfl, (by intro W hSW; (try dsimp only at hSW); (try go_split_ands); go_simp <;> with_reducible rfl)⟩ | exact Or.inr ⟨by rfl, rfl⟩) hS4 ?_
                try simp only [Act.put, List.getElem_toArray, List.getElem_cons_succ, List.getElem_cons_zero, List.setIfInBounds_toArray, List.set_cons_zero, List.set_cons_succ]
                refine wpAnyU_take (i := 14) [15, 16, 17, 18, 19, 20, 21, 22, 23, 24, 25, 26] rfl (by as_aux_lemma => kernel_rfl) (by as_aux_lemma => kernel_rfl) (by as_aux_lemma => kernel_rfl) (by as_aux_lemma => kernel_rfl) (by as_aux_lemma => kernel_rfl) (by as_aux_lemma => kernel_rfl) (fun _ _ _ h => h) (by first | exact Or.inl ⟨by rfl, (by intro W hSW; (try dsimp only at hSW); (try go_split_ands); go_simp <;> with_reducible rfl)⟩ | exact Or.inr ⟨by rfl, rfl⟩) hS4 ?_
                try simp only [Act.put, List.getElem_toArray, List.getElem_cons_succ, List.getElem_cons_zero, List.setIfInBounds_toArray, List.set_cons_zero, List.set_cons_succ]
                refine wpAnyU_one (i := 15) (by kernel_rfl) rfl (fun K hK => ?_)
                go_simp
                go_at_call 24
                (with_reducible refine HCT.out.mono ?_)
                rintro e w5 ⟨rfl, dm3, h5, hops5⟩
                have hS5 : w5.cell? ⟨ag, ao + z, none⟩ = some (.int .u64 lz) ∧ w5.cell? ⟨ag, ao + k, none⟩ = some (.int .u64 ob) := ⟨HCZ.out w5 h5.arow, HCK.out w5 h5.arow⟩
                have hfi : Calls Try.prog 14 #[.pointer (some ⟨L, 0, none⟩)] w5 fun e w' => e = .returned (.int .u64 ob) ∧ w5 = w' := owng_first h5.own
                have HFI := Lib.hid hfi
                have H5 := Lib.hid (And.intro h5 hops5)
                clear h5 hops5 hfi HCT
                refine hK.out _ _ (fun _ => hS5) (fun _ => ?_)
                clear hK K
                try simp only [Act.put, List.getElem_toArray, List.getElem_cons_succ, List.getElem_cons_zero, List.setIfInBounds_toArray, List.set_cons_zero, List.set_cons_succ]
                refine wpAnyU_take (i := 16) [17, 18, 19, 20, 21, 22, 23, 24, 25, 26] rfl (by as_aux_lemma => kernel_rfl) (by as_aux_lemma => kernel_rfl) (by as_aux_lemma => kernel_rfl) (by as_aux_lemma => kernel_rfl) (by as_aux_lemma => kernel_rfl) (by as_aux_lemma => kernel_rfl) (fun _ _ _ h => h) (by first | exact Or.inl ⟨by rfl, (by intro W hSW; (try dsimp only at hSW); (try go_split_ands); go_simp <;> with_reducible rfl)⟩ | exact Or.inr ⟨by rfl, rfl⟩) hS5 ?_
                try simp only [Act.put, List.getElem_toArray, List.getElem_cons_succ, List.getElem_cons_zero, List.setIfInBounds_toArray, List.set_cons_zero, List.set_cons_succ]
                refine wpAnyU_take (i := 17) [18, 19, 20, 21, 22, 23, 24, 25, 26] rfl (by as_aux_lemma => kernel_rfl) (by as_aux_lemma => kernel_rfl) (by as_aux_lemma => kernel_rfl) (by as_aux_lemma => kernel_rfl) (by as_aux_lemma => kernel_rfl) (by as_aux_lemma => kernel_rfl) (fun _ _ _ h => h) (Or.inl ⟨by rfl, (by intro W hSW; (try dsimp only at hSW); (try go_split_ands); go_simp <;> with_reducible rfl)⟩) hS5 ?_
                try simp only [Act.put, List.getElem_toArray, List.getElem_cons_succ, List.getElem_cons_zero, List.setIfInBounds_toArray, List.set_cons_zero, List.set_cons_succ]
                refine wpAnyU_take (i := 18) [19, 20, 21, 22, 23, 24, 25, 26] rfl (by as_aux_lemma => kernel_rfl) (by as_aux_lemma => kernel_rfl) (by as_aux_lemma => kernel_rfl) (by as_aux_lemma => kernel_rfl) (by as_aux_lemma => kernel_rfl) (by as_aux_lemma => kernel_rfl) (fun _ _ _ h => h) (Or.inl ⟨by rfl, (by intro W hSW; (try dsimp only at hSW); (try go_split_ands); go_simp <;> with_reducible rfl)⟩) hS5 ?_
                try simp only [Act.put, List.getElem_toArray, List.getElem_cons_succ, List.getElem_cons_zero, List.setIfInBounds_toArray, List.set_cons_zero, List.set_cons_succ]
                refine wpAnyU_take (i := 19) [20, 25, 26] rfl (by as_aux_lemma => kernel_rfl) (by as_aux_lemma => kernel_rfl) (by as_aux_lemma => kernel_rfl) (by as_aux_lemma => kernel_rfl) (by as_aux_lemma => kernel_rfl) (by as_aux_lemma => kernel_rfl) (fun _ _ _ h => h) (by first | exact Or.inl ⟨by rfl, (by intro W hSW; (try dsimp only at hSW); (try go_split_ands); go_simp <;> with_reducible rfl)⟩ | exact Or.inr ⟨by rfl, rfl⟩) hS5 ?_
                try simp only [Act.put, List.getElem_toArray, List.getElem_cons_succ, List.getElem_cons_zero, List.setIfInBounds_toArray, List.set_cons_zero, List.set_cons_succ]
                refine wpAnyU_take (i := 21) [23, 24, 25, 26] rfl (by as_aux_lemma => kernel_rfl) (by as_aux_lemma => kernel_rfl) (by as_aux_lemma => kernel_rfl) (by as_aux_lemma => kernel_rfl) (by as_aux_lemma => kernel_rfl) (by as_aux_lemma => kernel_rfl) (fun _ _ _ h => h) (by first | exact Or.inl ⟨by rfl, (by intro W hSW; (try dsimp only at hSW); (try go_split_ands); go_simp <;> with_reducible rfl)⟩ | exact Or.inr ⟨by rfl, rfl⟩) hS5 ?_
                try simp only [Act.put, List.getElem_toArray, List.getElem_cons_succ, List.getElem_cons_zero, List.setIfInBounds_toArray, List.set_cons_zero, List.set_cons_succ]
                refine wpAnyU_take (i := 22) [23, 24, 25, 26] rfl (by as_aux_lemma => kernel_rfl) (by as_aux_lemma => kernel_rfl) (by as_aux_lemma => kernel_rfl) (by as_aux_lemma => kernel_rfl) (by as_aux_lemma => kernel_rfl) (by as_aux_lemma => kernel_rfl) (fun _ _ _ h => h) (by first | exact Or.inl ⟨by rfl, (by intro W hSW; (try dsimp only at hSW); (try go_split_ands); go_simp <;> with_reducible rfl)⟩ | exact Or.inr ⟨by rfl, rfl⟩) hS5 ?_
                try simp only [Act.put, List.getElem_toArray, List.getElem_cons_succ, List.getElem_cons_zero, List.setIfInBounds_toArray, List.set_cons_zero, List.set_cons_succ]
                refine wpAnyU_take (i := 23) [24, 25, 26] rfl (by as_aux_lemma => kernel_rfl) (by as_aux_lemma => kernel_rfl) (by as_aux_lemma => kernel_rfl) (by as_aux_lemma => kernel_rfl) (by as_aux_lemma => kernel_rfl) (by as_aux_lemma => kernel_rfl) (fun _ _ _ h => h) (by first | exact Or.inl ⟨by rfl, (by intro W hSW; (try dsimp only at hSW); (try go_split_ands); go_simp <;> with_reducible rfl)⟩ | exact Or.inr ⟨by rfl, rfl⟩) hS5 ?_
                try simp only [Act.put, List.getElem_toArray, List.getElem_cons_succ, List.getElem_cons_zero, List.setIfInBounds_toArray, List.set_cons_zero, List.set_cons_succ]
                refine wpAnyU_take (i := 24) [25, 26] rfl (by as_aux_lemma => kernel_rfl) (by as_aux_lemma => kernel_rfl) (by as_aux_lemma => kernel_rfl) (by as_aux_lemma => kernel_rfl) (by as_aux_lemma => kernel_rfl) (by as_aux_lemma => kernel_rfl) (fun _ _ _ h => h) (by first | exact Or.inl ⟨by rfl, (by intro W hSW; (try dsimp only at hSW); (try go_split_ands); go_simp <;> with_reducible rfl)⟩ | exact Or.inr ⟨by rfl, rfl⟩) hS5 ?_
                try simp only [Act.put, List.getElem_toArray, List.getElem_cons_succ, List.getElem_cons_zero, List.setIfInBounds_toArray, List.set_cons_zero, List.set_cons_succ]
                refine wpAnyU_one (i := 20) (by kernel_rfl) rfl (fun K hK => ?_)
                go_simp
                go_at_call 14
                (with_reducible refine HFI.out.mono ?_)
                rintro e w6 ⟨rfl, rfl⟩
                refine hK.out _ _ (fun _ => hS5) (fun _ => ?_)
                clear hK K
                try simp only [Act.put, List.getElem_toArray, List.getElem_cons_succ, List.getElem_cons_zero, List.setIfInBounds_toArray, List.set_cons_zero, List.set_cons_succ]
                refine wpAnyU_take (i := 25) [26] rfl (by as_aux_lemma => kernel_rfl) (by as_aux_lemma => kernel_rfl) (by as_aux_lemma => kernel_rfl) (by as_aux_lemma => kernel_rfl) (by as_aux_lemma => kernel_rfl) (by as_aux_lemma => kernel_rfl) (fun _ _ _ h => h) (by first | exact Or.inl ⟨by rfl, (by intro W hSW; (try dsimp only at hSW); (try go_split_ands); go_simp <;> with_reducible rfl)⟩ | exact Or.inr ⟨by rfl, rfl⟩) hS5 ?_
                try simp only [Act.put, List.getElem_toArray, List.getElem_cons_succ, List.getElem_cons_zero, List.setIfInBounds_toArray, List.set_cons_zero, List.set_cons_succ]
                refine wpAnyU_take (i := 26) [] rfl (by as_aux_lemma => kernel_rfl) (by as_aux_lemma => kernel_rfl) (by as_aux_lemma => kernel_rfl) (by as_aux_lemma => kernel_rfl) (by as_aux_lemma => kernel_rfl) (by as_aux_lemma => kernel_rfl) (fun _ _ _ h => h) (Or.inl ⟨by rfl, (by intro W hSW; (try dsimp only at hSW); (try go_split_ands); go_simp <;> with_reducible rfl)⟩) hS5 ?_
                try simp only [Act.put, List.getElem_toArray, List.getElem_cons_succ, List.getElem_cons_zero, List.setIfInBounds_toArray, List.set_cons_zero, List.set_cons_succ]
                refine wpAnyU_done (by kernel_rfl) ?_ _
                clear hS0 hS4 hS5 HFI HATD HAT
                go_wp2
                go_meet
                exact ⟨rfl, dm3, H5.out⟩
            case rest =>
              obtain ⟨rfl, dm3, h5⟩ := hcut
              obtain ⟨w5, hw5⟩ : ∃ w5, wc = w5 := ⟨_, rfl⟩
              rw [hw5] at h5 ⊢
              obtain ⟨fo, hfo⟩ : ∃ fo, lenL (prs ps) - lenL ((prs ps).take k) = fo := ⟨_, rfl⟩
              rw [hfo] at h5
              have H5 := Lib.hid h5
              have HRK : Hid (ob ≤ 16777217) := by have h3 := HAT0.out; have h4 := lenL_take_le (prs ps) k; have h6 : ob = 1 + lenL ((prs ps).take k) := HK.out.2.1.symm; exact (by omega : ob ≤ 16777217)
              have hbx5 : w5.heap[w.heap.size]? = some (.cells (rcs p.1 (.slice da dn dc) (.slice ca cn cc)) 26 (0, 0)) := (H5.out.1.own.below.block _ (lt_of_block HBX.out)).trans HBX.out
              have hap := H5.out.1.toApp (HP1.out.below H5.out.1.own.below) (HL1.out.2.2 p (by simp))
              unfold rval at hap
              rw [HPE.out.1, HPE.out.2] at hap
              obtain ⟨c0, c1, c2, c3, c4, c5⟩ := box6 (w := w) (r := p.1) hbx5
              have HAP := Lib.hid hap
              clear hbx5 hap hfo h5 hw5 hS0 HATD HAT HFO HCK HCZ hzw hz1 hzn
              go_wp2_with fail
              refine HAP.out.mono ?_
              rintro e w6 ⟨n6, kk, rfl, hcase⟩
              have HCASE := Lib.hid hcase
              clear c0 c1 c2 c3 c4 c5 HAP hcase
              go_upto_if 134 with fail
              go_cut [11, 12] (fun av kv wx => ∃ (ps' : List QV) (dm' : DM), CutsTwo w1 D L k ob fo (l ++ [p]) av kv ps' dm' wx ∧ dm'.ops ≤ 1048579)
              case first =>
                rcases HCASE.out with ⟨hkk, h6⟩ | ⟨rfl, hn6, hok, hkz, dm', hap', hops', ho6⟩
                · have HX : Hid (∃ (ps' : List QV) (dm' : DM), CutsTwo w1 D L k ob fo (l ++ [p]) (.slice (some ⟨ag, ao, none⟩) n ac) (.slice ka n kc) ps' dm' w6 ∧ dm'.ops ≤ 1048579) := ⟨ps, dm3, h6, Nat.le_succ_of_le H5.out.2⟩
                  have hkf : (kk == 0) = false := by rcases hkk with rfl | rfl | rfl <;> rfl
                  have hkn : ¬ kk = 0 := by rcases hkk with rfl | rfl | rfl <;> decide
                  clear h6 HCASE hkk
                  go_wp2
                  go_meet
                  exact HX.out
                · have ha6 := ownsRow_keep H5.out.1.arow (fun k e => hkz.2 k (.inl e))
                  have hk6 := ownsRow_keep H5.out.1.krow (fun k e => hkz.2 k (.inr (.inl e)))
                  have hps : ps.length < 16777216 := by have := HN.out; omega
                  obtain ⟨R7, cp7, w7, hr7, hrow7, hc7⟩ := push_u64 (ty := 48) (l := offs 1 (prs ps)) (1 + lenL (prs ps)) (by rw [offs_length, prs_length, HN.out.1]; rw [HN.out.1] at ha6; exact ha6) (by rw [offs_length, prs_length]; exact hps)
                  rw [offs_length, prs_length, HN.out.1] at hr7 hrow7 hc7
                  obtain ⟨ho7, hk7⟩ := push_a ho6 ha6 hk6 hc7
                  obtain ⟨R8, cp8, w8, hr8, hrow8, hc8⟩ := push_rec (ty := 46) (l := ps) p.1 p.2 HPE.out.1 HPE.out.2 (by rw [HN.out.1]; rw [HN.out.1] at hk7; exact hk7) hps
                  rw [HN.out.1] at hr8 hrow8 hc8
                  obtain ⟨ho8, ha8⟩ := push_k ho7 hrow7 hk7 hc8
                  have hbx7 : w7.heap[w.heap.size]? = some (.cells (rcs p.1 (.slice da dn dc) (.slice ca cn cc)) 26 (0, 0)) := (ho7.below.block _ (lt_of_block HBX.out)).trans HBX.out
                  obtain ⟨c0, c1, c2, c3, c4, c5⟩ := box6 (w := w) (r := p.1) hbx7
                  unfold rcs at hr8
                  have hx := CutsTwo.push H5.out.1 (by have := H5.out.2; omega) (show p ∈ l ++ [p] by simp) hok hap' ho8 ha8 hrow8
                  rw [← hn6] at hr7
                  have HR7 := Lib.hid hr7
                  have HR8 := Lib.hid hr8
                  have hle9 : dm'.ops ≤ 1048579 := by have h1 := H5.out.2; omega
                  have HX := Lib.hid (And.intro hx hle9)
                  clear ha6 hk6 hps hr7 hrow7 hc7 ho7 hk7 hr8 hrow8 hc8 ho8 ha8 hbx7 hn6 hx hok hkz hap' hops' ho6 HCASE
                  go_wp2_with (first | (at_builtin; refine wpList_append_eq rfl rfl HR7.out rfl rfl ?_; clear HR7) | (at_builtin; refine wpList_append_eq rfl rfl HR8.out rfl rfl ?_; clear HR8))
                  go_meet
                  exact ⟨_, _, HX.out.1, HX.out.2⟩
              case rest =>
                obtain ⟨ps', dm', h, hops⟩ := hcut
                clear HCASE H5
                obtain ⟨ab, ac', rfl, -⟩ := (RdV.of_own (F := NoF) h.arow (fun _ _ => noF _)).form
                obtain ⟨kb, kc', rfl, -⟩ := (RdV.of_own (F := NoF) h.krow (fun _ _ => noF _)).form
                obtain ⟨w7, hw7⟩ : ∃ w7, wc = w7 := ⟨_, rfl⟩
                rw [hw7] at h ⊢
                obtain ⟨qe, hqe⟩ : ∃ qe, 1 + lenL (prs ps') = qe := ⟨_, rfl⟩
                have hen : Calls Try.prog 15 #[.pointer (some ⟨L, 0, none⟩)] w7 fun e w' => e = .returned (.int .u64 qe) ∧ OwnG w1 D L dm' ⟨ob, (prs ps').drop k, fo, 0⟩ (rowZ (.slice ab ps'.length ac') (rowZ (.slice kb ps'.length kc') NoF)) w' ∧ KeepZ (rowZ (.slice ab ps'.length ac') (rowZ (.slice kb ps'.length kc') NoF)) w7 w' := ownx_quiet h.own (fun bv sv hm => by
                  have h9 := l_end hm
                  rw [h.fin, hqe] at h9
                  exact h9)
                have HEN := Lib.hid hen
                have H7 := Lib.hid (And.intro h (And.intro hops hqe))
                clear hw7 hen h hops hqe
                go_wp2_with fail
                refine HEN.out.mono ?_
                rintro e w8 ⟨rfl, ho8, hk8⟩
                have hfo := (H7.out.1.keep ho8 hk8).toForce (by have := H7.out.2.1; omega)
                rw [H7.out.2.2] at hfo
                have HFO := Lib.hid hfo
                clear ho8 hk8 hfo HEN
                go_wp2_with fail
                refine HFO.out.mono ?_
                rintro e w9 ⟨rfl, dm9, h9, hce⟩
                have hown := h9.own
                obtain ⟨F9, bv9, sv9, hlg9, hbl9, hfo9, hZ9⟩ := hown
                obtain ⟨n', hn'⟩ : ∃ n', ps'.length = n' := ⟨_, rfl⟩
                have har := h9.arow
                have hkr := h9.krow
                have hkn := h9.kl
                rw [hn'] at har hkr hkn
                obtain ⟨bg, bo, rfl, hcell⟩ := row_u64 har (by omega)
                have hlsn : ∀ W, Below w9.heap.size w9 W → ∀ i, i < n' → W.cell? ⟨bg, bo + i, none⟩ = some (.int .u64 (1 + lenL ((prs ps').take i) : Nat)) := fun W hb i hi => hcell W (ownsRow_keep har (fun k e => hb.block k (har.lt k e).2)) i _ (by rw [offs_get _ _ _ (by rw [prs_length, hn']; exact hi)])
                have hkrs : RecsAt NoF w9 (.slice kb n' kc') ps' := ⟨by rw [hn']; exact RdV.of_own hkr (fun _ _ => noF _), fun q hq => by
                  rcases List.mem_append.1 (h9.mem q hq) with h8 | h8
                  · exact (HL1.out.1.rd q h8).below hbl9
                  · rw [List.mem_singleton] at h8; subst h8; exact HP1.out.below hbl9⟩
                have hbase := h9.base
                have hleft := h9.left hce ch
                have hwf := hlg9.mem.wf
                have hmark := h9.mark
                have hops9 := h9.ops
                rw [hn']
                obtain ⟨rs, hrs⟩ : ∃ rs, (prs ps').drop k = rs := ⟨_, rfl⟩
                rw [hrs] at hlg9 hleft hwf
                have hrl : rs.length = n' - k := by rw [← hrs, List.length_drop, prs_length, hn']
                have hcr : ∀ W, Below w9.heap.size w9 W → _ := fun W (hb : Below w9.heap.size w9 W) => d_crash W D F9 dm9 (hlg9.below hb).disk hops9 _ ch (rd_far2 HC1.out (hbl9.trans (hb.mono hbl9.size)) (fun k hk => hfo9 k (.inl hk)))
                have hop := fun (W : World) (D2 : Nat) (E2 F2 : Foot) (h : DiskAt W D2 E2 F2 (dm9.crash ch)) => open_mark W D2 E2 F2 (dm9.crash ch) ob 0 rs [] h rfl (by show 0 < 4398046511104; decide) (by show (-1 : Int) ≠ 0; decide) hleft rfl hmark hwf (fun h => absurd rfl h)
                unfold OpenGen at hop
                obtain ⟨fq, hfq⟩ : ∃ fq, ob + lenL rs = fq := ⟨_, rfl⟩
                have HLSN := Lib.hid hlsn
                have HKR := Lib.hid hkrs
                have HCR := Lib.hid hcr
                have HOP := Lib.hid hop
                have HB9 := Lib.hid hbl9
                have HRS := Lib.hid (And.intro hrs (And.intro hrl (And.intro hbase (And.intro hn' (And.intro hkn hfq)))))
                have hn24 : (n' : Int) ≤ 2396746 := by
                  have h1 := lenL_len (prs ps')
                  have h2 := lenL_drop_take (prs ps') k
                  have h3 := hwf.len
                  have h4 : lenL rs ≤ 16777216 := h3
                  rw [hrs] at h2
                  rw [prs_length, hn'] at h1
                  have h5 := HRK.out
                  omega
                have HM9 := Lib.hid hlg9.mem
                clear h9 hce HFO H7 har hkr hcell hlsn hkrs hbase hleft hwf hmark hops9 hlg9 hbl9 hfo9 hZ9 hcr hop hrs hrl hn' hfq
                go_wp2_with fail
                go_loopw [10, 19] (fun lv rv wr => ∃ (r D' L' : Nat) (bv sv : Value), lv = .pointer (some ⟨L', 0, none⟩) ∧ rv = .int .i64 r ∧ r ≤ 2 ∧ Below w9.heap.size w9 wr ∧ LMem wr D' L' ⟨ob, rs, lenL rs, 0⟩ bv sv) (fun _ rv _ => 2 - (intOf rv).toNat)
                case atStart => exact ⟨0, D, L, bv9, sv9, rfl, rfl, by omega, Below.refl _ _, HM9.out⟩
                case round =>
                  obtain ⟨r, D', L', bv, sv, rfl, rfl, hr2, hb9r, hmem⟩ := hrel
                  obtain ⟨wo, rfl⟩ : ∃ wo : World, wo = wr := ⟨_, rfl⟩
                  by_cases hrlt : r < 2
                  · have hrd_no : ∀ W, Below wo.heap.size wo W → ∀ i, i < k → Calls Try.prog 19 #[.pointer (some ⟨L', 0, none⟩), .int .u64 (1 + lenL ((prs ps').take i) : Nat)] W (ReadNo W 1) := fun W hb i hik => by
                      have h1 : lenL ((prs ps').take i) < lenL ((prs ps').take k) := lenL_take_lt _ hik (by rw [prs_length, HRS.out.2.2.2.1]; have := HRS.out.2.2.2.2.1; omega)
                      have h2 := HRS.out.2.2.1
                      refine l_read_no W D' L' ⟨ob, rs, lenL rs, 0⟩ bv sv _ (hmem.keep (fun k hk => hb.block k (hmem.lt k hk))) (by show _ ≠ ob + lenL rs; omega) (fun j hj => ?_)
                      show ob + _ ≠ _
                      omega
                    have hrd_yes : ∀ W, Below wo.heap.size wo W → ∀ i, k ≤ i → (hi : i < ps'.length) → Calls Try.prog 19 #[.pointer (some ⟨L', 0, none⟩), .int .u64 (1 + lenL ((prs ps').take i) : Nat)] W (ReadYes W ps'[i].1 (1 + lenL ((prs ps').take (i + 1)))) := fun W hb i hki hi => by
                      obtain ⟨j, rfl⟩ : ∃ j, i = k + j := ⟨i - k, by omega⟩
                      have hj : j < rs.length := by rw [HRS.out.2.1]; have := HRS.out.2.2.2.1; omega
                      have h9 := l_read_yes W D' L' ⟨ob, rs, lenL rs, 0⟩ bv sv j (hmem.keep (fun k hk => hb.block k (hmem.lt k hk))) hj
                      have h2 := HRS.out.2.2.1
                      have e1 : (⟨ob, rs, lenL rs, 0⟩ : LM).base + LM.off ⟨ob, rs, lenL rs, 0⟩ j = 1 + lenL ((prs ps').take (k + j)) := by
                        show ob + lenL (rs.take j) = _
                        rw [two_off (prs ps') k j, HRS.out.1]; omega
                      have e2 : (⟨ob, rs, lenL rs, 0⟩ : LM).base + LM.off ⟨ob, rs, lenL rs, 0⟩ (j + 1) = 1 + lenL ((prs ps').take (k + j + 1)) := by
                        show ob + lenL (rs.take (j + 1)) = _
                        rw [Nat.add_assoc k j 1, two_off (prs ps') k (j + 1), HRS.out.1]; omega
                      have e3 : rs[j] = ps'[k + j].1 := by
                        have h1 := prs_get ps' (k + j) hi
                        rw [← h1]
                        have h3 : rs[j]? = (prs ps')[k + j]? := by rw [← HRS.out.1, List.getElem?_drop]
                        rw [List.getElem?_eq_getElem hj, List.getElem?_eq_getElem (by rw [prs_length]; exact hi)] at h3
                        exact Option.some.inj h3
                      rw [e1, e2] at h9
                      show Calls _ _ _ _ _
                      rw [← e3]
                      exact h9
                    have hrlti : (r : Int) < 2 := by omega
                    have HNO := Lib.hid hrd_no
                    have HYES := Lib.hid hrd_yes
                    have HBR := Lib.hid (And.intro hb9r hmem)
                    have HRL := Lib.hid hrlt
                    clear hrd_no hrd_yes hb9r hmem hrlt hr2
                    go_wp2_with fail
                    go_loopw [20] (fun iv wx => ∃ i : Nat, i ≤ n' ∧ iv = .int .i64 i ∧ Below wo.heap.size wo wx) (fun iv _ => n' - (intOf iv).toNat)
                    case atStart => exact ⟨0, Nat.zero_le _, rfl, Below.refl _ _⟩
                    case round =>
                      obtain ⟨i, hin, rfl, hbw⟩ := hrel
                      by_cases hi : i < n'
                      · have hb9w := HBR.out.1.trans (hbw.mono HBR.out.1.size)
                        have ci := HLSN.out wr hb9w i hi
                        obtain ⟨li, hli⟩ : ∃ li, 1 + lenL ((prs ps').take i) = li := ⟨_, rfl⟩
                        have hip : i < ps'.length := by rw [HRS.out.2.2.2.1]; exact hi
                        have hini : (i : Int) < (n' : Int) := by omega
                        have hi00 : (0 : Int) ≤ (i : Int) := by omega
                        have HI' := Lib.hid hi
                        by_cases hik : i < k
                        · as_aux_lemma =>
                            have hno := HNO.out wr hbw i hik
                            rw [hli] at hno ci
                            have HRD := Lib.hid hno
                            have HBW := Lib.hid hbw
                            have hik1 : decide ((i : Int) < (k : Int)) = true := by simp; omega
                            have hik2 : decide (i < k) = true := by simp; omega
                            have hik3 : decide ((k : Int) ≤ (i : Int)) = false := by simp; omega
                            have hik4 : decide (k ≤ i) = false := by simp; omega
                            clear hno hbw hb9w hli hip hin hi hik
                            go_wp2_with fail
                            refine HRD.out.mono ?_
                            rintro e w11 ⟨rfl, hb11⟩
                            unfold noR
                            have HB11 := Lib.hid (HBW.out.trans (hb11.mono HBW.out.size))
                            have HB12 : Hid (Below wo.heap.size wo (w11.alloc (.cells #[.int .i64 0, .int .u64 0, .int .u64 0, .int .u64 0, .slice none 0 0, .slice none 0 0] 26))) := HB11.out.alloc HB11.out.size _
                            clear hb11 ci HRD
                            go_upto_region 37 with fail
                            go_quiet (fail)
                            go_wp2
                            go_roundw
                            case rel => exact ⟨i + 1, HI'.out, by go_num, below_drewN HB12.out _⟩
                            case measure => have := HI'.out; simp [intOf]; omega
                        · have hyes := HYES.out wr hbw i (by omega) hip
                          obtain ⟨kg, ko, xda, xdn, xdc, xca, xcn, xcc, rfl, hkg, e1, e2, hsix⟩ := recs_cells HKR.out i hip
                          obtain ⟨q, hq⟩ : ∃ q, ps'[i] = q := ⟨_, rfl⟩
                          obtain ⟨ln, hln⟩ : ∃ ln, 1 + lenL ((prs ps').take (i + 1)) = ln := ⟨_, rfl⟩
                          have hqrec : ∀ W, Below w9.heap.size w9 W → RecAt NoF W q.1 q.2 := fun W hbW => by
                            have h1 := HKR.out.rd ps'[i] (List.getElem_mem hip)
                            rw [hq] at h1
                            exact h1.below hbW
                          rw [hq] at e1 e2 hsix
                          rw [hli, hln, hq] at hyes
                          rw [hli] at ci
                          have HRD := Lib.hid hyes
                          have HBW := Lib.hid (And.intro hbw hb9w)
                          have HSIX := Lib.hid (And.intro hsix (And.intro hqrec (And.intro e1 e2)))
                          have hkgw : ∀ W, Below w9.heap.size w9 W → kg < W.heap.size := fun W hbW => by have := hbW.size; omega
                          have HKG := Lib.hid hkgw
                          have hik1 : decide ((i : Int) < (k : Int)) = false := by simp; omega
                          have hik2 : decide (i < k) = false := by simp; omega
                          have hik3 : decide ((k : Int) ≤ (i : Int)) = true := by simp; omega
                          have hik4 : decide (k ≤ i) = true := by simp; omega
                          clear hyes hbw hb9w hli hln hip hin hi hik hq hsix hqrec e1 e2 hkg hkgw
                          go_wp2_with fail
                          refine HRD.out.mono ?_
                          rintro e w11 ⟨x, rfl, hrec, hb11⟩
                          obtain ⟨da', dn', dc', ca', cn', cc', e1, e2, -⟩ := hrec.open
                          unfold rval
                          rw [e1, e2]
                          obtain ⟨w12, hw12⟩ : ∃ w12, w11.alloc (.cells #[.int .i64 q.1.kind, .int .u64 q.1.tx, .int .u64 q.1.prev, .int .u64 q.1.next, .slice da' dn' dc', .slice ca' cn' cc'] 26) = w12 := ⟨_, rfl⟩
                          have hb1112 : Below w11.heap.size w11 w12 := by rw [← hw12]; exact (Below.refl _ _).alloc (Nat.le_refl _) _
                          have hb12 : Below wo.heap.size wo w12 := (HBW.out.1.trans (hb11.mono HBW.out.1.size)).trans (hb1112.mono (HBW.out.1.trans (hb11.mono HBW.out.1.size)).size)
                          have hb912 : Below w9.heap.size w9 w12 := HBR.out.1.trans (hb12.mono HBR.out.1.size)
                          have k12 : w12.heap[w11.heap.size]? = some (.cells (rcs q.1 (.slice da' dn' dc') (.slice ca' cn' cc')) 26 (0, 0)) := by rw [← hw12]; exact heap_alloc_new w11 _
                          have hsm : ∀ W, Below w12.heap.size w12 W → _ := fun W (hbW : Below w12.heap.size w12 W) => same_any W q.1 x q.2 (hrec.below (hb1112.trans (hbW.mono hb1112.size))) (HSIX.out.2.1 W (hb912.trans (hbW.mono hb912.size)))
                          unfold rval at hsm
                          rw [e1, e2, HSIX.out.2.2.1, HSIX.out.2.2.2] at hsm
                          have hSg : ∀ W, Below w12.heap.size w12 W → (W.cell? ⟨w11.heap.size, 0, none⟩ = some (.int .i64 q.1.kind) ∧ W.cell? ⟨w11.heap.size, 1, none⟩ = some (.int .u64 q.1.tx) ∧ W.cell? ⟨w11.heap.size, 2, none⟩ = some (.int .u64 q.1.prev) ∧ W.cell? ⟨w11.heap.size, 3, none⟩ = some (.int .u64 q.1.next) ∧ W.cell? ⟨w11.heap.size, 4, none⟩ = some (.slice da' dn' dc') ∧ W.cell? ⟨w11.heap.size, 5, none⟩ = some (.slice ca' cn' cc') ∧ W.cell? ⟨kg, ko + i * 6, none⟩ = some (.int .i64 q.1.kind) ∧ W.cell? ⟨kg, ko + i * 6 + 1, none⟩ = some (.int .u64 q.1.tx) ∧ W.cell? ⟨kg, ko + i * 6 + 2, none⟩ = some (.int .u64 q.1.prev) ∧ W.cell? ⟨kg, ko + i * 6 + 3, none⟩ = some (.int .u64 q.1.next) ∧ W.cell? ⟨kg, ko + i * 6 + 4, none⟩ = some (.slice xda xdn xdc) ∧ W.cell? ⟨kg, ko + i * 6 + 5, none⟩ = some (.slice xca xcn xcc)) := fun W hW => by
                            obtain ⟨b0, b1, b2, b3, b4, b5⟩ := box6 (w := w11) (r := q.1) ((hW.block _ (lt_of_block k12)).trans k12)
                            obtain ⟨s0, s1, s2, s3, s4, s5⟩ := HSIX.out.1 W (hb912.trans (hW.mono hb912.size))
                            exact ⟨b0, b1, b2, b3, b4, b5, s0, s1, s2, s3, s4, s5⟩
                          have hS0 := hSg w12.drew (below_drewN (Below.refl _ _) 1)
                          have HSG := Lib.hid hSg
                          have HSM := Lib.hid hsm
                          have HB12 := Lib.hid hb12
                          clear hrec hb11 e1 e2 hb1112 hb12 hb912 k12 hsm hSg ci HRD
                          go_upto_region 37 with fail
                          clear hw12
                          go_cut [192] (fun s wx => s = .bool false ∧ Below wo.heap.size wo wx)
                          case first =>
                            as_aux_lemma =>
                              refine wp_region_U (fun W => W.cell? ⟨w11.heap.size, 0, none⟩ = some (.int .i64 q.1.kind) ∧ W.cell? ⟨w11.heap.size, 1, none⟩ = some (.int .u64 q.1.tx) ∧ W.cell? ⟨w11.heap.size, 2, none⟩ = some (.int .u64 q.1.prev) ∧ W.cell? ⟨w11.heap.size, 3, none⟩ = some (.int .u64 q.1.next) ∧ W.cell? ⟨w11.heap.size, 4, none⟩ = some (.slice da' dn' dc') ∧ W.cell? ⟨w11.heap.size, 5, none⟩ = some (.slice ca' cn' cc') ∧ W.cell? ⟨kg, ko + i * 6, none⟩ = some (.int .i64 q.1.kind) ∧ W.cell? ⟨kg, ko + i * 6 + 1, none⟩ = some (.int .u64 q.1.tx) ∧ W.cell? ⟨kg, ko + i * 6 + 2, none⟩ = some (.int .u64 q.1.prev) ∧ W.cell? ⟨kg, ko + i * 6 + 3, none⟩ = some (.int .u64 q.1.next) ∧ W.cell? ⟨kg, ko + i * 6 + 4, none⟩ = some (.slice xda xdn xdc) ∧ W.cell? ⟨kg, ko + i * 6 + 5, none⟩ = some (.slice xca xcn xcc)) [] (by kernel_rfl) ?_
                              refine wpAnyU_take (i := 0) [2, 3, 4, 5, 6, 7, 8, 9, 10, 11, 12, 13, 14, 15, 16, 17, 18, 19, 20, 21, 22, 23, 24] rfl (by as_aux_lemma => kernel_rfl) (by as_aux_lemma => kernel_rfl) (by as_aux_lemma => kernel_rfl) (by as_aux_lemma => kernel_rfl) (by as_aux_lemma => kernel_rfl) (by as_aux_lemma => kernel_rfl) (fun _ _ _ h => h) (Or.inl ⟨by rfl, (by intro W hSW; (try dsimp only at hSW); (try go_split_ands); go_simp <;> with_reducible rfl)⟩) hS0 ?_
                              try simp only [Act.put, List.getElem_toArray, List.getElem_cons_succ, List.getElem_cons_zero, List.setIfInBounds_toArray, List.set_cons_zero, List.set_cons_succ]
                              refine wpAnyU_take (i := 1) [2, 3, 4, 5, 6, 7, 8, 9, 10, 11, 12, 13, 14, 15, 16, 17, 18, 19, 20, 21, 22, 23, 24] rfl (by as_aux_lemma => kernel_rfl) (by as_aux_lemma => kernel_rfl) (by as_aux_lemma => kernel_rfl) (by as_aux_lemma => kernel_rfl) (by as_aux_lemma => kernel_rfl) (by as_aux_lemma => kernel_rfl) (fun _ _ _ h => h) (Or.inl ⟨by rfl, (by intro W hSW; (try dsimp only at hSW); (try go_split_ands); go_simp <;> with_reducible rfl)⟩) hS0 ?_
                              try simp only [Act.put, List.getElem_toArray, List.getElem_cons_succ, List.getElem_cons_zero, List.setIfInBounds_toArray, List.set_cons_zero, List.set_cons_succ]
                              refine wpAnyU_take (i := 2) [3, 4, 5, 6, 7, 8, 9, 10, 11, 12, 13, 14, 15, 16, 17, 18, 19, 20, 21, 22, 23, 24] rfl (by as_aux_lemma => kernel_rfl) (by as_aux_lemma => kernel_rfl) (by as_aux_lemma => kernel_rfl) (by as_aux_lemma => kernel_rfl) (by as_aux_lemma => kernel_rfl) (by as_aux_lemma => kernel_rfl) (fun _ _ _ h => h) (Or.inl ⟨by rfl, (by intro W hSW; (try dsimp only at hSW); (try go_split_ands); go_simp <;> with_reducible rfl)⟩) hS0 ?_
                              try simp only [Act.put, List.getElem_toArray, List.getElem_cons_succ, List.getElem_cons_zero, List.setIfInBounds_toArray, List.set_cons_zero, List.set_cons_succ]
                              refine wpAnyU_take (i := 3) [4, 5, 6, 7, 8, 9, 10, 11, 12, 13, 14, 15, 16, 17, 18, 19, 20, 21, 22, 23, 24] rfl (by as_aux_lemma => kernel_rfl) (by as_aux_lemma => kernel_rfl) (by as_aux_lemma => kernel_rfl) (by as_aux_lemma => kernel_rfl) (by as_aux_lemma => kernel_rfl) (by as_aux_lemma => kernel_rfl) (fun _ _ _ h => h) (Or.inl ⟨by rfl, (by intro W hSW; (try dsimp only at hSW); (try go_split_ands); go_simp <;> with_reducible rfl)⟩) hS0 ?_
                              try simp only [Act.put, List.getElem_toArray, List.getElem_cons_succ, List.getElem_cons_zero, List.setIfInBounds_toArray, List.set_cons_zero, List.set_cons_succ]
                              refine wpAnyU_take (i := 4) [5, 6, 7, 8, 9, 10, 11, 12, 13, 14, 15, 16, 17, 18, 19, 20, 21, 22, 23, 24] rfl (by as_aux_lemma => kernel_rfl) (by as_aux_lemma => kernel_rfl) (by as_aux_lemma => kernel_rfl) (by as_aux_lemma => kernel_rfl) (by as_aux_lemma => kernel_rfl) (by as_aux_lemma => kernel_rfl) (fun _ _ _ h => h) (by first | exact Or.inl ⟨by rfl, (by intro W hSW; (try dsimp only at hSW); (try go_split_ands); go_simp <;> with_reducible rfl)⟩ | exact Or.inr ⟨by rfl, rfl⟩) hS0 ?_
                              try simp only [Act.put, List.getElem_toArray, List.getElem_cons_succ, List.getElem_cons_zero, List.setIfInBounds_toArray, List.set_cons_zero, List.set_cons_succ]
                              refine wpAnyU_take (i := 5) [6, 7, 8, 9, 10, 11, 12, 13, 14, 15, 16, 17, 18, 19, 20, 21, 22, 23, 24] rfl (by as_aux_lemma => kernel_rfl) (by as_aux_lemma => kernel_rfl) (by as_aux_lemma => kernel_rfl) (by as_aux_lemma => kernel_rfl) (by as_aux_lemma => kernel_rfl) (by as_aux_lemma => kernel_rfl) (fun _ _ _ h => h) (by first | exact Or.inl ⟨by rfl, (by intro W hSW; (try dsimp only at hSW); (try go_split_ands); go_simp <;> with_reducible rfl)⟩ | exact Or.inr ⟨by rfl, rfl⟩) hS0 ?_
                              try simp only [Act.put, List.getElem_toArray, List.getElem_cons_succ, List.getElem_cons_zero, List.setIfInBounds_toArray, List.set_cons_zero, List.set_cons_succ]
                              refine wpAnyU_take (i := 6) [7, 8, 9, 10, 11, 12, 13, 14, 15, 16, 17, 18, 19, 20, 21, 22, 23, 24] rfl (by as_aux_lemma => kernel_rfl) (by as_aux_lemma => kernel_rfl) (by as_aux_lemma => kernel_rfl) (by as_aux_lemma => kernel_rfl) (by as_aux_lemma => kernel_rfl) (by as_aux_lemma => kernel_rfl) (fun _ _ _ h => h) (Or.inl ⟨by rfl, (by intro W hSW; (try dsimp only at hSW); (try go_split_ands); go_simp <;> with_reducible rfl)⟩) hS0 ?_
                              try simp only [Act.put, List.getElem_toArray, List.getElem_cons_succ, List.getElem_cons_zero, List.setIfInBounds_toArray, List.set_cons_zero, List.set_cons_succ]
                              refine wpAnyU_take (i := 7) [8, 9, 10, 11, 12, 13, 14, 15, 16, 17, 18, 19, 20, 21, 22, 23, 24] rfl (by as_aux_lemma => kernel_rfl) (by as_aux_lemma => kernel_rfl) (by as_aux_lemma => kernel_rfl) (by as_aux_lemma => kernel_rfl) (by as_aux_lemma => kernel_rfl) (by as_aux_lemma => kernel_rfl) (fun _ _ _ h => h) (Or.inl ⟨by rfl, (by intro W hSW; (try dsimp only at hSW); (try go_split_ands); go_simp <;> with_reducible rfl)⟩) hS0 ?_
                              try simp only [Act.put, List.getElem_toArray, List.getElem_cons_succ, List.getElem_cons_zero, List.setIfInBounds_toArray, List.set_cons_zero, List.set_cons_succ]
                              refine wpAnyU_take (i := 8) [10, 11, 12, 13, 14, 15, 16, 17, 18, 19, 20, 21, 22, 23, 24] rfl (by as_aux_lemma => kernel_rfl) (by as_aux_lemma => kernel_rfl) (by as_aux_lemma => kernel_rfl) (by as_aux_lemma => kernel_rfl) (by as_aux_lemma => kernel_rfl) (by as_aux_lemma => kernel_rfl) (fun _ _ _ h => h) (by first | exact Or.inl ⟨by rfl, (by intro W hSW; (try dsimp only at hSW); (try go_split_ands); go_simp <;> with_reducible rfl)⟩ | exact Or.inr ⟨by rfl, rfl⟩) hS0 ?_
                              try simp only [Act.put, List.getElem_toArray, List.getElem_cons_succ, List.getElem_cons_zero, List.setIfInBounds_toArray, List.set_cons_zero, List.set_cons_succ]
                              refine wpAnyU_take (i := 9) [10, 11, 12, 13, 14, 15, 16, 17, 18, 19, 20, 21, 22, 23, 24] rfl (by as_aux_lemma => kernel_rfl) (by as_aux_lemma => kernel_rfl) (by as_aux_lemma => kernel_rfl) (by as_aux_lemma => kernel_rfl) (by as_aux_lemma => kernel_rfl) (by as_aux_lemma => kernel_rfl) (fun _ _ _ h => h) (by first | exact Or.inl ⟨by rfl, (by intro W hSW; (try dsimp only at hSW); (try go_split_ands); go_simp <;> with_reducible rfl)⟩ | exact Or.inr ⟨by rfl, rfl⟩) hS0 ?_
                              try simp only [Act.put, List.getElem_toArray, List.getElem_cons_succ, List.getElem_cons_zero, List.setIfInBounds_toArray, List.set_cons_zero, List.set_cons_succ]
                              refine wpAnyU_take (i := 10) [11, 12, 13, 14, 15, 16, 17, 18, 19, 20, 21, 22, 23, 24] rfl (by as_aux_lemma => kernel_rfl) (by as_aux_lemma => kernel_rfl) (by as_aux_lemma => kernel_rfl) (by as_aux_lemma => kernel_rfl) (by as_aux_lemma => kernel_rfl) (by as_aux_lemma => kernel_rfl) (fun _ _ _ h => h) (by first | exact Or.inl ⟨by rfl, (by intro W hSW; (try dsimp only at hSW); (try go_split_ands); go_simp <;> with_reducible rfl)⟩ | exact Or.inr ⟨by rfl, rfl⟩) hS0 ?_
                              try simp only [Act.put, List.getElem_toArray, List.getElem_cons_succ, List.getElem_cons_zero, List.setIfInBounds_toArray, List.set_cons_zero, List.set_cons_succ]
                              refine wpAnyU_take (i := 11) [12, 13, 14, 15, 16, 17, 18, 19, 20, 21, 22, 23, 24] rfl (by as_aux_lemma => kernel_rfl) (by as_aux_lemma => kernel_rfl) (by as_aux_lemma => kernel_rfl) (by as_aux_lemma => kernel_rfl) (by as_aux_lemma => kernel_rfl) (by as_aux_lemma => kernel_rfl) (fun _ _ _ h => h) (by first | exact Or.inl ⟨by rfl, (by intro W hSW; (try dsimp only at hSW); (try go_split_ands); go_simp <;> with_reducible rfl)⟩ | exact Or.inr ⟨by rfl, rfl⟩) hS0 ?_
                              try simp only [Act.put, List.getElem_toArray, List.getElem_cons_succ, List.getElem_cons_zero, List.setIfInBounds_toArray, List.set_cons_zero, List.set_cons_succ]
                              refine wpAnyU_take (i := 12) [13, 14, 15, 16, 17, 18, 19, 20, 21, 22, 23, 24] rfl (by as_aux_lemma => kernel_rfl) (by as_aux_lemma => kernel_rfl) (by as_aux_lemma => kernel_rfl) (by as_aux_lemma => kernel_rfl) (by as_aux_lemma => kernel_rfl) (by as_aux_lemma => kernel_rfl) (fun _ _ _ h => h) (by first | exact Or.inl ⟨by rfl, (by intro W hSW; (try dsimp only at hSW); (try go_split_ands); go_simp <;> with_reducible rfl)⟩ | exact Or.inr ⟨by rfl, rfl⟩) hS0 ?_
                              try simp only [Act.put, List.getElem_toArray, List.getElem_cons_succ, List.getElem_cons_zero, List.setIfInBounds_toArray, List.set_cons_zero, List.set_cons_succ]
                              refine wpAnyU_take (i := 13) [14, 15, 16, 17, 18, 19, 20, 21, 22, 23, 24] rfl (by as_aux_lemma => kernel_rfl) (by as_aux_lemma => kernel_rfl) (by as_aux_lemma => kernel_rfl) (by as_aux_lemma => kernel_rfl) (by as_aux_lemma => kernel_rfl) (by as_aux_lemma => kernel_rfl) (fun _ _ _ h => h) (by first | exact Or.inl ⟨by rfl, (by intro W hSW; (try dsimp only at hSW); (try go_split_ands); go_simp <;> with_reducible rfl)⟩ | exact Or.inr ⟨by rfl, rfl⟩) hS0 ?_
                              try simp only [Act.put, List.getElem_toArray, List.getElem_cons_succ, List.getElem_cons_zero, List.setIfInBounds_toArray, List.set_cons_zero, List.set_cons_succ]
                              refine wpAnyU_take (i := 14) [15, 16, 17, 18, 19, 20, 21, 22, 23, 24] rfl (by as_aux_lemma => kernel_rfl) (by as_aux_lemma => kernel_rfl) (by as_aux_lemma => kernel_rfl) (by as_aux_lemma => kernel_rfl) (by as_aux_lemma => kernel_rfl) (by as_aux_lemma => kernel_rfl) (fun _ _ _ h => h) (by first | exact Or.inl ⟨by rfl, (by intro W hSW; (try dsimp only at hSW); (try go_split_ands); go_simp <;> with_reducible rfl)⟩ | exact Or.inr ⟨by rfl, rfl⟩) hS0 ?_
                              try simp only [Act.put, List.getElem_toArray, List.getElem_cons_succ, List.getElem_cons_zero, List.setIfInBounds_toArray, List.set_cons_zero, List.set_cons_succ]
                              refine wpAnyU_take (i := 15) [20, 21, 22, 23, 24] rfl (by as_aux_lemma => kernel_rfl) (by as_aux_lemma => kernel_rfl) (by as_aux_lemma => kernel_rfl) (by as_aux_lemma => kernel_rfl) (by as_aux_lemma => kernel_rfl) (by as_aux_lemma => kernel_rfl) (fun _ _ _ h => h) (by first | exact Or.inl ⟨by rfl, (by intro W hSW; (try dsimp only at hSW); (try go_split_ands); go_simp <;> with_reducible rfl)⟩ | exact Or.inr ⟨by rfl, rfl⟩) hS0 ?_
                              try simp only [Act.put, List.getElem_toArray, List.getElem_cons_succ, List.getElem_cons_zero, List.setIfInBounds_toArray, List.set_cons_zero, List.set_cons_succ]
                              refine wpAnyU_take (i := 16) [18, 19, 20, 21, 22, 23, 24] rfl (by as_aux_lemma => kernel_rfl) (by as_aux_lemma => kernel_rfl) (by as_aux_lemma => kernel_rfl) (by as_aux_lemma => kernel_rfl) (by as_aux_lemma => kernel_rfl) (by as_aux_lemma => kernel_rfl) (fun _ _ _ h => h) (by first | exact Or.inl ⟨by rfl, (by intro W hSW; (try dsimp only at hSW); (try go_split_ands); go_simp <;> with_reducible rfl)⟩ | exact Or.inr ⟨by rfl, rfl⟩) hS0 ?_
                              try simp only [Act.put, List.getElem_toArray, List.getElem_cons_succ, List.getElem_cons_zero, List.setIfInBounds_toArray, List.set_cons_zero, List.set_cons_succ]
                              refine wpAnyU_take (i := 17) [18, 19, 20, 21, 22, 23, 24] rfl (by as_aux_lemma => kernel_rfl) (by as_aux_lemma => kernel_rfl) (by as_aux_lemma => kernel_rfl) (by as_aux_lemma => kernel_rfl) (by as_aux_lemma => kernel_rfl) (by as_aux_lemma => kernel_rfl) (fun _ _ _ h => h) (by first | exact Or.inl ⟨by rfl, (by intro W hSW; (try dsimp only at hSW); (try go_split_ands); go_simp <;> with_reducible rfl)⟩ | exact Or.inr ⟨by rfl, rfl⟩) hS0 ?_
                              try simp only [Act.put, List.getElem_toArray, List.getElem_cons_succ, List.getElem_cons_zero, List.setIfInBounds_toArray, List.set_cons_zero, List.set_cons_succ]
                              refine wpAnyU_take (i := 18) [19, 20, 21, 22, 23, 24] rfl (by as_aux_lemma => kernel_rfl) (by as_aux_lemma => kernel_rfl) (by as_aux_lemma => kernel_rfl) (by as_aux_lemma => kernel_rfl) (by as_aux_lemma => kernel_rfl) (by as_aux_lemma => kernel_rfl) (fun _ _ _ h => h) (by first | exact Or.inl ⟨by rfl, (by intro W hSW; (try dsimp only at hSW); (try go_split_ands); go_simp <;> with_reducible rfl)⟩ | exact Or.inr ⟨by rfl, rfl⟩) hS0 ?_
                              try simp only [Act.put, List.getElem_toArray, List.getElem_cons_succ, List.getElem_cons_zero, List.setIfInBounds_toArray, List.set_cons_zero, List.set_cons_succ]
                              refine wpAnyU_take (i := 19) [20, 21, 22, 23, 24] rfl (by as_aux_lemma => kernel_rfl) (by as_aux_lemma => kernel_rfl) (by as_aux_lemma => kernel_rfl) (by as_aux_lemma => kernel_rfl) (by as_aux_lemma => kernel_rfl) (by as_aux_lemma => kernel_rfl) (fun _ _ _ h => h) (by first | exact Or.inl ⟨by rfl, (by intro W hSW; (try dsimp only at hSW); (try go_split_ands); go_simp <;> with_reducible rfl)⟩ | exact Or.inr ⟨by rfl, rfl⟩) hS0 ?_
                              try simp only [Act.put, List.getElem_toArray, List.getElem_cons_succ, List.getElem_cons_zero, List.setIfInBounds_toArray, List.set_cons_zero, List.set_cons_succ]
                              refine wpAnyU_one (i := 20) (by kernel_rfl) rfl (fun K hK => ?_)
                              go_simp
                              go_at_call 12
                              have hsm12 := HSM.out w12.drew (below_drewN (Below.refl w12.heap.size w12) 1)
                              (with_reducible refine hsm12.mono ?_)
                              clear hsm12
                              rintro e w13 ⟨rfl, hb13⟩
                              have hb1213 := (below_drewN (Below.refl w12.heap.size w12) 1).trans hb13
                              have hS1 := HSG.out w13 hb1213
                              refine hK.out _ _ (fun _ => hS1) (fun _ => ?_)
                              clear hK K
                              try simp only [Act.put, List.getElem_toArray, List.getElem_cons_succ, List.getElem_cons_zero, List.setIfInBounds_toArray, List.set_cons_zero, List.set_cons_succ]
                              refine wpAnyU_take (i := 21) [22, 23, 24] rfl (by as_aux_lemma => kernel_rfl) (by as_aux_lemma => kernel_rfl) (by as_aux_lemma => kernel_rfl) (by as_aux_lemma => kernel_rfl) (by as_aux_lemma => kernel_rfl) (by as_aux_lemma => kernel_rfl) (fun _ _ _ h => h) (by first | exact Or.inl ⟨by rfl, (by intro W hSW; (try dsimp only at hSW); (try go_split_ands); go_simp <;> with_reducible rfl)⟩ | exact Or.inr ⟨by rfl, rfl⟩) hS1 ?_
                              try simp only [Act.put, List.getElem_toArray, List.getElem_cons_succ, List.getElem_cons_zero, List.setIfInBounds_toArray, List.set_cons_zero, List.set_cons_succ]
                              refine wpAnyU_take (i := 22) [23, 24] rfl (by as_aux_lemma => kernel_rfl) (by as_aux_lemma => kernel_rfl) (by as_aux_lemma => kernel_rfl) (by as_aux_lemma => kernel_rfl) (by as_aux_lemma => kernel_rfl) (by as_aux_lemma => kernel_rfl) (fun _ _ _ h => h) (by first | exact Or.inl ⟨by rfl, (by intro W hSW; (try dsimp only at hSW); (try go_split_ands); go_simp <;> with_reducible rfl)⟩ | exact Or.inr ⟨by rfl, rfl⟩) hS1 ?_
                              try simp only [Act.put, List.getElem_toArray, List.getElem_cons_succ, List.getElem_cons_zero, List.setIfInBounds_toArray, List.set_cons_zero, List.set_cons_succ]
                              refine wpAnyU_take (i := 23) [24] rfl (by as_aux_lemma => kernel_rfl) (by as_aux_lemma => kernel_rfl) (by as_aux_lemma => kernel_rfl) (by as_aux_lemma => kernel_rfl) (by as_aux_lemma => kernel_rfl) (by as_aux_lemma => kernel_rfl) (fun _ _ _ h => h) (by first | exact Or.inl ⟨by rfl, (by intro W hSW; (try dsimp only at hSW); (try go_split_ands); go_simp <;> with_reducible rfl)⟩ | exact Or.inr ⟨by rfl, rfl⟩) hS1 ?_
                              try simp only [Act.put, List.getElem_toArray, List.getElem_cons_succ, List.getElem_cons_zero, List.setIfInBounds_toArray, List.set_cons_zero, List.set_cons_succ]
                              refine wpAnyU_take (i := 24) [] rfl (by as_aux_lemma => kernel_rfl) (by as_aux_lemma => kernel_rfl) (by as_aux_lemma => kernel_rfl) (by as_aux_lemma => kernel_rfl) (by as_aux_lemma => kernel_rfl) (by as_aux_lemma => kernel_rfl) (fun _ _ _ h => h) (Or.inl ⟨by rfl, (by intro W hSW; (try dsimp only at hSW); (try go_split_ands); go_simp <;> with_reducible rfl)⟩) hS1 ?_
                              try simp only [Act.put, List.getElem_toArray, List.getElem_cons_succ, List.getElem_cons_zero, List.setIfInBounds_toArray, List.set_cons_zero, List.set_cons_succ]
                              refine wpAnyU_done (by kernel_rfl) ?_ _
                              go_wp2
                              go_meet
                              exact ⟨rfl, HB12.out.trans (hb1213.mono HB12.out.size)⟩
                          case rest =>
                            obtain ⟨rfl, hbx⟩ := hcut
                            have HBX2 := Lib.hid hbx
                            clear hbx hS0
                            go_wp2
                            go_roundw
                            case rel => exact ⟨i + 1, HI'.out, by go_num, HBX2.out⟩
                            case measure => have := HI'.out; simp [intOf]; omega
                      · have hini : ¬ (i : Int) < (n' : Int) := by omega
                        have hb9w := HBR.out.1.trans (hbw.mono HBR.out.1.size)
                        have hcr6 := HCR.out wr hb9w
                        have HCR6 := Lib.hid hcr6
                        have HB6 := Lib.hid (And.intro hbw hb9w)
                        clear hcr6 hbw hb9w hin hi
                        go_wp2_with fail
                        refine HCR6.out.mono ?_
                        rintro e wa ⟨rfl, Fa, hda, hba, hFa⟩
                        have hopa := HOP.out wa _ _ _ hda
                        have HOPA := Lib.hid hopa
                        have HA := Lib.hid (And.intro hba hFa)
                        obtain ⟨D3, hD3⟩ : ∃ D3, wr.heap.size + 2 = D3 := ⟨_, rfl⟩
                        rw [hD3] at HOPA ⊢
                        clear hopa hda hba hFa HCR6 hD3
                        go_wp2_with fail
                        refine HOPA.out.mono ?_
                        rintro e wb ⟨L3, bv3, sv3, Fb, rfl, hlogb, hcb, hlb⟩
                        have hbrb : Below wr.heap.size wr wb := HA.out.1.trans (hcb.below HA.out.1.size (fun k hk h => by have := HA.out.2 k h; omega))
                        have hbob : Below wo.heap.size wo wb := HB6.out.1.trans (hbrb.mono HB6.out.1.size)
                        have hb9b : Below w9.heap.size w9 wb := HBR.out.1.trans (hbob.mono HBR.out.1.size)
                        have hmo : ∀ n, LMem (wb.drewN n) D' L' ⟨ob, rs, lenL rs, 0⟩ bv sv := fun n => HBR.out.2.keep (fun k hk => (hbob.block k (HBR.out.2.lt k hk)))
                        have hfi3 : Calls Try.prog 14 #[.pointer (some ⟨L3, 0, none⟩)] wb fun e w' => e = .returned (.int .u64 ob) ∧ wb = w' := l_first hlogb.mem
                        have hfi4 : Calls Try.prog 14 #[.pointer (some ⟨L', 0, none⟩)] wb fun e w' => e = .returned (.int .u64 ob) ∧ wb = w' := l_first (hmo 0)
                        have hen3 : Calls Try.prog 15 #[.pointer (some ⟨L3, 0, none⟩)] wb fun e w' => e = .returned (.int .u64 fq) ∧ ∃ k, w' = wb.drewN k := by
                          have h := l_end hlogb.mem
                          have e : LM.fin ⟨ob, rs, lenL rs, 0⟩ = fq := HRS.out.2.2.2.2.2
                          rw [e] at h
                          exact h
                        have hen4 : ∀ n, Calls Try.prog 15 #[.pointer (some ⟨L', 0, none⟩)] (wb.drewN n) fun e w' => e = .returned (.int .u64 fq) ∧ ∃ k, w' = (wb.drewN n).drewN k := fun n => by
                          have h := l_end (hmo n)
                          have e : LM.fin ⟨ob, rs, lenL rs, 0⟩ = fq := HRS.out.2.2.2.2.2
                          rw [e] at h
                          exact h
                        have HF3 := Lib.hid hfi3
                        have HF4 := Lib.hid hfi4
                        have HE3 := Lib.hid hen3
                        have HE4 := Lib.hid hen4
                        have HX := Lib.hid (And.intro hb9b hlogb.mem)
                        have hnn1 : ((ob : Int) != (ob : Int)) = false := by simp
                        have hnn2 : ((fq : Int) != (fq : Int)) = false := by simp
                        clear hlogb hcb hlb hbrb hbob hb9b hmo hfi3 hfi4 hen3 hen4 HOPA HA
                        go_wp2_with fail
                        refine HF3.out.mono ?_
                        rintro e wd ⟨rfl, rfl⟩
                        go_wp2_with fail
                        refine HF4.out.mono ?_
                        rintro e wd ⟨rfl, rfl⟩
                        go_wp2_with fail
                        refine HE3.out.mono ?_
                        rintro e wd ⟨rfl, n9, rfl⟩
                        go_wp2_with fail
                        refine (HE4.out _).mono ?_
                        rintro e wd ⟨rfl, n10, rfl⟩
                        rw [World.drewN_drewN]
                        go_wp2
                        go_roundw
                        case rel => exact ⟨r + 1, D3, L3, bv3, sv3, rfl, by go_num, by have := HRL.out; omega, below_drewN HX.out.1 _, HX.out.2.keep (fun _ _ => rfl)⟩
                        case measure => have := HRL.out; simp [intOf]; omega
                  · have hr2' : ¬ (r : Int) < 2 := by omega
                    have HFIN := Lib.hid (HB1.out.trans ((HB9.out.trans (hb9r.mono HB9.out.size)).mono HB1.out.size))
                    clear hb9r hmem hrlt hr2
                    go_wp2
                    go_ret
                    exact ⟨rfl, HFIN.out⟩
end Mun
