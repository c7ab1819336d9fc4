/- The walk of WalDies. -/
import Derived.Test.YtoblajbffnkkiaaDiesP
import Derived.Deep.CutBlock
import Derived.Deep.DeepCutAuto
import Derived.Outline
set_option maxRecDepth 100000
set_option linter.unusedVariables false
set_option linter.unusedSimpArgs false
namespace Mun
open Go Go.RowKit
open Go.Proofs

theorem and_31 (n : Int) : ∃ q : Nat, bits .and .i64 n 31 = (q : Int) ∧ q < 32 := by
  refine ⟨(n % 32).toNat, ?_, by omega⟩
  rw [i64_and_low n 5 (by decide) 31 (by decide) (by decide)]
  omega

theorem and_1 (n : Int) : bits .and .i64 n 1 = n % 2 := by
  rw [i64_and_low n 1 (by decide) 1 (by decide) (by decide)]
  omega

theorem owng_fuse {w0 wr : World} {D L : Nat} {dm : DM} {m : LM} {Z : Foot} (h : OwnG w0 D L dm m Z wr) (n : Int) (h1 : -9223372036854775808 ≤ n) (h2 : n ≤ 9223372036854775807) :
    Calls Try.prog 20 #[.pointer (some ⟨D, 0, none⟩), .int .i64 n] wr fun e w' => e = .returned (.tuple #[]) ∧ OwnG w0 D L (dm.setFuse n) m Z w' ∧ KeepZ Z wr w' := by
  obtain ⟨F, bv, sv, h3, h4, h5, h6⟩ := h
  refine (d_fuse wr D F dm h3.disk n h1 h2).mono ?_
  rintro e w' ⟨rfl, hd, hc⟩
  obtain ⟨o1, o2⟩ := OwnG.chg h3 h4 h5 h6 (LogAt.mk hd (h3.mem.keep (fun k hk => hc.block k (h3.mem.lt k hk) (h3.disk.apart k (.inl hk))))) (chg_uf hc)
  exact ⟨rfl, o1, o2⟩

theorem rd_far {w W : World} {F : Foot} {v : Value} {b : Bytes} (h : RdB NoF w v b) (hb : Below w.heap.size w W) (hF : ∀ k, F k → w.heap.size ≤ k) : RdB F W v b :=
  RdV.keep h (fun k hk _ => hb.block k hk) (fun k hk h => by have := hF k h; omega)

/-- a call that draws, and turns nothing, in a region that draws its order -/
theorem quiet_dr {P : Program} {f : FuncId} {args : Array Value} {w : World} {n : Nat} {v : Value} (h : Calls P f args (w.drewN n) fun e w' => e = .returned v ∧ ∃ k, w' = (w.drewN n).drewN k) :
    Calls P f args (w.drewN n) fun e w'' => e = .returned v ∧ ∃ m, w'' = w.drewN m := h.mono fun _ _ ⟨he, k, hm⟩ => ⟨he, _, hm.trans (World.drewN_drewN _ _ _)⟩

set_option maxHeartbeats 4000000 in
theorem dies_any (w : World) (v cv : Value) (l : List QV) (ch : Bytes) (fuse : Int) (hl : RecsAt NoF w v l) (hlen : l.length ≤ 1048576) (hsz : ∀ p ∈ l, szR p.1 ≤ 4194304) (hc : RdB NoF w cv ch) :
    Calls Try.prog 5 #[v, .int .i64 fuse, cv] w fun e w' => e = .returned (.bool true) ∧ Below w.heap.size w w' := by
  obtain ⟨va, vc, rfl, -⟩ := hl.row.form
  obtain ⟨ca, cn, cc, rfl, -⟩ := hc.formN
  obtain ⟨q, hand, hq⟩ := and_31 fuse
  have haw := awake_any w
  have HL := Lib.hid (And.intro hl (And.intro hlen hsz))
  have HC := Lib.hid hc
  have HQ := Lib.hid hq
  clear hl hlen hsz hc hq
  go_enter Try.func5, Try.ntmps5
  go_wp2_with fail
  refine haw.mono ?_
  rintro e w1 ⟨rfl, hb1⟩
  have hf := fresh_any w1 65536 (by decide)
  have HF := Lib.hid hf
  have HB1 := Lib.hid hb1
  clear haw hb1 hf
  go_wp2_with fail
  refine HF.out.mono ?_
  rintro e w2 ⟨D, L, F, bv, sv, rfl, hlog, hb2, hoF, hoE⟩
  have how : OwnG w D L (DM.new 1 65536) LM.new NoF w2 := ⟨F, bv, sv, hlog, HB1.out.trans (hb2.mono HB1.out.size), fun k hk => by
    have := HB1.out.size
    rcases hk with h | h
    · have := hoF k h; omega
    · have := hoE k h; omega, fun k hk => absurd hk (noF k)⟩
  have hfu := owng_fuse how q (by omega) (by have := HQ.out; omega)
  have HFU := Lib.hid hfu
  clear hlog hb2 hoF hoE HF how hfu HQ HB1
  go_wp2_with fail
  clear hand
  refine HFU.out.mono ?_
  rintro e w3 ⟨rfl, how3, -⟩
  have HO := Lib.hid how3
  clear how3 HFU
  have hst : DiesAt w D L 0 l (.slice none 0 0) (.slice none 0 0) 0 [] ((DM.new 1 65536).setFuse q) w3 := by
    have hz : rowZ (.slice none 0 0) (rowZ (.slice none 0 0) NoF) = NoF := by
      funext k
      exact propext ⟨fun h => by rcases h with h | h | h <;> first | exact h | simp [Value.ownBlock] at h, fun h => .inr (.inr h)⟩
    exact ⟨Nat.le_refl _, by simp, by simp [prs], World.ownsRow_nil _ _ _ _, World.ownsRow_nil _ _ _ _, by rw [hz]; exact HO.out, Nat.le_refl _, rfl, rfl, rfl, rfl, Nat.zero_le _⟩
  have HST := Lib.hid hst
  clear hst HO
  go_upto_block 0 with fail
  go_cut [9, 10, 11] (fun av kv c wx => ∃ (cn : Nat) (ps : List QV) (a : Nat) (dm : DM), c = .int .i64 cn ∧ DiesEnd w D l av kv cn ps a dm wx)
  case first =>
    go_wp2_with fail
    go_loopw [9, 10, 11, 12] (fun av kv c iv wr => ∃ (i cn : Nat) (ps : List QV) (dm : DM), iv = .int .i64 i ∧ c = .int .i64 cn ∧ i ≤ l.length ∧ DiesAt w D L i l av kv cn ps dm wr) (fun _ _ _ iv _ => l.length - (intOf iv).toNat)
    case atStart => exact ⟨0, 0, [], _, rfl, rfl, Nat.zero_le _, HST.out⟩
    case round =>
      obtain ⟨i, cn, ps, dm, rfl, rfl, hil, hat⟩ := hrel
      by_cases hlt : i < l.length
      · obtain ⟨g, off, da, dn, dc, ea, en, ec, rfl, hg, e1, e2, hcs⟩ := recs_cells HL.out.1 i hlt
        obtain ⟨c0, c1, c2, c3, c4, c5⟩ := hcs wr hat.own.below
        have hg5 : g < wr.heap.size := Nat.lt_of_lt_of_le hg hat.own.below.size
        obtain ⟨aa, ac, rfl, -⟩ := (RdV.of_own (F := NoF) hat.arow (fun _ _ => noF _)).form
        obtain ⟨ka, kc, rfl, -⟩ := (RdV.of_own (F := NoF) hat.krow (fun _ _ => noF _)).form
        have hrd : RecAt NoF wr l[i].1 l[i].2 := (HL.out.1.below hat.own.below).rd _ (List.getElem_mem hlt)
        have hmem : l[i] ∈ l := List.getElem_mem hlt
        obtain ⟨p, hp⟩ : ∃ p, l[i] = p := ⟨_, rfl⟩
        rw [hp] at e1 e2 c0 c1 c2 c3 hrd hmem hcs
        have hap := owng_app hat.own hrd (HL.out.2.2 p hmem) (by have := hat.ops; have := HL.out.2.1; omega) hat.log
        unfold rval at hap
        rw [e1, e2] at hap
        have HAP := Lib.hid hap
        have HAT := Lib.hid hat
        have HP := Lib.hid (And.intro hmem (And.intro e1 e2))
        have HLT := Lib.hid hlt
        have hlti : (i : Int) < (l.length : Int) := by omega
        have hltb : (i : Int) < 1048576 := by have := HL.out.2.1; omega
        have HCS := Lib.hid hcs
        clear hcs hg hap hat hp hmem e1 e2 hrd hlt
        go_wp2_with fail
        refine HAP.out.mono ?_
        rintro e w5 ⟨n, k, dm', m', rfl, ho5, hk5, hcase⟩
        have HO5 := Lib.hid (And.intro ho5 hk5)
        clear c0 c1 c2 c3 c4 c5
        obtain ⟨c0, c1, c2, c3, c4, c5⟩ := HCS.out w5 ho5.below
        have hg6 : g < w5.heap.size := Nat.lt_of_lt_of_le hg5 hk5.1
        clear ho5 hk5 HAP
        rcases hcase with ⟨hk, rfl, rfl⟩ | ⟨rfl, hok, rfl, h1, h2, h3, h4, h5⟩ | ⟨rfl, hok, rfl, rfl, h1, h2, h3, h4, h5, h6⟩
        · have HX := Lib.hid (DiesAt.step HAT.out HO5.out.1 HO5.out.2)
          clear HO5 HAT
          rcases hk with rfl | rfl | rfl
          · go_wp2
            go_roundw
            case rel => exact ⟨i + 1, cn, ps, _, by go_num, rfl, HLT.out, HX.out⟩
            case measure => have := HLT.out; simp [intOf]; omega
          · go_wp2
            go_roundw
            case rel => exact ⟨i + 1, cn, ps, _, by go_num, rfl, HLT.out, HX.out⟩
            case measure => have := HLT.out; simp [intOf]; omega
          · go_wp2
            go_roundw
            case rel => exact ⟨i + 1, cn, ps, _, by go_num, rfl, HLT.out, HX.out⟩
            case measure => have := HLT.out; simp [intOf]; omega
        · have ha5 := ownsRow_keep HAT.out.arow (fun k e => HO5.out.2.2 k (.inl e))
          have hk5 := ownsRow_keep HAT.out.krow (fun k e => HO5.out.2.2 k (.inr (.inl e)))
          have hps : ps.length < 16777216 := by have := HAT.out.le; have := HL.out.2.1; have := HLT.out; omega
          obtain ⟨R, cp, w6, hr6, hrow6, hc6⟩ := push_rec (ty := 46) p.1 p.2 HP.out.2.1 HP.out.2.2 hk5 hps
          obtain ⟨ho6, ha6⟩ := push_k HO5.out.1 ha5 hk5 hc6
          unfold rcs at hr6
          have HR6 := Lib.hid hr6
          have HX := Lib.hid (DiesAt.appNo HAT.out HP.out.1 hok ho6 ha6 hrow6 h1 h2 h3 h5 (by have := HAT.out.ops; have := HL.out.2.1; have := HLT.out; omega))
          clear ha5 hk5 hps hr6 hrow6 hc6 ho6 ha6 h1 h2 h3 h4 h5 hok
          go_wp2_with (at_builtin; refine wpList_append_eq rfl rfl HR6.out rfl rfl ?_; clear HR6)
          go_meet
          exact ⟨cn, _, _, _, rfl, HX.out⟩
        · have ha5 := ownsRow_keep HAT.out.arow (fun k e => HO5.out.2.2 k (.inl e))
          have hk5 := ownsRow_keep HAT.out.krow (fun k e => HO5.out.2.2 k (.inr (.inl e)))
          have hps : ps.length < 16777216 := by have := HAT.out.le; have := HL.out.2.1; have := HLT.out; omega
          obtain ⟨R, cp, w6, hr6, hrow6, hc6⟩ := push_rec (ty := 46) p.1 p.2 HP.out.2.1 HP.out.2.2 hk5 hps
          obtain ⟨ho6, ha6⟩ := push_k HO5.out.1 ha5 hk5 hc6
          unfold rcs at hr6
          have HR6 := Lib.hid hr6
          obtain ⟨R7, cp7, w7, hr7, hrow7, hc7⟩ := push_u64 (ty := 48) (l := offs 1 (prs ps)) (1 + lenL (prs ps)) (by rw [offs_length, prs_length]; exact ha6) (by rw [offs_length, prs_length]; exact hps)
          obtain ⟨ho7, hk7⟩ := push_a ho6 ha6 hrow6 hc7
          rw [offs_length, prs_length] at hr7 ho7 hrow7 hc7
          have hd7 := DiesAt.push HAT.out HP.out.1 hok ho7 hrow7 hk7 h1 h2 h3 h4 h5
          have hops : dm'.ops ≤ 2 * i + 1 := by have := HAT.out.ops; omega
          obtain ⟨q, hq⟩ : ∃ q, LM.fin ⟨1, prs ps, lenL ((prs ps).take cn), 0⟩ = q := ⟨_, rfl⟩
          have hq' : 1 + lenL (prs ps) = q := hq
          rw [hq]
          rw [hq'] at hr7
          have hfo := owng_force (lsn := q) hd7.own (by have := HL.out.2.1; have := HLT.out; omega) (by
            show 1 + lenL ((prs (ps ++ [p])).take cn) ≤ q
            have := lenL_take_le (prs ps) cn
            have hcl := HAT.out.cl
            rw [prs_snoc, List.take_append_of_le_length (by rw [prs_length]; exact hcl)]
            omega)
          have HR7 := Lib.hid hr7
          have HD7 := Lib.hid (And.intro hd7 hops)
          have HFO := Lib.hid hfo
          clear ha5 hk5 hps hr6 hrow6 hc6 ho6 ha6 h1 h2 h3 h4 h5 h6 hok hr7 hrow7 hc7 ho7 hk7 hd7 hops hq hq' hfo
          by_cases hpar : i % 2 = 1
          · have hb1 : bits .and .i64 (i : Int) 1 = 1 := by rw [and_1]; omega
            go_wp2_with (first | (at_builtin; refine wpList_append_eq rfl rfl HR6.out rfl rfl ?_; clear HR6) | (at_builtin; refine wpList_append_eq rfl rfl HR7.out rfl rfl ?_; clear HR7))
            refine HFO.out.mono ?_
            rintro e w8 ⟨k, dm2, m2, rfl, ho8, hk8, h1, h2, h3, h4, (⟨rfl, rfl, h5⟩ | ⟨rfl, rfl, h5, -, -⟩)⟩
            · have HX := Lib.hid (DiesAt.forceNo HD7.out.1 ho8 hk8 h1 h5 h2 h3 (by have := HD7.out.2; have := HL.out.2.1; have := HLT.out; omega))
              clear ho8 hk8 h1 h2 h3 h4 h5 HFO
              go_wp2
              go_meet
              exact ⟨cn, _, _, _, rfl, HX.out⟩
            · have HX := Lib.hid (DiesAt.force HD7.out.1 ho8 hk8 h1 h5 h2 h3 (by have := HD7.out.2; omega))
              clear ho8 hk8 h1 h2 h3 h4 h5 HFO
              go_wp2
              go_roundw
              case rel => exact ⟨i + 1, _, _, _, by go_num, by simp, HLT.out, HX.out⟩
              case measure => have := HLT.out; simp [intOf]; omega
          · have hb1 : bits .and .i64 (i : Int) 1 = 0 := by rw [and_1]; omega
            clear HFO
            go_wp2_with (first | (at_builtin; refine wpList_append_eq rfl rfl HR6.out rfl rfl ?_; clear HR6) | (at_builtin; refine wpList_append_eq rfl rfl HR7.out rfl rfl ?_; clear HR7))
            go_roundw
            case rel => exact ⟨i + 1, cn, _, _, by go_num, rfl, HLT.out, HD7.out.1⟩
            case measure => have := HLT.out; simp [intOf]; omega
      · have HE := Lib.hid (hat.end_ (by have := HL.out.2.1; omega))
        clear hat
        go_wp2
        go_meet
        exact ⟨cn, ps, _, dm, rfl, HE.out⟩
  case rest =>
    obtain ⟨cn, ps, a, dm, rfl, hend⟩ := hcut
    obtain ⟨E, F, hdk, hF⟩ := hend.disk
    obtain ⟨aa, ac, rfl, -⟩ := (RdV.of_own (F := NoF) hend.arow (fun _ _ => noF _)).form
    obtain ⟨ka, kc, rfl, -⟩ := (RdV.of_own (F := NoF) hend.krow (fun _ _ => noF _)).form
    have hcr := d_crash wc D F dm hdk hend.ops _ ch (rd_far HC.out hend.below hF)
    obtain ⟨n0, hlog⟩ := hend.log
    obtain ⟨j, tail, hcj, hjl, hlog2, hlen2, htorn⟩ := dies_left hlog hdk.wf hend.certain (by rw [prs_length]; have := hend.cl; have := hend.al; omega) ch
    rw [prs_length] at hjl
    have hop := fun (W : World) (D2 : Nat) (E2 F2 : Foot) (h : DiskAt W D2 E2 F2 (dm.crash ch)) => open_plain W D2 E2 F2 (dm.crash ch) 1 0 ((prs ps).take j) tail h rfl (by show 0 < 4398046511104; decide) (by show (-1 : Int) ≠ 0; decide) hlog2 rfl ⟨hend.mark, rfl, rfl⟩
      ⟨fun r hr => hend.ok r (List.mem_of_mem_take hr), hlen2, (by show 1 < _; decide), Nat.le_refl _, (by show 0 < _; decide)⟩ (torn_tail hend.ok hlog2 htorn)
    obtain ⟨rs, hrs⟩ : ∃ rs, (prs ps).take j = rs := ⟨_, rfl⟩
    have hrl : rs.length = j := by rw [← hrs, List.length_take, prs_length]; omega
    obtain ⟨dm2, hdm2⟩ : ∃ dm2, openDM (dm.crash ch) (lenL rs) = dm2 := ⟨_, rfl⟩
    have hod := openDM_log (dm := dm.crash ch) (n := lenL rs) rfl (by show (-1 : Int) ≠ 0; decide) (by rw [hlog2, hrs, List.length_append, encL_length]; omega) rfl
    rw [hdm2] at hod
    have hlog3 : dm2.log = encL 1 rs ++ [] := by rw [hod.1, hlog2, hrs, List.take_left' (encL_length _ _), List.append_nil]
    have hcl3 : (dm2.crash ch).log = encL 1 rs ++ [] := by
      show dm2.crashLog ch = _
      rw [crashLog_all (by rw [hod.2.1, hlog3, List.append_nil, encL_length]) (by rw [hod.2.2.2.1]; rfl), hlog3]
    have hwf3 : LM.Wf ⟨1, rs, lenL rs, 0⟩ := ⟨fun r hr => hend.ok r (by rw [← hrs] at hr; exact List.mem_of_mem_take hr), by rw [← hrs]; exact hlen2, (by show 1 < _; decide), Nat.le_refl _, (by show 0 < _; decide)⟩
    have hmark3 : (dm2.crash ch).mark = [] := by show dm2.mark = []; rw [hod.2.2.1]; exact hend.mark
    have hop3 := fun (W : World) (D3 : Nat) (E3 F3 : Foot) (h : DiskAt W D3 E3 F3 (dm2.crash ch)) => open_plain W D3 E3 F3 (dm2.crash ch) 1 0 rs [] h rfl (by show 0 < 4398046511104; decide) (by show (-1 : Int) ≠ 0; decide) hcl3 rfl ⟨hmark3, rfl, rfl⟩
      hwf3 (fun h => absurd rfl h)
    have hops3 : dm2.ops < 4398046511104 := by have h1 := hod.2.2.2.2; have h2 : (dm.crash ch).ops = 0 := rfl; omega
    rw [hrs] at hop
    unfold OpenGen at hop
    rw [hdm2] at hop
    have HOP3 := Lib.hid hop3
    have HO3 := Lib.hid (And.intro hops3 hwf3)
    have HRS := Lib.hid (And.intro hrs hrl)
    have hkr : RecsAt NoF wc (.slice ka ps.length kc) ps := ⟨RdV.of_own hend.krow (fun _ _ => noF _), fun p hp => (HL.out.1.rd p (hend.mem p hp)).below hend.below⟩
    have HKR := Lib.hid hkr
    have har : RdV NoF wc 1 (.slice aa a ac) a (uv ((offs 1 (prs ps)).take a)) := RdV.of_own hend.arow (fun _ _ => noF _)
    have HAR := Lib.hid har
    have HCR := Lib.hid hcr
    have HOP := Lib.hid hop
    have HEND := Lib.hid hend
    have HJ := Lib.hid (And.intro hcj hjl)
    clear hcr hop hend hdk hF hlog hlog2 hlen2 htorn hcj hjl hrs hrl hdm2 hod hlog3 hcl3 hwf3 hmark3 hop3 hops3 hkr har
    go_wp2_with fail
    refine HCR.out.mono ?_
    rintro e w4 ⟨rfl, F2, hd4, hb4, hF4⟩
    have hop := HOP.out w4 _ _ _ hd4
    have HOP4 := Lib.hid hop
    have H4 := Lib.hid (And.intro hb4 hF4)
    obtain ⟨D2, hD2⟩ : ∃ D2, wc.heap.size + 2 = D2 := ⟨_, rfl⟩
    rw [hD2] at HOP4 ⊢
    clear hop hd4 hb4 hF4 HCR hD2
    go_wp2_with fail
    refine HOP4.out.mono ?_
    rintro e w5 ⟨L2, bv2, sv2, F5, rfl, hlog5, hc5, hl5⟩
    have hb5 : Below wc.heap.size wc w5 := H4.out.1.trans (hc5.below H4.out.1.size (fun k hk h => by have := H4.out.2 k h; omega))
    have hF5 : ∀ k, F5 k → w.heap.size ≤ k := fun k hk => by
      have h1 := HEND.out.below.size
      have h2 := H4.out.1.size
      rcases hc5.foot k hk with h | h
      · have := H4.out.2 k h; omega
      · omega
    have hcr2 : ∀ W, Below w5.heap.size w5 W → _ := fun W (hb : Below w5.heap.size w5 W) => d_crash W D2 F5 dm2 (hlog5.below hb).disk HO3.out.1 _ ch (rd_far HC.out (HEND.out.below.trans ((hb5.trans (hb.mono hb5.size)).mono HEND.out.below.size)) hF5)
    obtain ⟨fq, hfq⟩ : ∃ fq, 1 + lenL rs = fq := ⟨_, rfl⟩
    have hen2 : ∀ W, Below w5.heap.size w5 W → Calls Try.prog 15 #[.pointer (some ⟨L2, 0, none⟩)] W fun e w' => e = .returned (.int .u64 fq) ∧ ∃ k, w' = W.drewN k := fun W hb => by
      have h := l_end (hlog5.below hb).mem
      have e : LM.fin ⟨1, rs, lenL rs, 0⟩ = fq := hfq
      rw [e] at h
      exact h
    have hfi2 : ∀ W, Below w5.heap.size w5 W → Calls Try.prog 14 #[.pointer (some ⟨L2, 0, none⟩)] W fun e w' => e = .returned (.int .u64 1) ∧ W = w' := fun W hb => l_first (hlog5.below hb).mem
    have hrd2 : ∀ W, Below w5.heap.size w5 W → ∀ k (hk : k < rs.length), Calls Try.prog 19 #[.pointer (some ⟨L2, 0, none⟩), .int .u64 (1 + lenL (rs.take k) : Nat)] W (ReadYes W rs[k] (1 + lenL (rs.take (k + 1)))) := fun W hb k hk =>
      l_read_yes W D2 L2 ⟨1, rs, lenL rs, 0⟩ bv2 sv2 k (hlog5.below hb).mem hk
    have HB5 := Lib.hid hb5
    have HCR2 := Lib.hid hcr2
    have HEN2 := Lib.hid hen2
    have HFI2 := Lib.hid hfi2
    have HRD2 := Lib.hid hrd2
    have HFQ := Lib.hid hfq
    clear hb5 hF5 hcr2 hen2 hfi2 hrd2 hfq hlog5 hc5 hl5 HOP4 H4 HOP
    go_wp2_with fail
    refine (HFI2.out w5 (Below.refl _ _)).mono ?_
    rintro e w6 ⟨rfl, rfl⟩
    go_wp2_with fail
    go_loopw [18, 19] (fun kv nv wr => ∃ k : Nat, k ≤ j ∧ kv = .int .i64 k ∧ nv = .int .u64 (1 + lenL (rs.take k) : Nat) ∧ Below w5.heap.size w5 wr) (fun kv _ _ => j - (intOf kv).toNat)
    case atStart => exact ⟨0, Nat.zero_le _, rfl, by simp [lenL], Below.refl _ _⟩
    case round =>
      obtain ⟨k, hkj, rfl, rfl, hb⟩ := hrel
      have hen := HEN2.out wr hb
      obtain ⟨nk, hnk⟩ : ∃ nk, 1 + lenL (rs.take k) = nk := ⟨_, rfl⟩
      rw [hnk]
      have hnf : nk ≤ fq := by rw [← hnk, ← HFQ.out]; have := lenL_take_le rs k; omega
      have hnf2 : fq ≤ 16777217 := by rw [← HFQ.out]; have := HO3.out.2.len; simp only at this; omega
      have HEN := Lib.hid hen
      clear hen
      by_cases hlt : k < j
      · have hkr : k < rs.length := by rw [HRS.out.2]; exact hlt
        have hkp : k < ps.length := by have := HJ.out.2; omega
        obtain ⟨nn, hnn⟩ : ∃ nn, 1 + lenL (rs.take (k + 1)) = nn := ⟨_, rfl⟩
        have hnlt : nk < nn := by rw [← hnk, ← hnn]; have := lenL_take_lt rs (i := k) (j := k + 1) (by omega) hkr; omega
        have hnn2 : nn ≤ fq := by rw [← hnn, ← HFQ.out]; have := lenL_take_le rs (k + 1); omega
        obtain ⟨p, hp⟩ : ∃ p, ps[k] = p := ⟨_, rfl⟩
        have hrk : rs[k] = p.1 := by
          have h1 : (prs ps)[k]'(by rw [prs_length]; exact hkp) = p.1 := by rw [prs_get ps k hkp, hp]
          have h2 : rs[k]? = (prs ps)[k]? := by rw [← HRS.out.1, List.getElem?_take, if_pos hlt]
          rw [List.getElem?_eq_getElem hkr, List.getElem?_eq_getElem (by rw [prs_length]; exact hkp), h1] at h2
          exact Option.some.inj h2
        have hread := fun (W : World) (hb : Below w5.heap.size w5 W) => HRD2.out W hb k hkr
        rw [hnk, hnn, hrk] at hread
        obtain ⟨kg, ko, xda, xdn, xdc, xca, xcn, xcc, rfl, hkg, e1, e2, hsix⟩ := recs_cells HKR.out k hkp
        rw [hp] at e1 e2 hsix
        have hprec : ∀ W, Below w5.heap.size w5 W → RecAt NoF W p.1 p.2 := fun W hbW => by
          have h1 := HKR.out.rd ps[k] (List.getElem_mem hkp)
          rw [hp] at h1
          exact h1.below (HB5.out.trans (hbW.mono HB5.out.size))
        have hkgw : ∀ W, Below w5.heap.size w5 W → kg < W.heap.size := fun W hbW => by have := HB5.out.size; have := hbW.size; omega
        have HRD := Lib.hid hread
        have HSIX := Lib.hid (And.intro hsix (And.intro hprec (And.intro e1 (And.intro e2 hkgw))))
        have HKB := Lib.hid (And.intro hb (And.intro hlt (And.intro hkp hnk)))
        have HNN := Lib.hid hnn
        have hlti : (nk : Int) < (fq : Int) := by omega
        have hnbig : (nk : Int) ≤ 16777217 := by omega
        have hnlti : ¬ (nn : Int) ≤ (nk : Int) := by omega
        have hkpi : decide ((ps.length : Int) ≤ (k : Int)) = false := by simp; omega
        have hnlti' : decide ((nn : Int) ≤ (nk : Int)) = false := by simp; omega
        have hkpn : decide (ps.length ≤ k) = false := by simp; omega
        have hnltn : decide (nn ≤ nk) = false := by simp; omega
        clear hkr hlt hnk hnf hnf2 hnn hnlt hnn2 hrk hread hkg e1 e2 hsix hprec hkgw hb hp
        go_wp2_with fail
        refine HEN.out.mono ?_
        rintro e w6 ⟨rfl, n6, hn6⟩
        have hb6 : Below w5.heap.size w5 w6 := by rw [hn6]; exact below_drewN HKB.out.1 n6
        have hrd6 := HRD.out w6 hb6
        have HRD6 := Lib.hid hrd6
        have HB6 := Lib.hid hb6
        clear hrd6 hb6 hn6 HEN HRD
        go_wp2_with fail
        refine HRD6.out.mono ?_
        rintro e w7 ⟨x, rfl, hrec, hb7⟩
        obtain ⟨da', dn', dc', ca', cn', cc', e1, e2, -⟩ := hrec.open
        unfold rval
        rw [e1, e2]
        have hb57 : Below w5.heap.size w5 w7 := HB6.out.trans (hb7.mono HB6.out.size)
        obtain ⟨w8, hw8⟩ : ∃ w8, w7.alloc (.cells #[.int .i64 p.1.kind, .int .u64 p.1.tx, .int .u64 p.1.prev, .int .u64 p.1.next, .slice da' dn' dc', .slice ca' cn' cc'] 26) = w8 := ⟨_, rfl⟩
        have hb78 : Below w7.heap.size w7 w8 := by rw [← hw8]; exact (Below.refl _ _).alloc (Nat.le_refl _) _
        have hb58 := hb57.trans (hb78.mono hb57.size)
        have k8 : w8.heap[w7.heap.size]? = some (.cells (rcs p.1 (.slice da' dn' dc') (.slice ca' cn' cc')) 26 (0, 0)) := by rw [← hw8]; exact heap_alloc_new w7 _
        have hsm : ∀ W, Below w8.heap.size w8 W → _ := fun W (hbW : Below w8.heap.size w8 W) => same_any W p.1 x p.2 (hrec.below (hb78.trans (hbW.mono hb78.size))) (HSIX.out.2.1 W (hb58.trans (hbW.mono hb58.size)))
        unfold rval at hsm
        rw [e1, e2, HSIX.out.2.2.1, HSIX.out.2.2.2.1] at hsm
        have hbox := fun (W : World) (hbW : Below w8.heap.size w8 W) => box6 (w := w7) (r := p.1) ((hbW.block _ (lt_of_block k8)).trans k8)
        have hkept : ∀ W, Below w8.heap.size w8 W → SixAt W kg (ko + k * 6) p.1 (.slice xda xdn xdc) (.slice xca xcn xcc) := fun W hbW => HSIX.out.1 W (HB5.out.trans ((hb58.trans (hbW.mono hb58.size)).mono HB5.out.size))
        have hak : k < a → ∃ ag ao, aa = some ⟨ag, ao, none⟩ ∧ ∀ W, Below w8.heap.size w8 W → W.cell? ⟨ag, ao + k, none⟩ = some (.int .u64 nk) := fun hka => by
          obtain ⟨ag, ao, c', hv, -, -, -, hgl, -⟩ := HAR.out.at_ (by omega)
          injection hv with e3 _ _
          refine ⟨ag, ao, e3, fun W hbW => ?_⟩
          obtain ⟨ag', ao', c'', hv', -, -, -, -, hcl'⟩ := (HAR.out.below (HB5.out.trans ((hb58.trans (hbW.mono hb58.size)).mono HB5.out.size))).at_ (by omega)
          injection hv' with e4 _ _
          rw [e3] at e4
          injection e4 with e4
          injection e4 with e4 e5
          subst e4 e5
          refine hcl' k _ ?_
          have hko : ((offs 1 (prs ps)).take a)[k]? = some nk := by
            rw [List.getElem?_take, if_pos hka, offs_get _ _ _ (by rw [prs_length]; exact HKB.out.2.2.1), ← HKB.out.2.2.2, ← HRS.out.1, List.take_take, Nat.min_eq_left (Nat.le_of_lt HKB.out.2.1)]
          simp only [uv, List.getElem?_map, hko, Option.map_some]
        have hb08 : Below w8.heap.size w8 w8.drew := below_drewN (Below.refl _ _) 1
        have HSM := Lib.hid hsm
        have HBK := Lib.hid (And.intro hbox hkept)
        have HB8 := Lib.hid hb58
        have HAK := Lib.hid hak
        clear hrec hb7 e1 e2 hb57 hb78 hb58 k8 hsm hbox hkept hb08 hak
        go_upto_region 30 with fail
        go_cut [151] (fun s151 wx => s151 = .bool false ∧ Below w8.heap.size w8 wx)
        case first =>
          by_cases hka : k < a
          · obtain ⟨ag, ao, rfl, hat0⟩ := HAK.out hka
            have hkai : decide ((k : Int) < (a : Int)) = true := by simp; omega
            have hkan : decide (k < a) = true := by simp; omega
            have hka1 : (k : Int) < (a : Int) := by omega
            have hka0 : (0 : Int) ≤ (k : Int) := by omega
            have hnne : ((nk : Int) != (nk : Int)) = false := by simp
            clear hka
            have hSg : ∀ W, Below w8.heap.size w8 W → (W.cell? ⟨w7.heap.size, 0, none⟩ = some (.int .i64 p.1.kind) ∧ W.cell? ⟨w7.heap.size, 1, none⟩ = some (.int .u64 p.1.tx) ∧ W.cell? ⟨w7.heap.size, 2, none⟩ = some (.int .u64 p.1.prev) ∧ W.cell? ⟨w7.heap.size, 3, none⟩ = some (.int .u64 p.1.next) ∧ W.cell? ⟨w7.heap.size, 4, none⟩ = some (.slice da' dn' dc') ∧ W.cell? ⟨w7.heap.size, 5, none⟩ = some (.slice ca' cn' cc') ∧ W.cell? ⟨kg, ko + k * 6, none⟩ = some (.int .i64 p.1.kind) ∧ W.cell? ⟨kg, ko + k * 6 + 1, none⟩ = some (.int .u64 p.1.tx) ∧ W.cell? ⟨kg, ko + k * 6 + 2, none⟩ = some (.int .u64 p.1.prev) ∧ W.cell? ⟨kg, ko + k * 6 + 3, none⟩ = some (.int .u64 p.1.next) ∧ W.cell? ⟨kg, ko + k * 6 + 4, none⟩ = some (.slice xda xdn xdc) ∧ W.cell? ⟨kg, ko + k * 6 + 5, none⟩ = some (.slice xca xcn xcc) ∧ W.cell? ⟨ag, ao + k, none⟩ = some (.int .u64 nk)) := fun W hW => ⟨(HBK.out.1 W hW).1, (HBK.out.1 W hW).2.1, (HBK.out.1 W hW).2.2.1, (HBK.out.1 W hW).2.2.2.1, (HBK.out.1 W hW).2.2.2.2.1, (HBK.out.1 W hW).2.2.2.2.2, (HBK.out.2 W hW).1, (HBK.out.2 W hW).2.1, (HBK.out.2 W hW).2.2.1, (HBK.out.2 W hW).2.2.2.1, (HBK.out.2 W hW).2.2.2.2.1, (HBK.out.2 W hW).2.2.2.2.2, hat0 W hW⟩
            have hS0 := hSg w8.drew (below_drewN (Below.refl _ _) 1)
            have HSG := Lib.hid hSg
            clear hSg
            refine wp_region_U (fun W => W.cell? ⟨w7.heap.size, 0, none⟩ = some (.int .i64 p.1.kind) ∧ W.cell? ⟨w7.heap.size, 1, none⟩ = some (.int .u64 p.1.tx) ∧ W.cell? ⟨w7.heap.size, 2, none⟩ = some (.int .u64 p.1.prev) ∧ W.cell? ⟨w7.heap.size, 3, none⟩ = some (.int .u64 p.1.next) ∧ W.cell? ⟨w7.heap.size, 4, none⟩ = some (.slice da' dn' dc') ∧ W.cell? ⟨w7.heap.size, 5, none⟩ = some (.slice ca' cn' cc') ∧ W.cell? ⟨kg, ko + k * 6, none⟩ = some (.int .i64 p.1.kind) ∧ W.cell? ⟨kg, ko + k * 6 + 1, none⟩ = some (.int .u64 p.1.tx) ∧ W.cell? ⟨kg, ko + k * 6 + 2, none⟩ = some (.int .u64 p.1.prev) ∧ W.cell? ⟨kg, ko + k * 6 + 3, none⟩ = some (.int .u64 p.1.next) ∧ W.cell? ⟨kg, ko + k * 6 + 4, none⟩ = some (.slice xda xdn xdc) ∧ W.cell? ⟨kg, ko + k * 6 + 5, none⟩ = some (.slice xca xcn xcc) ∧ W.cell? ⟨ag, ao + k, none⟩ = some (.int .u64 nk)) [] (by kernel_rfl) ?_
            refine wpAnyU_take (i := 0) [1, 2, 3, 4, 5, 6, 7, 8, 9, 10, 11, 12, 13, 14, 15, 16, 17, 18, 19, 20, 21, 22, 23, 24, 25, 26, 27, 28, 29, 30, 31, 32, 33, 34, 35] rfl (by kernel_rfl) (by kernel_rfl) (by kernel_rfl) (by kernel_rfl) (by kernel_rfl) (by kernel_rfl) (fun _ _ _ h => h) (Or.inl ⟨by rfl, (by intro W hSW; (try dsimp only at hSW); (try go_split_ands); go_simp <;> with_reducible rfl)⟩) hS0 ?_
            try simp only [Act.put, List.getElem_toArray, List.getElem_cons_succ, List.getElem_cons_zero, List.setIfInBounds_toArray, List.set_cons_zero, List.set_cons_succ]
            refine wpAnyU_take (i := 1) [2, 3, 4, 5, 6, 7, 8, 9, 10, 11, 12, 13, 14, 15, 16, 17, 18, 19, 20, 21, 22, 23, 24, 25, 26, 27, 28, 29, 30, 31, 32, 33, 34, 35] rfl (by kernel_rfl) (by kernel_rfl) (by kernel_rfl) (by kernel_rfl) (by kernel_rfl) (by kernel_rfl) (fun _ _ _ h => h) (Or.inl ⟨by rfl, (by intro W hSW; (try dsimp only at hSW); (try go_split_ands); go_simp <;> with_reducible rfl)⟩) hS0 ?_
            try simp only [Act.put, List.getElem_toArray, List.getElem_cons_succ, List.getElem_cons_zero, List.setIfInBounds_toArray, List.set_cons_zero, List.set_cons_succ]
            refine wpAnyU_take (i := 2) [3, 4, 5, 6, 7, 8, 9, 10, 11, 12, 13, 14, 15, 16, 17, 18, 19, 20, 21, 22, 23, 24, 25, 26, 27, 28, 29, 30, 31, 32, 33, 34, 35] rfl (by kernel_rfl) (by kernel_rfl) (by kernel_rfl) (by kernel_rfl) (by kernel_rfl) (by kernel_rfl) (fun _ _ _ h => h) (Or.inl ⟨by rfl, (by intro W hSW; (try dsimp only at hSW); (try go_split_ands); go_simp <;> with_reducible rfl)⟩) hS0 ?_
            try simp only [Act.put, List.getElem_toArray, List.getElem_cons_succ, List.getElem_cons_zero, List.setIfInBounds_toArray, List.set_cons_zero, List.set_cons_succ]
            refine wpAnyU_take (i := 3) [6, 7, 8, 9, 10, 11, 12, 13, 14, 15, 16, 17, 18, 19, 20, 21, 22, 23, 24, 25, 26, 27, 28, 29, 30, 31, 32, 33, 34, 35] rfl (by kernel_rfl) (by kernel_rfl) (by kernel_rfl) (by kernel_rfl) (by kernel_rfl) (by kernel_rfl) (fun _ _ _ h => h) (by first | exact Or.inl ⟨by rfl, (by intro W hSW; (try dsimp only at hSW); (try go_split_ands); go_simp <;> with_reducible rfl)⟩ | exact Or.inr ⟨by rfl, rfl⟩) hS0 ?_
            try simp only [Act.put, List.getElem_toArray, List.getElem_cons_succ, List.getElem_cons_zero, List.setIfInBounds_toArray, List.set_cons_zero, List.set_cons_succ]
            refine wpAnyU_take (i := 4) [5, 6, 7, 8, 9, 10, 11, 12, 13, 14, 15, 16, 17, 18, 19, 20, 21, 22, 23, 24, 25, 26, 27, 28, 29, 30, 31, 32, 33, 34, 35] rfl (by kernel_rfl) (by kernel_rfl) (by kernel_rfl) (by kernel_rfl) (by kernel_rfl) (by kernel_rfl) (fun _ _ _ h => h) (by first | exact Or.inl ⟨by rfl, (by intro W hSW; (try dsimp only at hSW); (try go_split_ands); go_simp <;> with_reducible rfl)⟩ | exact Or.inr ⟨by rfl, rfl⟩) hS0 ?_
            try simp only [Act.put, List.getElem_toArray, List.getElem_cons_succ, List.getElem_cons_zero, List.setIfInBounds_toArray, List.set_cons_zero, List.set_cons_succ]
            refine wpAnyU_take (i := 5) [6, 7, 8, 9, 10, 11, 12, 13, 14, 15, 16, 17, 18, 19, 20, 21, 22, 23, 24, 25, 26, 27, 28, 29, 30, 31, 32, 33, 34, 35] rfl (by kernel_rfl) (by kernel_rfl) (by kernel_rfl) (by kernel_rfl) (by kernel_rfl) (by kernel_rfl) (fun _ _ _ h => h) (by first | exact Or.inl ⟨by rfl, (by intro W hSW; (try dsimp only at hSW); (try go_split_ands); go_simp <;> with_reducible rfl)⟩ | exact Or.inr ⟨by rfl, rfl⟩) hS0 ?_
            try simp only [Act.put, List.getElem_toArray, List.getElem_cons_succ, List.getElem_cons_zero, List.setIfInBounds_toArray, List.set_cons_zero, List.set_cons_succ]
            refine wpAnyU_take (i := 6) [7, 8, 9, 10, 11, 12, 13, 14, 15, 16, 17, 18, 19, 20, 21, 22, 23, 24, 25, 26, 27, 28, 29, 30, 31, 32, 33, 34, 35] rfl (by kernel_rfl) (by kernel_rfl) (by kernel_rfl) (by kernel_rfl) (by kernel_rfl) (by kernel_rfl) (fun _ _ _ h => h) (by first | exact Or.inl ⟨by rfl, (by intro W hSW; (try dsimp only at hSW); (try go_split_ands); go_simp <;> with_reducible rfl)⟩ | exact Or.inr ⟨by rfl, rfl⟩) hS0 ?_
            try simp only [Act.put, List.getElem_toArray, List.getElem_cons_succ, List.getElem_cons_zero, List.setIfInBounds_toArray, List.set_cons_zero, List.set_cons_succ]
            refine wpAnyU_take (i := 7) [8, 9, 10, 11, 12, 13, 14, 15, 16, 17, 18, 19, 20, 21, 22, 23, 24, 25, 26, 27, 28, 29, 30, 31, 32, 33, 34, 35] rfl (by kernel_rfl) (by kernel_rfl) (by kernel_rfl) (by kernel_rfl) (by kernel_rfl) (by kernel_rfl) (fun _ _ _ h => h) (Or.inl ⟨by rfl, (by intro W hSW; (try dsimp only at hSW); (try go_split_ands); go_simp <;> with_reducible rfl)⟩) hS0 ?_
            try simp only [Act.put, List.getElem_toArray, List.getElem_cons_succ, List.getElem_cons_zero, List.setIfInBounds_toArray, List.set_cons_zero, List.set_cons_succ]
            refine wpAnyU_take (i := 8) [9, 10, 11, 12, 13, 14, 15, 16, 17, 18, 19, 20, 21, 22, 23, 24, 25, 26, 27, 28, 29, 30, 31, 32, 33, 34, 35] rfl (by kernel_rfl) (by kernel_rfl) (by kernel_rfl) (by kernel_rfl) (by kernel_rfl) (by kernel_rfl) (fun _ _ _ h => h) (Or.inl ⟨by rfl, (by intro W hSW; (try dsimp only at hSW); (try go_split_ands); go_simp <;> with_reducible rfl)⟩) hS0 ?_
            try simp only [Act.put, List.getElem_toArray, List.getElem_cons_succ, List.getElem_cons_zero, List.setIfInBounds_toArray, List.set_cons_zero, List.set_cons_succ]
            refine wpAnyU_take (i := 9) [14, 15, 16, 17, 18, 19, 20, 21, 22, 23, 24, 25, 26, 27, 28, 29, 30, 31, 32, 33, 34, 35] rfl (by kernel_rfl) (by kernel_rfl) (by kernel_rfl) (by kernel_rfl) (by kernel_rfl) (by kernel_rfl) (fun _ _ _ h => h) (by first | exact Or.inl ⟨by rfl, (by intro W hSW; (try dsimp only at hSW); (try go_split_ands); go_simp <;> with_reducible rfl)⟩ | exact Or.inr ⟨by rfl, rfl⟩) hS0 ?_
            try simp only [Act.put, List.getElem_toArray, List.getElem_cons_succ, List.getElem_cons_zero, List.setIfInBounds_toArray, List.set_cons_zero, List.set_cons_succ]
            refine wpAnyU_take (i := 10) [12, 13, 14, 15, 16, 17, 18, 19, 20, 21, 22, 23, 24, 25, 26, 27, 28, 29, 30, 31, 32, 33, 34, 35] rfl (by kernel_rfl) (by kernel_rfl) (by kernel_rfl) (by kernel_rfl) (by kernel_rfl) (by kernel_rfl) (fun _ _ _ h => h) (by first | exact Or.inl ⟨by rfl, (by intro W hSW; (try dsimp only at hSW); (try go_split_ands); go_simp <;> with_reducible rfl)⟩ | exact Or.inr ⟨by rfl, rfl⟩) hS0 ?_
            try simp only [Act.put, List.getElem_toArray, List.getElem_cons_succ, List.getElem_cons_zero, List.setIfInBounds_toArray, List.set_cons_zero, List.set_cons_succ]
            refine wpAnyU_take (i := 11) [12, 13, 14, 15, 16, 17, 18, 19, 20, 21, 22, 23, 24, 25, 26, 27, 28, 29, 30, 31, 32, 33, 34, 35] rfl (by kernel_rfl) (by kernel_rfl) (by kernel_rfl) (by kernel_rfl) (by kernel_rfl) (by kernel_rfl) (fun _ _ _ h => h) (by first | exact Or.inl ⟨by rfl, (by intro W hSW; (try dsimp only at hSW); (try go_split_ands); go_simp <;> with_reducible rfl)⟩ | exact Or.inr ⟨by rfl, rfl⟩) hS0 ?_
            try simp only [Act.put, List.getElem_toArray, List.getElem_cons_succ, List.getElem_cons_zero, List.setIfInBounds_toArray, List.set_cons_zero, List.set_cons_succ]
            refine wpAnyU_take (i := 12) [13, 14, 15, 16, 17, 18, 19, 20, 21, 22, 23, 24, 25, 26, 27, 28, 29, 30, 31, 32, 33, 34, 35] rfl (by kernel_rfl) (by kernel_rfl) (by kernel_rfl) (by kernel_rfl) (by kernel_rfl) (by kernel_rfl) (fun _ _ _ h => h) (by first | exact Or.inl ⟨by rfl, (by intro W hSW; (try dsimp only at hSW); (try go_split_ands); go_simp <;> with_reducible rfl)⟩ | exact Or.inr ⟨by rfl, rfl⟩) hS0 ?_
            try simp only [Act.put, List.getElem_toArray, List.getElem_cons_succ, List.getElem_cons_zero, List.setIfInBounds_toArray, List.set_cons_zero, List.set_cons_succ]
            refine wpAnyU_take (i := 13) [14, 15, 16, 17, 18, 19, 20, 21, 22, 23, 24, 25, 26, 27, 28, 29, 30, 31, 32, 33, 34, 35] rfl (by kernel_rfl) (by kernel_rfl) (by kernel_rfl) (by kernel_rfl) (by kernel_rfl) (by kernel_rfl) (fun _ _ _ h => h) (by first | exact Or.inl ⟨by rfl, (by intro W hSW; (try dsimp only at hSW); (try go_split_ands); go_simp <;> with_reducible rfl)⟩ | exact Or.inr ⟨by rfl, rfl⟩) hS0 ?_
            try simp only [Act.put, List.getElem_toArray, List.getElem_cons_succ, List.getElem_cons_zero, List.setIfInBounds_toArray, List.set_cons_zero, List.set_cons_succ]
            refine wpAnyU_one (i := 14) (by kernel_rfl) rfl (fun K hK => ?_)
            go_simp
            go_at_call 12
            have hsm8 := HSM.out w8.drew (below_drewN (Below.refl w8.heap.size w8) 1)
            (with_reducible refine hsm8.mono ?_)
            clear hsm8
            rintro e w9 ⟨rfl, hb9⟩
            have hb89 := (below_drewN (Below.refl w8.heap.size w8) 1).trans hb9
            have hS1 := HSG.out w9 hb89
            refine hK.out _ _ (fun _ => hS1) (fun _ => ?_)
            clear hK K
            try simp only [Act.put, List.getElem_toArray, List.getElem_cons_succ, List.getElem_cons_zero, List.setIfInBounds_toArray, List.set_cons_zero, List.set_cons_succ]
            refine wpAnyU_take (i := 15) [16, 17, 18, 19, 20, 21, 22, 23, 24, 25, 26, 27, 28, 29, 30, 31, 32, 33, 34, 35] rfl (by kernel_rfl) (by kernel_rfl) (by kernel_rfl) (by kernel_rfl) (by kernel_rfl) (by kernel_rfl) (fun _ _ _ h => h) (by first | exact Or.inl ⟨by rfl, (by intro W hSW; (try dsimp only at hSW); (try go_split_ands); go_simp <;> with_reducible rfl)⟩ | exact Or.inr ⟨by rfl, rfl⟩) hS1 ?_
            try simp only [Act.put, List.getElem_toArray, List.getElem_cons_succ, List.getElem_cons_zero, List.setIfInBounds_toArray, List.set_cons_zero, List.set_cons_succ]
            refine wpAnyU_take (i := 16) [17, 18, 19, 20, 21, 22, 23, 24, 25, 26, 27, 28, 29, 30, 31, 32, 33, 34, 35] rfl (by kernel_rfl) (by kernel_rfl) (by kernel_rfl) (by kernel_rfl) (by kernel_rfl) (by kernel_rfl) (fun _ _ _ h => h) (Or.inl ⟨by rfl, (by intro W hSW; (try dsimp only at hSW); (try go_split_ands); go_simp <;> with_reducible rfl)⟩) hS1 ?_
            try simp only [Act.put, List.getElem_toArray, List.getElem_cons_succ, List.getElem_cons_zero, List.setIfInBounds_toArray, List.set_cons_zero, List.set_cons_succ]
            refine wpAnyU_take (i := 17) [18, 19, 20, 21, 22, 23, 24, 25, 26, 27, 28, 29, 30, 31, 32, 33, 34, 35] rfl (by kernel_rfl) (by kernel_rfl) (by kernel_rfl) (by kernel_rfl) (by kernel_rfl) (by kernel_rfl) (fun _ _ _ h => h) (Or.inl ⟨by rfl, (by intro W hSW; (try dsimp only at hSW); (try go_split_ands); go_simp <;> with_reducible rfl)⟩) hS1 ?_
            try simp only [Act.put, List.getElem_toArray, List.getElem_cons_succ, List.getElem_cons_zero, List.setIfInBounds_toArray, List.set_cons_zero, List.set_cons_succ]
            refine wpAnyU_take (i := 18) [21, 22, 23, 24, 25, 26, 27, 28, 29, 30, 31, 32, 33, 34, 35] rfl (by kernel_rfl) (by kernel_rfl) (by kernel_rfl) (by kernel_rfl) (by kernel_rfl) (by kernel_rfl) (fun _ _ _ h => h) (by first | exact Or.inl ⟨by rfl, (by intro W hSW; (try dsimp only at hSW); (try go_split_ands); go_simp <;> with_reducible rfl)⟩ | exact Or.inr ⟨by rfl, rfl⟩) hS1 ?_
            try simp only [Act.put, List.getElem_toArray, List.getElem_cons_succ, List.getElem_cons_zero, List.setIfInBounds_toArray, List.set_cons_zero, List.set_cons_succ]
            refine wpAnyU_take (i := 19) [20, 21, 22, 23, 24, 25, 26, 27, 28, 29, 30, 31, 32, 33, 34, 35] rfl (by kernel_rfl) (by kernel_rfl) (by kernel_rfl) (by kernel_rfl) (by kernel_rfl) (by kernel_rfl) (fun _ _ _ h => h) (by first | exact Or.inl ⟨by rfl, (by intro W hSW; (try dsimp only at hSW); (try go_split_ands); go_simp <;> with_reducible rfl)⟩ | exact Or.inr ⟨by rfl, rfl⟩) hS1 ?_
            try simp only [Act.put, List.getElem_toArray, List.getElem_cons_succ, List.getElem_cons_zero, List.setIfInBounds_toArray, List.set_cons_zero, List.set_cons_succ]
            refine wpAnyU_take (i := 20) [21, 22, 23, 24, 25, 26, 27, 28, 29, 30, 31, 32, 33, 34, 35] rfl (by kernel_rfl) (by kernel_rfl) (by kernel_rfl) (by kernel_rfl) (by kernel_rfl) (by kernel_rfl) (fun _ _ _ h => h) (by first | exact Or.inl ⟨by rfl, (by intro W hSW; (try dsimp only at hSW); (try go_split_ands); go_simp <;> with_reducible rfl)⟩ | exact Or.inr ⟨by rfl, rfl⟩) hS1 ?_
            try simp only [Act.put, List.getElem_toArray, List.getElem_cons_succ, List.getElem_cons_zero, List.setIfInBounds_toArray, List.set_cons_zero, List.set_cons_succ]
            refine wpAnyU_take (i := 21) [22, 23, 24, 25, 26, 27, 28, 29, 30, 31, 32, 33, 34, 35] rfl (by kernel_rfl) (by kernel_rfl) (by kernel_rfl) (by kernel_rfl) (by kernel_rfl) (by kernel_rfl) (fun _ _ _ h => h) (by first | exact Or.inl ⟨by rfl, (by intro W hSW; (try dsimp only at hSW); (try go_split_ands); go_simp <;> with_reducible rfl)⟩ | exact Or.inr ⟨by rfl, rfl⟩) hS1 ?_
            try simp only [Act.put, List.getElem_toArray, List.getElem_cons_succ, List.getElem_cons_zero, List.setIfInBounds_toArray, List.set_cons_zero, List.set_cons_succ]
            refine wpAnyU_take (i := 22) [23, 24, 25, 26, 27, 28, 29, 30, 31, 32, 33, 34, 35] rfl (by kernel_rfl) (by kernel_rfl) (by kernel_rfl) (by kernel_rfl) (by kernel_rfl) (by kernel_rfl) (fun _ _ _ h => h) (by first | exact Or.inl ⟨by rfl, (by intro W hSW; (try dsimp only at hSW); (try go_split_ands); go_simp <;> with_reducible rfl)⟩ | exact Or.inr ⟨by rfl, rfl⟩) hS1 ?_
            try simp only [Act.put, List.getElem_toArray, List.getElem_cons_succ, List.getElem_cons_zero, List.setIfInBounds_toArray, List.set_cons_zero, List.set_cons_succ]
            refine wpAnyU_take (i := 23) [25, 26, 28, 29, 30, 31, 32, 33, 34, 35] rfl (by kernel_rfl) (by kernel_rfl) (by kernel_rfl) (by kernel_rfl) (by kernel_rfl) (by kernel_rfl) (fun _ _ _ h => h) (by first | exact Or.inl ⟨by rfl, (by intro W hSW; (try dsimp only at hSW); (try go_split_ands); go_simp <;> with_reducible rfl)⟩ | exact Or.inr ⟨by rfl, rfl⟩) hS1 ?_
            try simp only [Act.put, List.getElem_toArray, List.getElem_cons_succ, List.getElem_cons_zero, List.setIfInBounds_toArray, List.set_cons_zero, List.set_cons_succ]
            refine wpAnyU_take (i := 24) [25, 26, 28, 29, 30, 31, 32, 33, 34, 35] rfl (by kernel_rfl) (by kernel_rfl) (by kernel_rfl) (by kernel_rfl) (by kernel_rfl) (by kernel_rfl) (fun _ _ _ h => h) (by first | exact Or.inl ⟨by rfl, (by intro W hSW; (try dsimp only at hSW); (try go_split_ands); go_simp <;> with_reducible rfl)⟩ | exact Or.inr ⟨by rfl, rfl⟩) hS1 ?_
            try simp only [Act.put, List.getElem_toArray, List.getElem_cons_succ, List.getElem_cons_zero, List.setIfInBounds_toArray, List.set_cons_zero, List.set_cons_succ]
            refine wpAnyU_take (i := 25) [26, 28, 29, 30, 31, 32, 33, 34, 35] rfl (by kernel_rfl) (by kernel_rfl) (by kernel_rfl) (by kernel_rfl) (by kernel_rfl) (by kernel_rfl) (fun _ _ _ h => h) (by first | exact Or.inl ⟨by rfl, (by intro W hSW; (try dsimp only at hSW); (try go_split_ands); go_simp <;> with_reducible rfl)⟩ | exact Or.inr ⟨by rfl, rfl⟩) hS1 ?_
            try simp only [Act.put, List.getElem_toArray, List.getElem_cons_succ, List.getElem_cons_zero, List.setIfInBounds_toArray, List.set_cons_zero, List.set_cons_succ]
            refine wpAnyU_take (i := 26) [28, 29, 30, 31, 32, 33, 34, 35] rfl (by kernel_rfl) (by kernel_rfl) (by kernel_rfl) (by kernel_rfl) (by kernel_rfl) (by kernel_rfl) (fun _ _ _ h => h) (by first | exact Or.inl ⟨by rfl, (by intro W hSW; (try dsimp only at hSW); (try go_split_ands); go_simp <;> with_reducible rfl)⟩ | exact Or.inr ⟨by rfl, rfl⟩) hS1 ?_
            try simp only [Act.put, List.getElem_toArray, List.getElem_cons_succ, List.getElem_cons_zero, List.setIfInBounds_toArray, List.set_cons_zero, List.set_cons_succ]
            refine wpAnyU_take (i := 27) [28, 29, 30, 31, 32, 33, 34, 35] rfl (by kernel_rfl) (by kernel_rfl) (by kernel_rfl) (by kernel_rfl) (by kernel_rfl) (by kernel_rfl) (fun _ _ _ h => h) (by first | exact Or.inl ⟨by rfl, (by intro W hSW; (try dsimp only at hSW); (try go_split_ands); go_simp <;> with_reducible rfl)⟩ | exact Or.inr ⟨by rfl, rfl⟩) hS1 ?_
            try simp only [Act.put, List.getElem_toArray, List.getElem_cons_succ, List.getElem_cons_zero, List.setIfInBounds_toArray, List.set_cons_zero, List.set_cons_succ]
            refine wpAnyU_take (i := 28) [29, 30, 31, 32, 33, 34, 35] rfl (by kernel_rfl) (by kernel_rfl) (by kernel_rfl) (by kernel_rfl) (by kernel_rfl) (by kernel_rfl) (fun _ _ _ h => h) (by first | exact Or.inl ⟨by rfl, (by intro W hSW; (try dsimp only at hSW); (try go_split_ands); go_simp <;> with_reducible rfl)⟩ | exact Or.inr ⟨by rfl, rfl⟩) hS1 ?_
            try simp only [Act.put, List.getElem_toArray, List.getElem_cons_succ, List.getElem_cons_zero, List.setIfInBounds_toArray, List.set_cons_zero, List.set_cons_succ]
            refine wpAnyU_take (i := 29) [30, 31, 32, 33, 34, 35] rfl (by kernel_rfl) (by kernel_rfl) (by kernel_rfl) (by kernel_rfl) (by kernel_rfl) (by kernel_rfl) (fun _ _ _ h => h) (by first | exact Or.inl ⟨by rfl, (by intro W hSW; (try dsimp only at hSW); (try go_split_ands); go_simp <;> with_reducible rfl)⟩ | exact Or.inr ⟨by rfl, rfl⟩) hS1 ?_
            try simp only [Act.put, List.getElem_toArray, List.getElem_cons_succ, List.getElem_cons_zero, List.setIfInBounds_toArray, List.set_cons_zero, List.set_cons_succ]
            refine wpAnyU_take (i := 30) [31, 32, 33, 34, 35] rfl (by kernel_rfl) (by kernel_rfl) (by kernel_rfl) (by kernel_rfl) (by kernel_rfl) (by kernel_rfl) (fun _ _ _ h => h) (Or.inl ⟨by rfl, (by intro W hSW; (try dsimp only at hSW); (try go_split_ands); go_simp <;> with_reducible rfl)⟩) hS1 ?_
            try simp only [Act.put, List.getElem_toArray, List.getElem_cons_succ, List.getElem_cons_zero, List.setIfInBounds_toArray, List.set_cons_zero, List.set_cons_succ]
            refine wpAnyU_take (i := 31) [32, 33, 34, 35] rfl (by kernel_rfl) (by kernel_rfl) (by kernel_rfl) (by kernel_rfl) (by kernel_rfl) (by kernel_rfl) (fun _ _ _ h => h) (Or.inl ⟨by rfl, (by intro W hSW; (try dsimp only at hSW); (try go_split_ands); go_simp <;> with_reducible rfl)⟩) hS1 ?_
            try simp only [Act.put, List.getElem_toArray, List.getElem_cons_succ, List.getElem_cons_zero, List.setIfInBounds_toArray, List.set_cons_zero, List.set_cons_succ]
            refine wpAnyU_take (i := 32) [34, 35] rfl (by kernel_rfl) (by kernel_rfl) (by kernel_rfl) (by kernel_rfl) (by kernel_rfl) (by kernel_rfl) (fun _ _ _ h => h) (by first | exact Or.inl ⟨by rfl, (by intro W hSW; (try dsimp only at hSW); (try go_split_ands); go_simp <;> with_reducible rfl)⟩ | exact Or.inr ⟨by rfl, rfl⟩) hS1 ?_
            try simp only [Act.put, List.getElem_toArray, List.getElem_cons_succ, List.getElem_cons_zero, List.setIfInBounds_toArray, List.set_cons_zero, List.set_cons_succ]
            refine wpAnyU_take (i := 33) [34, 35] rfl (by kernel_rfl) (by kernel_rfl) (by kernel_rfl) (by kernel_rfl) (by kernel_rfl) (by kernel_rfl) (fun _ _ _ h => h) (by first | exact Or.inl ⟨by rfl, (by intro W hSW; (try dsimp only at hSW); (try go_split_ands); go_simp <;> with_reducible rfl)⟩ | exact Or.inr ⟨by rfl, rfl⟩) hS1 ?_
            try simp only [Act.put, List.getElem_toArray, List.getElem_cons_succ, List.getElem_cons_zero, List.setIfInBounds_toArray, List.set_cons_zero, List.set_cons_succ]
            refine wpAnyU_take (i := 34) [35] rfl (by kernel_rfl) (by kernel_rfl) (by kernel_rfl) (by kernel_rfl) (by kernel_rfl) (by kernel_rfl) (fun _ _ _ h => h) (by first | exact Or.inl ⟨by rfl, (by intro W hSW; (try dsimp only at hSW); (try go_split_ands); go_simp <;> with_reducible rfl)⟩ | exact Or.inr ⟨by rfl, rfl⟩) hS1 ?_
            try simp only [Act.put, List.getElem_toArray, List.getElem_cons_succ, List.getElem_cons_zero, List.setIfInBounds_toArray, List.set_cons_zero, List.set_cons_succ]
            refine wpAnyU_take (i := 35) [] rfl (by kernel_rfl) (by kernel_rfl) (by kernel_rfl) (by kernel_rfl) (by kernel_rfl) (by kernel_rfl) (fun _ _ _ h => h) (Or.inl ⟨by rfl, (by intro W hSW; (try dsimp only at hSW); (try go_split_ands); go_simp <;> with_reducible rfl)⟩) hS1 ?_
            try simp only [Act.put, List.getElem_toArray, List.getElem_cons_succ, List.getElem_cons_zero, List.setIfInBounds_toArray, List.set_cons_zero, List.set_cons_succ]
            refine wpAnyU_done (by kernel_rfl) ?_ _
            go_wp2
            go_meet
            exact ⟨rfl, hb89⟩
          · have hkai : decide ((k : Int) < (a : Int)) = false := by simp; omega
            have hkan : decide (k < a) = false := by simp; omega
            clear hka
            have hSg : ∀ W, Below w8.heap.size w8 W → (W.cell? ⟨w7.heap.size, 0, none⟩ = some (.int .i64 p.1.kind) ∧ W.cell? ⟨w7.heap.size, 1, none⟩ = some (.int .u64 p.1.tx) ∧ W.cell? ⟨w7.heap.size, 2, none⟩ = some (.int .u64 p.1.prev) ∧ W.cell? ⟨w7.heap.size, 3, none⟩ = some (.int .u64 p.1.next) ∧ W.cell? ⟨w7.heap.size, 4, none⟩ = some (.slice da' dn' dc') ∧ W.cell? ⟨w7.heap.size, 5, none⟩ = some (.slice ca' cn' cc') ∧ W.cell? ⟨kg, ko + k * 6, none⟩ = some (.int .i64 p.1.kind) ∧ W.cell? ⟨kg, ko + k * 6 + 1, none⟩ = some (.int .u64 p.1.tx) ∧ W.cell? ⟨kg, ko + k * 6 + 2, none⟩ = some (.int .u64 p.1.prev) ∧ W.cell? ⟨kg, ko + k * 6 + 3, none⟩ = some (.int .u64 p.1.next) ∧ W.cell? ⟨kg, ko + k * 6 + 4, none⟩ = some (.slice xda xdn xdc) ∧ W.cell? ⟨kg, ko + k * 6 + 5, none⟩ = some (.slice xca xcn xcc)) := fun W hW => ⟨(HBK.out.1 W hW).1, (HBK.out.1 W hW).2.1, (HBK.out.1 W hW).2.2.1, (HBK.out.1 W hW).2.2.2.1, (HBK.out.1 W hW).2.2.2.2.1, (HBK.out.1 W hW).2.2.2.2.2, (HBK.out.2 W hW).1, (HBK.out.2 W hW).2.1, (HBK.out.2 W hW).2.2.1, (HBK.out.2 W hW).2.2.2.1, (HBK.out.2 W hW).2.2.2.2.1, (HBK.out.2 W hW).2.2.2.2.2⟩
            have hS0 := hSg w8.drew (below_drewN (Below.refl _ _) 1)
            have HSG := Lib.hid hSg
            clear hSg
            refine wp_region_U (fun W => W.cell? ⟨w7.heap.size, 0, none⟩ = some (.int .i64 p.1.kind) ∧ W.cell? ⟨w7.heap.size, 1, none⟩ = some (.int .u64 p.1.tx) ∧ W.cell? ⟨w7.heap.size, 2, none⟩ = some (.int .u64 p.1.prev) ∧ W.cell? ⟨w7.heap.size, 3, none⟩ = some (.int .u64 p.1.next) ∧ W.cell? ⟨w7.heap.size, 4, none⟩ = some (.slice da' dn' dc') ∧ W.cell? ⟨w7.heap.size, 5, none⟩ = some (.slice ca' cn' cc') ∧ W.cell? ⟨kg, ko + k * 6, none⟩ = some (.int .i64 p.1.kind) ∧ W.cell? ⟨kg, ko + k * 6 + 1, none⟩ = some (.int .u64 p.1.tx) ∧ W.cell? ⟨kg, ko + k * 6 + 2, none⟩ = some (.int .u64 p.1.prev) ∧ W.cell? ⟨kg, ko + k * 6 + 3, none⟩ = some (.int .u64 p.1.next) ∧ W.cell? ⟨kg, ko + k * 6 + 4, none⟩ = some (.slice xda xdn xdc) ∧ W.cell? ⟨kg, ko + k * 6 + 5, none⟩ = some (.slice xca xcn xcc)) [] (by kernel_rfl) ?_
            refine wpAnyU_take (i := 0) [1, 2, 3, 4, 5, 6, 7, 8, 9, 10, 11, 12, 13, 14, 15, 16, 17, 18, 19, 20, 21, 22, 23, 24, 25, 26, 27, 28, 29, 30, 31, 32, 33, 34, 35] rfl (by kernel_rfl) (by kernel_rfl) (by kernel_rfl) (by kernel_rfl) (by kernel_rfl) (by kernel_rfl) (fun _ _ _ h => h) (Or.inl ⟨by rfl, (by intro W hSW; (try dsimp only at hSW); (try go_split_ands); go_simp <;> with_reducible rfl)⟩) hS0 ?_
            try simp only [Act.put, List.getElem_toArray, List.getElem_cons_succ, List.getElem_cons_zero, List.setIfInBounds_toArray, List.set_cons_zero, List.set_cons_succ]
            refine wpAnyU_take (i := 1) [2, 3, 4, 5, 6, 7, 8, 9, 10, 11, 12, 13, 14, 15, 16, 17, 18, 19, 20, 21, 22, 23, 24, 25, 26, 27, 28, 29, 30, 31, 32, 33, 34, 35] rfl (by kernel_rfl) (by kernel_rfl) (by kernel_rfl) (by kernel_rfl) (by kernel_rfl) (by kernel_rfl) (fun _ _ _ h => h) (Or.inl ⟨by rfl, (by intro W hSW; (try dsimp only at hSW); (try go_split_ands); go_simp <;> with_reducible rfl)⟩) hS0 ?_
            try simp only [Act.put, List.getElem_toArray, List.getElem_cons_succ, List.getElem_cons_zero, List.setIfInBounds_toArray, List.set_cons_zero, List.set_cons_succ]
            refine wpAnyU_take (i := 2) [3, 4, 5, 6, 7, 8, 9, 10, 11, 12, 13, 14, 15, 16, 17, 18, 19, 20, 21, 22, 23, 24, 25, 26, 27, 28, 29, 30, 31, 32, 33, 34, 35] rfl (by kernel_rfl) (by kernel_rfl) (by kernel_rfl) (by kernel_rfl) (by kernel_rfl) (by kernel_rfl) (fun _ _ _ h => h) (Or.inl ⟨by rfl, (by intro W hSW; (try dsimp only at hSW); (try go_split_ands); go_simp <;> with_reducible rfl)⟩) hS0 ?_
            try simp only [Act.put, List.getElem_toArray, List.getElem_cons_succ, List.getElem_cons_zero, List.setIfInBounds_toArray, List.set_cons_zero, List.set_cons_succ]
            refine wpAnyU_take (i := 3) [6, 7, 8, 9, 10, 11, 12, 13, 14, 15, 16, 17, 18, 19, 20, 21, 22, 23, 24, 25, 26, 27, 28, 29, 30, 31, 32, 33, 34, 35] rfl (by kernel_rfl) (by kernel_rfl) (by kernel_rfl) (by kernel_rfl) (by kernel_rfl) (by kernel_rfl) (fun _ _ _ h => h) (by first | exact Or.inl ⟨by rfl, (by intro W hSW; (try dsimp only at hSW); (try go_split_ands); go_simp <;> with_reducible rfl)⟩ | exact Or.inr ⟨by rfl, rfl⟩) hS0 ?_
            try simp only [Act.put, List.getElem_toArray, List.getElem_cons_succ, List.getElem_cons_zero, List.setIfInBounds_toArray, List.set_cons_zero, List.set_cons_succ]
            refine wpAnyU_take (i := 4) [5, 6, 7, 8, 9, 10, 11, 12, 13, 14, 15, 16, 17, 18, 19, 20, 21, 22, 23, 24, 25, 26, 27, 28, 29, 30, 31, 32, 33, 34, 35] rfl (by kernel_rfl) (by kernel_rfl) (by kernel_rfl) (by kernel_rfl) (by kernel_rfl) (by kernel_rfl) (fun _ _ _ h => h) (by first | exact Or.inl ⟨by rfl, (by intro W hSW; (try dsimp only at hSW); (try go_split_ands); go_simp <;> with_reducible rfl)⟩ | exact Or.inr ⟨by rfl, rfl⟩) hS0 ?_
            try simp only [Act.put, List.getElem_toArray, List.getElem_cons_succ, List.getElem_cons_zero, List.setIfInBounds_toArray, List.set_cons_zero, List.set_cons_succ]
            refine wpAnyU_take (i := 5) [6, 7, 8, 9, 10, 11, 12, 13, 14, 15, 16, 17, 18, 19, 20, 21, 22, 23, 24, 25, 26, 27, 28, 29, 30, 31, 32, 33, 34, 35] rfl (by kernel_rfl) (by kernel_rfl) (by kernel_rfl) (by kernel_rfl) (by kernel_rfl) (by kernel_rfl) (fun _ _ _ h => h) (by first | exact Or.inl ⟨by rfl, (by intro W hSW; (try dsimp only at hSW); (try go_split_ands); go_simp <;> with_reducible rfl)⟩ | exact Or.inr ⟨by rfl, rfl⟩) hS0 ?_
            try simp only [Act.put, List.getElem_toArray, List.getElem_cons_succ, List.getElem_cons_zero, List.setIfInBounds_toArray, List.set_cons_zero, List.set_cons_succ]
            refine wpAnyU_take (i := 6) [7, 8, 9, 10, 11, 12, 13, 14, 15, 16, 17, 18, 19, 20, 21, 22, 23, 24, 25, 26, 27, 28, 29, 30, 31, 32, 33, 34, 35] rfl (by kernel_rfl) (by kernel_rfl) (by kernel_rfl) (by kernel_rfl) (by kernel_rfl) (by kernel_rfl) (fun _ _ _ h => h) (by first | exact Or.inl ⟨by rfl, (by intro W hSW; (try dsimp only at hSW); (try go_split_ands); go_simp <;> with_reducible rfl)⟩ | exact Or.inr ⟨by rfl, rfl⟩) hS0 ?_
            try simp only [Act.put, List.getElem_toArray, List.getElem_cons_succ, List.getElem_cons_zero, List.setIfInBounds_toArray, List.set_cons_zero, List.set_cons_succ]
            refine wpAnyU_take (i := 7) [8, 9, 10, 11, 12, 13, 14, 15, 16, 17, 18, 19, 20, 21, 22, 23, 24, 25, 26, 27, 28, 29, 30, 31, 32, 33, 34, 35] rfl (by kernel_rfl) (by kernel_rfl) (by kernel_rfl) (by kernel_rfl) (by kernel_rfl) (by kernel_rfl) (fun _ _ _ h => h) (Or.inl ⟨by rfl, (by intro W hSW; (try dsimp only at hSW); (try go_split_ands); go_simp <;> with_reducible rfl)⟩) hS0 ?_
            try simp only [Act.put, List.getElem_toArray, List.getElem_cons_succ, List.getElem_cons_zero, List.setIfInBounds_toArray, List.set_cons_zero, List.set_cons_succ]
            refine wpAnyU_take (i := 8) [9, 10, 11, 12, 13, 14, 15, 16, 17, 18, 19, 20, 21, 22, 23, 24, 25, 26, 27, 28, 29, 30, 31, 32, 33, 34, 35] rfl (by kernel_rfl) (by kernel_rfl) (by kernel_rfl) (by kernel_rfl) (by kernel_rfl) (by kernel_rfl) (fun _ _ _ h => h) (Or.inl ⟨by rfl, (by intro W hSW; (try dsimp only at hSW); (try go_split_ands); go_simp <;> with_reducible rfl)⟩) hS0 ?_
            try simp only [Act.put, List.getElem_toArray, List.getElem_cons_succ, List.getElem_cons_zero, List.setIfInBounds_toArray, List.set_cons_zero, List.set_cons_succ]
            refine wpAnyU_take (i := 9) [14, 15, 16, 17, 18, 19, 20, 21, 22, 23, 24, 25, 26, 27, 28, 29, 30, 31, 32, 33, 34, 35] rfl (by kernel_rfl) (by kernel_rfl) (by kernel_rfl) (by kernel_rfl) (by kernel_rfl) (by kernel_rfl) (fun _ _ _ h => h) (by first | exact Or.inl ⟨by rfl, (by intro W hSW; (try dsimp only at hSW); (try go_split_ands); go_simp <;> with_reducible rfl)⟩ | exact Or.inr ⟨by rfl, rfl⟩) hS0 ?_
            try simp only [Act.put, List.getElem_toArray, List.getElem_cons_succ, List.getElem_cons_zero, List.setIfInBounds_toArray, List.set_cons_zero, List.set_cons_succ]
            refine wpAnyU_take (i := 10) [12, 13, 14, 15, 16, 17, 18, 19, 20, 21, 22, 23, 24, 25, 26, 27, 28, 29, 30, 31, 32, 33, 34, 35] rfl (by kernel_rfl) (by kernel_rfl) (by kernel_rfl) (by kernel_rfl) (by kernel_rfl) (by kernel_rfl) (fun _ _ _ h => h) (by first | exact Or.inl ⟨by rfl, (by intro W hSW; (try dsimp only at hSW); (try go_split_ands); go_simp <;> with_reducible rfl)⟩ | exact Or.inr ⟨by rfl, rfl⟩) hS0 ?_
            try simp only [Act.put, List.getElem_toArray, List.getElem_cons_succ, List.getElem_cons_zero, List.setIfInBounds_toArray, List.set_cons_zero, List.set_cons_succ]
            refine wpAnyU_take (i := 11) [12, 13, 14, 15, 16, 17, 18, 19, 20, 21, 22, 23, 24, 25, 26, 27, 28, 29, 30, 31, 32, 33, 34, 35] rfl (by kernel_rfl) (by kernel_rfl) (by kernel_rfl) (by kernel_rfl) (by kernel_rfl) (by kernel_rfl) (fun _ _ _ h => h) (by first | exact Or.inl ⟨by rfl, (by intro W hSW; (try dsimp only at hSW); (try go_split_ands); go_simp <;> with_reducible rfl)⟩ | exact Or.inr ⟨by rfl, rfl⟩) hS0 ?_
            try simp only [Act.put, List.getElem_toArray, List.getElem_cons_succ, List.getElem_cons_zero, List.setIfInBounds_toArray, List.set_cons_zero, List.set_cons_succ]
            refine wpAnyU_take (i := 12) [13, 14, 15, 16, 17, 18, 19, 20, 21, 22, 23, 24, 25, 26, 27, 28, 29, 30, 31, 32, 33, 34, 35] rfl (by kernel_rfl) (by kernel_rfl) (by kernel_rfl) (by kernel_rfl) (by kernel_rfl) (by kernel_rfl) (fun _ _ _ h => h) (by first | exact Or.inl ⟨by rfl, (by intro W hSW; (try dsimp only at hSW); (try go_split_ands); go_simp <;> with_reducible rfl)⟩ | exact Or.inr ⟨by rfl, rfl⟩) hS0 ?_
            try simp only [Act.put, List.getElem_toArray, List.getElem_cons_succ, List.getElem_cons_zero, List.setIfInBounds_toArray, List.set_cons_zero, List.set_cons_succ]
            refine wpAnyU_take (i := 13) [14, 15, 16, 17, 18, 19, 20, 21, 22, 23, 24, 25, 26, 27, 28, 29, 30, 31, 32, 33, 34, 35] rfl (by kernel_rfl) (by kernel_rfl) (by kernel_rfl) (by kernel_rfl) (by kernel_rfl) (by kernel_rfl) (fun _ _ _ h => h) (by first | exact Or.inl ⟨by rfl, (by intro W hSW; (try dsimp only at hSW); (try go_split_ands); go_simp <;> with_reducible rfl)⟩ | exact Or.inr ⟨by rfl, rfl⟩) hS0 ?_
            try simp only [Act.put, List.getElem_toArray, List.getElem_cons_succ, List.getElem_cons_zero, List.setIfInBounds_toArray, List.set_cons_zero, List.set_cons_succ]
            refine wpAnyU_one (i := 14) (by kernel_rfl) rfl (fun K hK => ?_)
            go_simp
            go_at_call 12
            have hsm8 := HSM.out w8.drew (below_drewN (Below.refl w8.heap.size w8) 1)
            (with_reducible refine hsm8.mono ?_)
            clear hsm8
            rintro e w9 ⟨rfl, hb9⟩
            have hb89 := (below_drewN (Below.refl w8.heap.size w8) 1).trans hb9
            have hS1 := HSG.out w9 hb89
            refine hK.out _ _ (fun _ => hS1) (fun _ => ?_)
            clear hK K
            try simp only [Act.put, List.getElem_toArray, List.getElem_cons_succ, List.getElem_cons_zero, List.setIfInBounds_toArray, List.set_cons_zero, List.set_cons_succ]
            refine wpAnyU_take (i := 15) [16, 17, 18, 19, 20, 21, 22, 23, 24, 25, 26, 27, 28, 29, 30, 31, 32, 33, 34, 35] rfl (by kernel_rfl) (by kernel_rfl) (by kernel_rfl) (by kernel_rfl) (by kernel_rfl) (by kernel_rfl) (fun _ _ _ h => h) (by first | exact Or.inl ⟨by rfl, (by intro W hSW; (try dsimp only at hSW); (try go_split_ands); go_simp <;> with_reducible rfl)⟩ | exact Or.inr ⟨by rfl, rfl⟩) hS1 ?_
            try simp only [Act.put, List.getElem_toArray, List.getElem_cons_succ, List.getElem_cons_zero, List.setIfInBounds_toArray, List.set_cons_zero, List.set_cons_succ]
            refine wpAnyU_take (i := 16) [17, 18, 19, 20, 21, 22, 23, 24, 25, 26, 27, 28, 29, 30, 31, 32, 33, 34, 35] rfl (by kernel_rfl) (by kernel_rfl) (by kernel_rfl) (by kernel_rfl) (by kernel_rfl) (by kernel_rfl) (fun _ _ _ h => h) (Or.inl ⟨by rfl, (by intro W hSW; (try dsimp only at hSW); (try go_split_ands); go_simp <;> with_reducible rfl)⟩) hS1 ?_
            try simp only [Act.put, List.getElem_toArray, List.getElem_cons_succ, List.getElem_cons_zero, List.setIfInBounds_toArray, List.set_cons_zero, List.set_cons_succ]
            refine wpAnyU_take (i := 17) [18, 19, 20, 21, 22, 23, 24, 25, 26, 27, 28, 29, 30, 31, 32, 33, 34, 35] rfl (by kernel_rfl) (by kernel_rfl) (by kernel_rfl) (by kernel_rfl) (by kernel_rfl) (by kernel_rfl) (fun _ _ _ h => h) (Or.inl ⟨by rfl, (by intro W hSW; (try dsimp only at hSW); (try go_split_ands); go_simp <;> with_reducible rfl)⟩) hS1 ?_
            try simp only [Act.put, List.getElem_toArray, List.getElem_cons_succ, List.getElem_cons_zero, List.setIfInBounds_toArray, List.set_cons_zero, List.set_cons_succ]
            refine wpAnyU_take (i := 18) [21, 22, 23, 24, 25, 26, 27, 28, 29, 30, 31, 32, 33, 34, 35] rfl (by kernel_rfl) (by kernel_rfl) (by kernel_rfl) (by kernel_rfl) (by kernel_rfl) (by kernel_rfl) (fun _ _ _ h => h) (by first | exact Or.inl ⟨by rfl, (by intro W hSW; (try dsimp only at hSW); (try go_split_ands); go_simp <;> with_reducible rfl)⟩ | exact Or.inr ⟨by rfl, rfl⟩) hS1 ?_
            try simp only [Act.put, List.getElem_toArray, List.getElem_cons_succ, List.getElem_cons_zero, List.setIfInBounds_toArray, List.set_cons_zero, List.set_cons_succ]
            refine wpAnyU_take (i := 19) [20, 21, 22, 23, 24, 25, 26, 27, 28, 29, 30, 31, 32, 33, 34, 35] rfl (by kernel_rfl) (by kernel_rfl) (by kernel_rfl) (by kernel_rfl) (by kernel_rfl) (by kernel_rfl) (fun _ _ _ h => h) (by first | exact Or.inl ⟨by rfl, (by intro W hSW; (try dsimp only at hSW); (try go_split_ands); go_simp <;> with_reducible rfl)⟩ | exact Or.inr ⟨by rfl, rfl⟩) hS1 ?_
            try simp only [Act.put, List.getElem_toArray, List.getElem_cons_succ, List.getElem_cons_zero, List.setIfInBounds_toArray, List.set_cons_zero, List.set_cons_succ]
            refine wpAnyU_take (i := 20) [21, 22, 23, 24, 25, 26, 27, 28, 29, 30, 31, 32, 33, 34, 35] rfl (by kernel_rfl) (by kernel_rfl) (by kernel_rfl) (by kernel_rfl) (by kernel_rfl) (by kernel_rfl) (fun _ _ _ h => h) (by first | exact Or.inl ⟨by rfl, (by intro W hSW; (try dsimp only at hSW); (try go_split_ands); go_simp <;> with_reducible rfl)⟩ | exact Or.inr ⟨by rfl, rfl⟩) hS1 ?_
            try simp only [Act.put, List.getElem_toArray, List.getElem_cons_succ, List.getElem_cons_zero, List.setIfInBounds_toArray, List.set_cons_zero, List.set_cons_succ]
            refine wpAnyU_take (i := 21) [22, 23, 24, 25, 26, 27, 28, 29, 30, 31, 32, 33, 34, 35] rfl (by kernel_rfl) (by kernel_rfl) (by kernel_rfl) (by kernel_rfl) (by kernel_rfl) (by kernel_rfl) (fun _ _ _ h => h) (by first | exact Or.inl ⟨by rfl, (by intro W hSW; (try dsimp only at hSW); (try go_split_ands); go_simp <;> with_reducible rfl)⟩ | exact Or.inr ⟨by rfl, rfl⟩) hS1 ?_
            try simp only [Act.put, List.getElem_toArray, List.getElem_cons_succ, List.getElem_cons_zero, List.setIfInBounds_toArray, List.set_cons_zero, List.set_cons_succ]
            refine wpAnyU_take (i := 22) [23, 24, 25, 26, 27, 28, 29, 30, 31, 32, 33, 34, 35] rfl (by kernel_rfl) (by kernel_rfl) (by kernel_rfl) (by kernel_rfl) (by kernel_rfl) (by kernel_rfl) (fun _ _ _ h => h) (by first | exact Or.inl ⟨by rfl, (by intro W hSW; (try dsimp only at hSW); (try go_split_ands); go_simp <;> with_reducible rfl)⟩ | exact Or.inr ⟨by rfl, rfl⟩) hS1 ?_
            try simp only [Act.put, List.getElem_toArray, List.getElem_cons_succ, List.getElem_cons_zero, List.setIfInBounds_toArray, List.set_cons_zero, List.set_cons_succ]
            refine wpAnyU_take (i := 23) [25, 26, 28, 29, 30, 31, 32, 33, 34, 35] rfl (by kernel_rfl) (by kernel_rfl) (by kernel_rfl) (by kernel_rfl) (by kernel_rfl) (by kernel_rfl) (fun _ _ _ h => h) (by first | exact Or.inl ⟨by rfl, (by intro W hSW; (try dsimp only at hSW); (try go_split_ands); go_simp <;> with_reducible rfl)⟩ | exact Or.inr ⟨by rfl, rfl⟩) hS1 ?_
            try simp only [Act.put, List.getElem_toArray, List.getElem_cons_succ, List.getElem_cons_zero, List.setIfInBounds_toArray, List.set_cons_zero, List.set_cons_succ]
            refine wpAnyU_take (i := 24) [25, 26, 28, 29, 30, 31, 32, 33, 34, 35] rfl (by kernel_rfl) (by kernel_rfl) (by kernel_rfl) (by kernel_rfl) (by kernel_rfl) (by kernel_rfl) (fun _ _ _ h => h) (by first | exact Or.inl ⟨by rfl, (by intro W hSW; (try dsimp only at hSW); (try go_split_ands); go_simp <;> with_reducible rfl)⟩ | exact Or.inr ⟨by rfl, rfl⟩) hS1 ?_
            try simp only [Act.put, List.getElem_toArray, List.getElem_cons_succ, List.getElem_cons_zero, List.setIfInBounds_toArray, List.set_cons_zero, List.set_cons_succ]
            refine wpAnyU_take (i := 25) [26, 28, 29, 30, 31, 32, 33, 34, 35] rfl (by kernel_rfl) (by kernel_rfl) (by kernel_rfl) (by kernel_rfl) (by kernel_rfl) (by kernel_rfl) (fun _ _ _ h => h) (by first | exact Or.inl ⟨by rfl, (by intro W hSW; (try dsimp only at hSW); (try go_split_ands); go_simp <;> with_reducible rfl)⟩ | exact Or.inr ⟨by rfl, rfl⟩) hS1 ?_
            try simp only [Act.put, List.getElem_toArray, List.getElem_cons_succ, List.getElem_cons_zero, List.setIfInBounds_toArray, List.set_cons_zero, List.set_cons_succ]
            refine wpAnyU_take (i := 26) [28, 29, 30, 31, 32, 33, 34, 35] rfl (by kernel_rfl) (by kernel_rfl) (by kernel_rfl) (by kernel_rfl) (by kernel_rfl) (by kernel_rfl) (fun _ _ _ h => h) (by first | exact Or.inl ⟨by rfl, (by intro W hSW; (try dsimp only at hSW); (try go_split_ands); go_simp <;> with_reducible rfl)⟩ | exact Or.inr ⟨by rfl, rfl⟩) hS1 ?_
            try simp only [Act.put, List.getElem_toArray, List.getElem_cons_succ, List.getElem_cons_zero, List.setIfInBounds_toArray, List.set_cons_zero, List.set_cons_succ]
            refine wpAnyU_take (i := 27) [28, 29, 30, 31, 32, 33, 34, 35] rfl (by kernel_rfl) (by kernel_rfl) (by kernel_rfl) (by kernel_rfl) (by kernel_rfl) (by kernel_rfl) (fun _ _ _ h => h) (by first | exact Or.inl ⟨by rfl, (by intro W hSW; (try dsimp only at hSW); (try go_split_ands); go_simp <;> with_reducible rfl)⟩ | exact Or.inr ⟨by rfl, rfl⟩) hS1 ?_
            try simp only [Act.put, List.getElem_toArray, List.getElem_cons_succ, List.getElem_cons_zero, List.setIfInBounds_toArray, List.set_cons_zero, List.set_cons_succ]
            refine wpAnyU_take (i := 28) [29, 30, 31, 32, 33, 34, 35] rfl (by kernel_rfl) (by kernel_rfl) (by kernel_rfl) (by kernel_rfl) (by kernel_rfl) (by kernel_rfl) (fun _ _ _ h => h) (by first | exact Or.inl ⟨by rfl, (by intro W hSW; (try dsimp only at hSW); (try go_split_ands); go_simp <;> with_reducible rfl)⟩ | exact Or.inr ⟨by rfl, rfl⟩) hS1 ?_
            try simp only [Act.put, List.getElem_toArray, List.getElem_cons_succ, List.getElem_cons_zero, List.setIfInBounds_toArray, List.set_cons_zero, List.set_cons_succ]
            refine wpAnyU_take (i := 29) [30, 31, 32, 33, 34, 35] rfl (by kernel_rfl) (by kernel_rfl) (by kernel_rfl) (by kernel_rfl) (by kernel_rfl) (by kernel_rfl) (fun _ _ _ h => h) (by first | exact Or.inl ⟨by rfl, (by intro W hSW; (try dsimp only at hSW); (try go_split_ands); go_simp <;> with_reducible rfl)⟩ | exact Or.inr ⟨by rfl, rfl⟩) hS1 ?_
            try simp only [Act.put, List.getElem_toArray, List.getElem_cons_succ, List.getElem_cons_zero, List.setIfInBounds_toArray, List.set_cons_zero, List.set_cons_succ]
            refine wpAnyU_take (i := 30) [31, 32, 33, 34, 35] rfl (by kernel_rfl) (by kernel_rfl) (by kernel_rfl) (by kernel_rfl) (by kernel_rfl) (by kernel_rfl) (fun _ _ _ h => h) (Or.inl ⟨by rfl, (by intro W hSW; (try dsimp only at hSW); (try go_split_ands); go_simp <;> with_reducible rfl)⟩) hS1 ?_
            try simp only [Act.put, List.getElem_toArray, List.getElem_cons_succ, List.getElem_cons_zero, List.setIfInBounds_toArray, List.set_cons_zero, List.set_cons_succ]
            refine wpAnyU_take (i := 31) [32, 33, 34, 35] rfl (by kernel_rfl) (by kernel_rfl) (by kernel_rfl) (by kernel_rfl) (by kernel_rfl) (by kernel_rfl) (fun _ _ _ h => h) (Or.inl ⟨by rfl, (by intro W hSW; (try dsimp only at hSW); (try go_split_ands); go_simp <;> with_reducible rfl)⟩) hS1 ?_
            try simp only [Act.put, List.getElem_toArray, List.getElem_cons_succ, List.getElem_cons_zero, List.setIfInBounds_toArray, List.set_cons_zero, List.set_cons_succ]
            refine wpAnyU_take (i := 32) [34, 35] rfl (by kernel_rfl) (by kernel_rfl) (by kernel_rfl) (by kernel_rfl) (by kernel_rfl) (by kernel_rfl) (fun _ _ _ h => h) (by first | exact Or.inl ⟨by rfl, (by intro W hSW; (try dsimp only at hSW); (try go_split_ands); go_simp <;> with_reducible rfl)⟩ | exact Or.inr ⟨by rfl, rfl⟩) hS1 ?_
            try simp only [Act.put, List.getElem_toArray, List.getElem_cons_succ, List.getElem_cons_zero, List.setIfInBounds_toArray, List.set_cons_zero, List.set_cons_succ]
            refine wpAnyU_take (i := 33) [34, 35] rfl (by kernel_rfl) (by kernel_rfl) (by kernel_rfl) (by kernel_rfl) (by kernel_rfl) (by kernel_rfl) (fun _ _ _ h => h) (by first | exact Or.inl ⟨by rfl, (by intro W hSW; (try dsimp only at hSW); (try go_split_ands); go_simp <;> with_reducible rfl)⟩ | exact Or.inr ⟨by rfl, rfl⟩) hS1 ?_
            try simp only [Act.put, List.getElem_toArray, List.getElem_cons_succ, List.getElem_cons_zero, List.setIfInBounds_toArray, List.set_cons_zero, List.set_cons_succ]
            refine wpAnyU_take (i := 34) [35] rfl (by kernel_rfl) (by kernel_rfl) (by kernel_rfl) (by kernel_rfl) (by kernel_rfl) (by kernel_rfl) (fun _ _ _ h => h) (by first | exact Or.inl ⟨by rfl, (by intro W hSW; (try dsimp only at hSW); (try go_split_ands); go_simp <;> with_reducible rfl)⟩ | exact Or.inr ⟨by rfl, rfl⟩) hS1 ?_
            try simp only [Act.put, List.getElem_toArray, List.getElem_cons_succ, List.getElem_cons_zero, List.setIfInBounds_toArray, List.set_cons_zero, List.set_cons_succ]
            refine wpAnyU_take (i := 35) [] rfl (by kernel_rfl) (by kernel_rfl) (by kernel_rfl) (by kernel_rfl) (by kernel_rfl) (by kernel_rfl) (fun _ _ _ h => h) (Or.inl ⟨by rfl, (by intro W hSW; (try dsimp only at hSW); (try go_split_ands); go_simp <;> with_reducible rfl)⟩) hS1 ?_
            try simp only [Act.put, List.getElem_toArray, List.getElem_cons_succ, List.getElem_cons_zero, List.setIfInBounds_toArray, List.set_cons_zero, List.set_cons_succ]
            refine wpAnyU_done (by kernel_rfl) ?_ _
            go_wp2
            go_meet
            exact ⟨rfl, hb89⟩
        case rest =>
          obtain ⟨rfl, hbx⟩ := hcut
          have HBX := Lib.hid (HB8.out.trans (hbx.mono HB8.out.size))
          have hk20 : (k : Int) < 1198373 := by
            have h1 := HKB.out.2.1
            have h2 := HRS.out.2
            have h3 := lenL_len rs
            have h4 : lenL rs ≤ 16777216 := HO3.out.2.len
            omega
          clear hbx
          go_wp2
          go_roundw
          case rel => exact ⟨k + 1, HKB.out.2.1, by go_num, by rw [HNN.out], HBX.out⟩
          case measure => have := HKB.out.2.1; simp [intOf]; omega
      · obtain rfl : k = j := by omega
        have hnfe : nk = fq := by
          rw [← hnk, ← HFQ.out, List.take_of_length_le (by rw [HRS.out.2]; exact Nat.le_refl _)]
        subst hnfe
        have HB := Lib.hid hb
        have hlti : decide ((nk : Int) < (nk : Int)) = false := by simp
        have hcj : decide ((cn : Int) ≤ (k : Int)) = true := by have := HJ.out.1; simp; omega
        have hcn : decide (cn ≤ k) = true := by have := HJ.out.1; simp; omega
        clear hkj hnk hnf hnf2 hlt hb
        go_wp2_with fail
        refine HEN.out.mono ?_
        rintro e w6 ⟨rfl, n6, hn6⟩
        have hb6 : Below w5.heap.size w5 w6 := by rw [hn6]; exact below_drewN HB.out n6
        have hcr6 := HCR2.out w6 hb6
        have HCR6 := Lib.hid hcr6
        have HB6 := Lib.hid hb6
        clear hb6 hcr6 HEN hn6
        go_wp2_with fail
        refine HCR6.out.mono ?_
        rintro e w7 ⟨rfl, F7, hd7, hb7, hF7⟩
        have hop7 := HOP3.out w7 _ _ _ hd7
        have HOP7 := Lib.hid hop7
        have H7 := Lib.hid (And.intro hb7 hF7)
        obtain ⟨D3, hD3⟩ : ∃ D3, w6.heap.size + 2 = D3 := ⟨_, rfl⟩
        rw [hD3] at HOP7 ⊢
        clear hop7 hd7 hb7 hF7 HCR6 hD3
        go_wp2_with fail
        refine HOP7.out.mono ?_
        rintro e w8 ⟨L3, bv3, sv3, F8, rfl, hlog8, hc8, hl8⟩
        have hb68 : Below w6.heap.size w6 w8 := H7.out.1.trans (hc8.below H7.out.1.size (fun k hk h => by have := H7.out.2 k h; omega))
        have hb58 := HB6.out.trans (hb68.mono HB6.out.size)
        have hb08 : Below w.heap.size w w8 := HEND.out.below.trans ((HB5.out.trans (hb58.mono HB5.out.size)).mono HEND.out.below.size)
        have hen3 : ∀ n, Calls Try.prog 15 #[.pointer (some ⟨L3, 0, none⟩)] (w8.drewN n) fun e w' => e = .returned (.int .u64 nk) ∧ ∃ k, w' = (w8.drewN n).drewN k := fun n => by
          have h := l_end (hlog8.drewN n).mem
          have e : LM.fin ⟨1, rs, lenL rs, 0⟩ = nk := HFQ.out
          rw [e] at h
          exact h
        have hfi3 : ∀ n, Calls Try.prog 14 #[.pointer (some ⟨L3, 0, none⟩)] (w8.drewN n) fun e w' => e = .returned (.int .u64 1) ∧ w8.drewN n = w' := fun n => l_first (hlog8.drewN n).mem
        have hen4 : ∀ n, Calls Try.prog 15 #[.pointer (some ⟨L2, 0, none⟩)] (w8.drewN n) fun e w' => e = .returned (.int .u64 nk) ∧ ∃ k, w' = (w8.drewN n).drewN k := fun n => HEN2.out _ (below_drewN hb58 n)
        have hfi4 : ∀ n, Calls Try.prog 14 #[.pointer (some ⟨L2, 0, none⟩)] (w8.drewN n) fun e w' => e = .returned (.int .u64 1) ∧ w8.drewN n = w' := fun n => HFI2.out _ (below_drewN hb58 n)
        have HE3 : Hid (Calls Try.prog 15 #[.pointer (some ⟨L3, 0, none⟩)] w8 fun e w' => e = .returned (.int .u64 nk) ∧ ∃ k, w' = w8.drewN k) := Lib.hid (hen3 0)
        have HE4 := Lib.hid hen4
        have HF3 := Lib.hid hfi3
        have HF4 := Lib.hid hfi4
        have HB8 := Lib.hid hb08
        clear hlog8 hc8 hl8 hb68 hb58 hb08 hen3 hfi3 hen4 hfi4 H7 HOP7
        go_wp2_with fail
        refine HE3.out.mono ?_
        rintro e w9 ⟨rfl, n9, rfl⟩
        go_wp2_with fail
        refine (HE4.out _).mono ?_
        rintro e w9 ⟨rfl, n10, rfl⟩
        rw [World.drewN_drewN]
        go_wp2_with fail
        refine (HF3.out _).mono ?_
        rintro e w9 ⟨rfl, rfl⟩
        go_wp2_with fail
        refine (HF4.out _).mono ?_
        rintro e w9 ⟨rfl, rfl⟩
        go_wp2
        go_ret
        exact ⟨rfl, below_drewN HB8.out _⟩
end Mun
