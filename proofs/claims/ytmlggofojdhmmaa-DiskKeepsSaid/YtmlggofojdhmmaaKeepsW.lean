/- The walk of DiskKeeps. -/
import Derived.Test.YtmlggofojdhmmaaDiskN
import Derived.Test.YtmlggofojdhmmaaDiskX
set_option maxRecDepth 1000000
set_option linter.unusedVariables false
namespace Mun
open Go Go.RowKit
open Go.Proofs

theorem and254 (b : UInt8) : bits .and .u8 (b.toNat : Int) 254 = ((evenB b).toNat : Int) := by
  have h : ∀ n < 256, bits .and .u8 ((n : Nat) : Int) 254 = ((n / 2 * 2 : Nat) : Int) := by decide +kernel
  rw [evenB_nat]
  exact h b.toNat b.toNat_lt

set_option maxHeartbeats 4000000 in
theorem keeps_ok (W : World) (v : Value) (l : List Deed) (cv : Value) (ch : Bytes) (hl : DeedsAt NoF W v l) (hlen : l.length ≤ 3518437208882) (hc : RdB NoF W cv ch) (hcl : ch.length ≤ 140737488351232) :
    Calls Try.prog 8 #[v, cv] W fun e W' => e = .returned (.bool true) ∧ Below W.heap.size W W' := by
  obtain ⟨a, c, hv, hlc, hcm⟩ := hl.row.form
  subst hv
  obtain ⟨ca, cn, cc, rfl, HCN, hcc, hccm⟩ := hc.formN
  have HDL := Lib.hid hl
  have HLN := Lib.hid hlen
  have HCH := Lib.hid hc
  have HCL := Lib.hid hcl
  clear hl hlen hc hcl
  go_enter Try.func8, Try.ntmps8
  go_wp2_with fail
  refine (awake6 W).mono ?_
  rintro e w1 ⟨rfl, hb1⟩
  have HB1 := Lib.hid hb1
  clear hb1
  go_wp2_with fail
  refine (d_new w1 5 200 (by decide) (by decide) (by decide)).mono ?_
  rintro e w2 ⟨rfl, hw2⟩
  have hA2 : LawAt W w2 (w1.heap.size + 2) NoF (newFoot w1) (DM.new 5 200) := by rw [← hw2]; exact LawAt.new HB1.out 5 200 (fun _ h => False.elim h) (by decide) (by decide)
  have HA2 := Lib.hid hA2
  clear hA2 hw2
  obtain ⟨D, hD⟩ : ∃ D, w1.heap.size + 2 = D := ⟨_, rfl⟩
  rw [hD] at HA2 ⊢
  clear hD
  go_wp2
  go_loopw [7] (fun i wr => ∃ (j : Nat) (F : Foot) (m : DM), j ≤ l.length ∧ i = .int .i64 (j : Int) ∧ LawAt W wr D NoF F m ∧ Live m 5 j) (fun i _ => l.length - (intOf i).toNat)
  case atStart => exact ⟨0, _, _, by omega, rfl, HA2.out, Live.new 5 200⟩
  case round =>
    obtain ⟨j, F, m, hj, rfl, hA, hL⟩ := hrel
    rcases Nat.lt_or_eq_of_le hj with hlt | heq
    · obtain ⟨g, off, c', hva, hlc', hcm', k0, k1, k2⟩ := (hA.deeds HDL.out).at_ j hlt
      injection hva with e1 e2 e3
      subst e1 e3
      clear e2
      have hgn : (j : Int) < (l.length : Int) := by omega
      have hj0 : (0 : Int) ≤ (j : Int) := by omega
      obtain ⟨x, hx⟩ : ∃ x, l[j] = x := ⟨_, rfl⟩
      have hxm : x ∈ l := by rw [← hx]; exact List.getElem_mem hlt
      rw [hx] at k0 k1 k2
      have hxr := (hA.deeds HDL.out).rd x hxm
      obtain ⟨xa, xn, xc, hxv, HXN, _, _⟩ := hxr.formN
      rw [hxv] at k2 hxr
      have HA := Lib.hid (And.intro hA (And.intro hxr (And.intro hL hlt)))
      clear hA hxr hL hlt hlc' hcm' hlc hcm hxm hx hxv hj
      have hb63 : (l.length : Int) ≤ 3518437208882 := by have := HLN.out; omega
      by_cases hlo : x.op < 0
      · go_wp2
        go_roundw
        case rel =>
          obtain ⟨hA, hxr, hL, hlt⟩ := HA.out
          exact ⟨j + 1, F, m, by omega, by go_num, hA, ⟨hL.dead, hL.fuse, hL.base, Nat.le_succ_of_le hL.ops⟩⟩
        case measure => have := HA.out.2.2.2; simp [intOf]; omega
      · by_cases hhi : x.op > 6
        · go_wp2
          go_roundw
          case rel =>
            obtain ⟨hA, hxr, hL, hlt⟩ := HA.out
            exact ⟨j + 1, F, m, by omega, by go_num, hA, ⟨hL.dead, hL.fuse, hL.base, Nat.le_succ_of_le hL.ops⟩⟩
          case measure => have := HA.out.2.2.2; simp [intOf]; omega
        · go_wp2
          go_still_tail 16, (by kernel_rfl)
          change wpList _ _ _ _ _ wr.drew
          have hAd : LawAt W wr.drew D NoF F m := HA.out.1.drewN 1
          have hxd : RdB F wr.drew (.slice xa xn xc) x.b := HA.out.2.1.drewN 1
          obtain ⟨wd, hwd⟩ : ∃ wd, wr.drew = wd := ⟨_, rfl⟩
          rw [hwd] at hAd hxd ⊢
          have hask := ask_any wd D F m hAd.disk (by have := HA.out.2.2.1.ops; have := HLN.out; have := HA.out.2.2.2; omega) x.op x.n _ x.b hxd
          have HAd := Lib.hid hAd
          clear hAd hxd hwd
          go_wp2_with fail
          refine hask.mono ?_
          rintro e w5 ⟨rfl, F', hd5, hc5⟩
          have HA5 := Lib.hid (HAd.out.chg hd5 hc5)
          have HL5 := Lib.hid (HA.out.2.2.1.ask x.op x.n x.b)
          clear hask hd5 hc5
          go_wp2
          go_roundw
          case rel => exact ⟨j + 1, F', _, by have := HA.out.2.2.2; omega, by go_num, HA5.out, HL5.out⟩
          case measure => have := HA.out.2.2.2; simp [intOf]; omega
    · have hgk : decide (j < l.length) = false := decide_eq_false (by omega)
      have HA := Lib.hid hA
      have HL := Lib.hid hL
      have HJ := Lib.hid hj
      clear heq hA hL hj
      go_wp2
      clear hgk
      obtain ⟨wb, rfl⟩ : ∃ wb : World, wb = wr := ⟨_, rfl⟩
      go_loopw [8, 9] (fun ev i w4 => ∃ (q : Nat), q ≤ cn ∧ i = .int .i64 (q : Int) ∧ Below wb.heap.size wb w4 ∧ OwnB w4 wb.heap.size 5 ev ((ch.take q).map evenB)) (fun _ i _ => cn - (intOf i).toNat)
      case atStart => exact ⟨0, by omega, rfl, Below.refl _ _, OwnB.nil _ _ _⟩
      case round =>
        obtain ⟨q, hq, rfl, hb4, ho4⟩ := hrel
        obtain ⟨ea, ec, hev, hec, hecm⟩ := (OwnB.rd (F := NoF) ho4 (fun _ _ => noF _)).form
        have hmap : ((ch.take q).map evenB).length = q := by rw [List.length_map, List.length_take, ← HCN.out]; omega
        rw [hmap] at hev hec
        subst hev
        rcases Nat.lt_or_eq_of_le hq with hqlt | hqe
        · have hql : q < ch.length := by rw [← HCN.out]; exact hqlt
          have hcw : RdB NoF wr (.slice ca cn cc) ch := RdV.keep HCH.out (fun k hk _ => (hb4.block k (Nat.lt_of_lt_of_le hk HA.out.below.size)).trans (HA.out.below.block k hk)) (fun _ _ h => h)
          obtain ⟨g, off, c2, hcv, _, _, _, _, hcell⟩ := hcw.at_ (by omega)
          injection hcv with e1 e2 e3
          subst e1 e3
          have hc1 := hcell q hql
          obtain ⟨z, hz⟩ : ∃ z, ch[q] = z := ⟨_, rfl⟩
          rw [hz] at hc1
          have hbit := and254 z
          obtain ⟨x, hx⟩ : ∃ x : Int, ((evenB z).toNat : Int) = x := ⟨_, rfl⟩
          rw [hx] at hbit
          obtain ⟨g2, cap, w5, hrun, hown5, hgr5, hg5, hcap5, hwh5⟩ := append_byte (ty := 28) (evenB z) x hx.symm ho4 (by rw [hmap]; have := HCL.out; omega) hb4.size
          rw [hmap] at hrun hown5
          have hb5 : Below wb.heap.size wb w5 := (hb4.alloc hb4.size _).grown hgr5 (by simp; have := hb4.size; omega) (fun k hk => (ownBlock_lt ho4 hk).1)
          have htk : (ch.take q).map evenB ++ [evenB z] = (ch.take (q + 1)).map evenB := by
            rw [List.take_succ_eq_append_getElem hql, hz, List.map_append]; rfl
          rw [htk] at hown5
          have HR := Lib.hid hrun
          have H5 := Lib.hid (And.intro hb5 (And.intro hown5 hqlt))
          have hqi : (q : Int) < (cn : Int) := by omega
          have hcb : (cn : Int) ≤ 140737488351232 := by have := HCL.out; have := HCN.out; omega
          have hq0 : (0 : Int) ≤ (q : Int) := by omega
          obtain ⟨zi, hzi⟩ : ∃ zi : Int, (z.toNat : Int) = zi := ⟨_, rfl⟩
          rw [hzi] at hc1 hbit
          clear e2 hrun hown5 hgr5 hg5 hcap5 hwh5 hb5 htk hcell hcw hz hx hmap ho4 hqlt hql hq hzi hb4
          go_wp2_with (at_builtin; refine wpList_append_eq rfl rfl HR.out rfl rfl ?_; clear HR)
          go_roundw
          case rel =>
            exact ⟨q + 1, by have := H5.out.2.2; omega, by go_num, H5.out.1, H5.out.2.1⟩
          case measure => have := H5.out.2.2; simp [intOf]; omega
        · have hqg : ¬ q < cn := by omega
          have HQ := Lib.hid (And.intro hb4 (And.intro ho4 hqe))
          have hA4 := HA.out.grow hb4
          have hev4 : RdB F wr (.slice ea q ec) (ch.map evenB) := by
            have := OwnB.rd (F := F) ho4 (fun k hk hF => by have := HA.out.lt k hF; omega)
            rwa [List.take_of_length_le (by rw [← HCN.out, hqe]; exact Nat.le_refl _)] at this
          have hcrash := d_crash wr D F m hA4.disk (by have := HL.out.ops; have := HLN.out; have := HJ.out; omega) _ _ hev4
          have HA4 := Lib.hid hA4
          have HNE : Hid (∀ k, F k → k < wr.heap.size) := by show ∀ _, _; exact hA4.lt
          clear hb4 ho4 hqe hq hmap hec hA4 hev4
          go_wp2_with fail
          refine hcrash.mono ?_
          rintro e w6 ⟨rfl, F6, hd6, hb6, hF6⟩
          obtain ⟨D6, hD6⟩ : ∃ D6, wr.heap.size + 2 = D6 := ⟨_, rfl⟩
          rw [hD6] at hd6 ⊢
          obtain ⟨m6, hm6⟩ : ∃ m6, m.crash (ch.map evenB) = m6 := ⟨_, rfl⟩
          rw [hm6] at hd6
          have hA6 := HA4.out.grow hb6
          have hops := d_ops w6 D6 F6 _ hd6
          have hdead := d_dead w6 D6 F6 _ hd6
          have e6 : m6.ops = 0 ∧ m6.dead = false ∧ m6.base.length = 5 := by
            rw [← hm6]
            exact ⟨rfl, rfl, (crashPages_length _ _).trans HL.out.base⟩
          have hwf := HA.out.disk.wf
          have hpages : ∀ n, n < 5 → m6.page n = m.page n := by
            intro n hn
            rw [← hm6]
            exact crash_page_all hwf _ (hwf.alive HL.out.dead).2 (chAt_even ch) n (by rw [HL.out.base]; exact hn)
          have hlog : m6.log = m.log.take (m.certain + m.left (ch.map evenB)) := by
            rw [← hm6]
            have := crashLog_take hwf (ch.map evenB)
            rw [(hwf.alive HL.out.dead).1, List.append_nil] at this
            exact this
          have hmark : m6.mark = m.mark := by rw [← hm6]; rfl
          rw [e6.1] at hops
          rw [e6.2.1] at hdead
          have H6 := Lib.hid (And.intro hA6 (And.intro hd6 (And.intro e6 (And.intro hpages (And.intro hlog hmark)))))
          have HWF := Lib.hid hwf
          clear hA6 hd6 e6 hpages hlog hmark hb6 hF6 hwf hD6 hm6 hcrash hqg
          go_wp2_with (first
            | (go_at_call 26; refine hops.mono ?_; rintro e w7 ⟨rfl, rfl⟩)
            | (go_at_call 20; refine hdead.mono ?_; rintro e w7 ⟨rfl, rfl⟩))
          obtain ⟨wc, rfl⟩ : ∃ wc : World, wc = wr := ⟨_, rfl⟩
          go_loopw [11] (fun i w7 => ∃ (q : Nat), q ≤ 5 ∧ i = .int .i64 (q : Int) ∧ Below w6.heap.size w6 w7) (fun i _ => 5 - (intOf i).toNat)
          case atStart => exact ⟨0, by omega, rfl, Below.refl _ _⟩
          case round =>
            obtain ⟨n, hn, rfl, hb7⟩ := hrel
            rcases Nat.lt_or_eq_of_le hn with hlt | heq
            · have hpg := H6.out.2.2.2.1 n hlt
              have hr1 := d_read wr D F m (H6.out.1.grow hb7).disk HL.out.dead n (by rw [HL.out.base]; exact hlt)
              obtain ⟨P, hP⟩ : ∃ P, m.page n = P := ⟨_, rfl⟩
              rw [hP] at hr1 hpg
              have hPl : P.length = 512 := by rw [← hP]; exact DM.page_length HWF.out n (by rw [HL.out.base]; exact hlt)
              have hb8 : Below w6.heap.size w6 (wr.alloc (bobj P)) := hb7.alloc hb7.size _
              have hr2 := d_read (wr.alloc (bobj P)) D6 F6 m6 (H6.out.2.1.below hb8) H6.out.2.2.1.2.1 n (by rw [H6.out.2.2.1.2.2]; exact hlt)
              rw [hpg] at hr2
              obtain ⟨w8, hw8⟩ : ∃ w8, wr.alloc (bobj P) = w8 := ⟨_, rfl⟩
              rw [hw8] at hr1 hr2
              obtain ⟨w9, hw9⟩ : ∃ w9, w8.alloc (bobj P) = w9 := ⟨_, rfl⟩
              rw [hw9] at hr2
              have hb9 : Below w6.heap.size w6 w9 := by rw [← hw9, ← hw8]; exact hb8.alloc hb8.size _
              have hp1 : RdB NoF w9 (.slice (some ⟨wr.heap.size, 0, none⟩) 512 512) P := by
                rw [← hw9, ← hw8]
                have := (bobj_rd (F := NoF) wr P P.length rfl (maxLen_ge (by omega)) (noF _)).alloc (bobj P)
                rw [hPl] at this
                exact this
              have hp2 : RdB NoF w9 (.slice (some ⟨w8.heap.size, 0, none⟩) 512 512) P := by
                rw [← hw9]
                have := bobj_rd (F := NoF) w8 P P.length rfl (maxLen_ge (by omega)) (noF _)
                rw [hPl] at this
                exact this
              have hs1 := str_bytes hp1
              have hs2 := str_bytes hp2
              have hni : (n : Int) < 5 := by omega
              have H9 := Lib.hid (And.intro hb9 hlt)
              have HR1 := Lib.hid hr1
              have HR2 := Lib.hid hr2
              clear hb9 hlt hp1 hp2 hb8 hb7 hw8 hw9 hpg hP hPl hn hr1 hr2
              go_wp2_with fail
              refine HR1.out.mono ?_
              rintro e W ⟨rfl, rfl⟩
              go_wp2_with fail
              refine HR2.out.mono ?_
              rintro e W ⟨rfl, rfl⟩
              go_wp2
              go_roundw
              case rel => exact ⟨n + 1, by have := H9.out.2; omega, by go_num, H9.out.1⟩
              case measure => have := H9.out.2; simp [intOf]; omega
            · subst heq
              clear hn
              have hL1 := d_log wr D F m (H6.out.1.grow hb7).disk HL.out.dead
              obtain ⟨A, hA⟩ : ∃ A, m.log = A := ⟨_, rfl⟩
              obtain ⟨B, hB⟩ : ∃ B, m6.log = B := ⟨_, rfl⟩
              obtain ⟨M, hM⟩ : ∃ M, m.mark = M := ⟨_, rfl⟩
              have hM6 := H6.out.2.2.2.2.2
              have hB6 := H6.out.2.2.2.2.1
              rw [hM] at hM6
              rw [hA, hB] at hB6
              rw [hA] at hL1
              have hb8 : Below w6.heap.size w6 (wr.alloc (bobj A)) := hb7.alloc hb7.size _
              have hL2 := d_log (wr.alloc (bobj A)) D6 F6 m6 (H6.out.2.1.below hb8) H6.out.2.2.1.2.1
              rw [hB] at hL2
              have hb9 : Below w6.heap.size w6 ((wr.alloc (bobj A)).alloc (bobj B)) := hb8.alloc hb8.size _
              have hM1 := d_marked ((wr.alloc (bobj A)).alloc (bobj B)) D F m (H6.out.1.grow hb9).disk HL.out.dead
              rw [hM] at hM1
              have hb10 : Below w6.heap.size w6 (((wr.alloc (bobj A)).alloc (bobj B)).alloc (bobj M)) := hb9.alloc hb9.size _
              have hM2 := d_marked (((wr.alloc (bobj A)).alloc (bobj B)).alloc (bobj M)) D6 F6 m6 (H6.out.2.1.below hb10) H6.out.2.2.1.2.1
              rw [hM6] at hM2
              have hb11 : Below w6.heap.size w6 ((((wr.alloc (bobj A)).alloc (bobj B)).alloc (bobj M)).alloc (bobj M)) := hb10.alloc hb10.size _
              have hwl : A.length ≤ 16777216 := by rw [← hA]; have := HWF.out.room; have := HWF.out.room24; omega
              have hwm : M.length ≤ 64 := by rw [← hM]; exact HWF.out.mark
              have hcl : m.certain ≤ A.length := by rw [← hA]; exact HWF.out.certain
              have hbl : B.length ≤ A.length := by rw [hB6, List.length_take]; omega
              have hbc : m.certain ≤ B.length := by rw [hB6, List.length_take]; omega
              have htake : A.take B.length = B := by
                rw [hB6, List.length_take]
                by_cases h : m.certain + m.left (ch.map evenB) ≤ A.length
                · rw [Nat.min_eq_left h]
                · rw [Nat.min_eq_right (by omega), List.take_of_length_le (by omega), List.take_of_length_le (by omega)]
              obtain ⟨w8, hw8⟩ : ∃ w8, wr.alloc (bobj A) = w8 := ⟨_, rfl⟩
              rw [hw8] at hL1 hL2 hM1 hM2 hb11
              obtain ⟨w9, hw9⟩ : ∃ w9, w8.alloc (bobj B) = w9 := ⟨_, rfl⟩
              rw [hw9] at hL2 hM1 hM2 hb11
              obtain ⟨w10, hw10⟩ : ∃ w10, w9.alloc (bobj M) = w10 := ⟨_, rfl⟩
              rw [hw10] at hM1 hM2 hb11
              obtain ⟨w11, hw11⟩ : ∃ w11, w10.alloc (bobj M) = w11 := ⟨_, rfl⟩
              rw [hw11] at hM2 hb11
              have hpA : RdB NoF w11 (.slice (some ⟨wr.heap.size, 0, none⟩) A.length A.length) A := by
                rw [← hw11, ← hw10, ← hw9, ← hw8]
                exact (((bobj_rd (F := NoF) wr A A.length rfl (maxLen_ge (by omega)) (noF _)).alloc _).alloc _).alloc _
              have hpB : RdB NoF w11 (.slice (some ⟨w8.heap.size, 0, none⟩) B.length B.length) B := by
                rw [← hw11, ← hw10, ← hw9]
                exact ((bobj_rd (F := NoF) w8 B B.length rfl (maxLen_ge (by omega)) (noF _)).alloc _).alloc _
              have hpM1 : RdB NoF w11 (.slice (some ⟨w9.heap.size, 0, none⟩) M.length M.length) M := by
                rw [← hw11, ← hw10]
                exact (bobj_rd (F := NoF) w9 M M.length rfl (maxLen_ge (by omega)) (noF _)).alloc _
              have hpM2 : RdB NoF w11 (.slice (some ⟨w10.heap.size, 0, none⟩) M.length M.length) M := by
                rw [← hw11]
                exact bobj_rd (F := NoF) w10 M M.length rfl (maxLen_ge (by omega)) (noF _)
              obtain ⟨pa, pc, hsl, hpP⟩ := slice_bytes_to hpA B.length hbl
              rw [htake] at hpP
              have hdk : DiskAt w11 D NoF F m := (H6.out.1.grow hb11).disk
              obtain ⟨la, hla⟩ : ∃ la, A.length = la := ⟨_, rfl⟩
              obtain ⟨lb, hlb⟩ : ∃ lb, B.length = lb := ⟨_, rfl⟩
              obtain ⟨lm, hlm⟩ : ∃ lm, M.length = lm := ⟨_, rfl⟩
              rw [hla] at hL1 hbl hwl hcl hpA hsl
              rw [hlb] at hL2 hbl hbc hpB hpP hsl
              rw [hlm] at hM1 hM2 hpM1 hpM2
              have hcP := fun nq => str_bytes (hpP.drewN nq)
              have hcB := fun nq => str_bytes (hpB.drewN nq)
              have hcM1 := fun nq => str_bytes (hpM1.drewN nq)
              have hcM2 := fun nq => str_bytes (hpM2.drewN nq)
              have hcq := fun nq => d_certain (w11.drewN nq) D F m (hdk.drewN nq)
              obtain ⟨cq, hcqe⟩ : ∃ cq, m.certain = cq := ⟨_, rfl⟩
              rw [hcqe] at hbc hcq
              have t1 : (lb : Int) ≤ (la : Int) := by omega
              have t2 : (cq : Int) ≤ (lb : Int) := by omega
              have t0 : (0 : Int) ≤ (lb : Int) := by omega
              have HFIN := Lib.hid ((H6.out.1.grow hb11).below)
              have HL1 := Lib.hid hL1
              have HL2 := Lib.hid hL2
              have HM1 := Lib.hid hM1
              have HM2 := Lib.hid hM2
              clear hL1 hL2 hM1 hM2 hA hB hM hM6 hB6 hb8 hb9 hb10 hb11 hwl hwm hcl hbl hbc htake hw8 hw9 hw10 hw11 hpA hpB hpM1 hpM2 hpP hdk hla hlb hlm hcqe hb7
              go_wp2_with fail
              refine HL1.out.mono ?_
              rintro e W ⟨rfl, rfl⟩
              go_wp2_with fail
              refine HL2.out.mono ?_
              rintro e W ⟨rfl, rfl⟩
              go_wp2_with fail
              refine HM1.out.mono ?_
              rintro e W ⟨rfl, rfl⟩
              go_wp2_with fail
              refine HM2.out.mono ?_
              rintro e W ⟨rfl, rfl⟩
              go_wp2
              go_quiet ((go_at_call 24; exact quiet_eq (hcq _)))
              go_wp2
              go_ret
              exact ⟨rfl, below_drewN HFIN.out _⟩
end Mun
