/- The walk of DiskPlays. -/
import Derived.Test.YtmlggofojdhmmaaPlaysP
import Derived.Test.YtmlggofojdhmmaaLooksW
import Derived.Test.YtmlggofojdhmmaaRefH
set_option maxRecDepth 1000000
set_option linter.unusedVariables false
set_option linter.unusedSimpArgs false
namespace Mun
open Go Go.RowKit
open Go.Proofs

theorem chg_cell {F F' : Foot} {w w' : World} {x : Addr} {v : Value} (hc : Chg F F' w w') (hv : w.cell? x = some v) (hx : ¬ F x.block) : w'.cell? x = some v := by
  have hB := World.block_lt_of_cell? w x hv
  have h1 := hc.block x.block hB hx
  have h2 : w'.cell? x = w.cell? x := by unfold World.cell?; rw [h1]
  rw [h2, hv]

theorem wpList_load_row_g {P : Program} {ops : Array Oper} {rest : List Oper} {o : Oper} {a : Act} {w : World} {Q : Exit → Act → World → Prop} (hw : Region.wanted o (yielded ops a.tmps) = true) (ty : TypeId) (x : Operand) (ho : o.op = .load ty x)
    (g : Nat) (hx : a.eval x = .pointer (some ⟨g, 0, none⟩)) (t : TypeId) (cs : Array Value) (fr : Nat × Nat) (d : TypeDesc) (hg : w.heap[g]? = some (.cells cs t fr))
    (hu : P.underlying ty = some d) (hd : (match d with | .struct _ | .array _ _ => true | _ => false) = true) (hi : (P.info? ty).map (·.size) = some cs.size)
    (h : wpList P ops Q rest (a.put o.dst (.agg cs)) w) : wpList P ops Q (o :: rest) a w :=
  wpList_step fun K hK => by rw [if_pos hw]; exact wp_load_row ty x ho g hx t cs fr d hg hu hd hi (hK _ _ h)
theorem max_if (x : Int) : max x (-1) = if x < -1 then -1 else x := by
  rw [Int.max_def]
  split <;> split <;> omega

set_option maxHeartbeats 4000000 in
theorem plays_ok (W : World) (pages room : Int) (v : Value) (l : List Deed) (hl : DeedsAt NoF W v l) (hlen : l.length ≤ 3518437208882) (hbl : ∀ e ∈ l, e.b.length ≤ 140737488355328) :
    Calls Try.prog 9 #[.int .i64 pages, .int .i64 room, v] W fun e W' => e = .returned (.bool true) ∧ Below W.heap.size W W' := by
  obtain ⟨va, vc, hv, hlc, hcm⟩ := hl.row.form
  subst hv
  have HDL := Lib.hid (And.intro hl (And.intro hlen hbl))
  clear hl hlen hbl hlc hcm
  by_cases hok : 1 ≤ pages ∧ pages ≤ 65536 ∧ 0 ≤ room ∧ room ≤ 16777216
  case neg =>
    have hn := d_new_no W pages room hok
    have HN := Lib.hid hn
    have hc : pages < 1 ∨ (¬ pages < 1 ∧ pages > 65536) ∨ (¬ pages < 1 ∧ ¬ pages > 65536 ∧ room < 0) ∨ (¬ pages < 1 ∧ ¬ pages > 65536 ∧ ¬ room < 0 ∧ room > 16777216) := by omega
    clear hn hok
    rcases hc with t1 | ⟨t1, t2⟩ | ⟨t1, t2, t3⟩ | ⟨t1, t2, t3, t4⟩
    all_goals
      go_enter Try.func9, Try.ntmps9
      go_wp2_with fail
      refine HN.out.mono ?_
      rintro e w1 ⟨rfl, rfl⟩
      go_wp2_with fail
      refine (awake6 W).mono ?_
      rintro e w2 ⟨rfl, hb⟩
      go_wp2
      go_ret
      exact ⟨rfl, hb⟩
  obtain ⟨p, rfl⟩ := Int.eq_ofNat_of_zero_le (show 0 ≤ pages by omega)
  obtain ⟨q, rfl⟩ := Int.eq_ofNat_of_zero_le (show 0 ≤ room by omega)
  have hp1 : 1 ≤ p := by omega
  have hp6 : p ≤ 65536 := by omega
  have hq6 : q ≤ 16777216 := by omega
  have t1 : ¬ (p : Int) < 1 := by omega
  have t2 : ¬ (p : Int) > 65536 := by omega
  have t3 : ¬ (q : Int) < 0 := by omega
  have t4 : ¬ (q : Int) > 16777216 := by omega
  have hnw := d_new W p q hp1 hp6 hq6
  have HPQ := Lib.hid (And.intro hp6 hq6)
  clear hok hp1 hp6 hq6
  go_enter Try.func9, Try.ntmps9
  go_wp2_with fail
  refine hnw.mono ?_
  rintro e w1 ⟨rfl, hw1⟩
  clear hnw
  go_wp2_with fail
  refine (awake6 w1).mono ?_
  rintro e w3 ⟨rfl, hb3⟩
  have HW1 := Lib.hid (And.intro hw1 hb3)
  clear hw1 hb3
  by_cases t5 : (p : Int) > 300
  case pos =>
    have hd : DiskAt w3 (W.heap.size + 2) NoF (newFoot W) (DM.new p q) := by
      have h9 := new_disk W p q (E := NoF) (fun _ h => h.elim) HPQ.out.1 HPQ.out.2
      rw [HW1.out.1] at h9
      exact h9.below HW1.out.2
    have h1 := d_pages w3 _ _ _ hd
    have h2 := d_room w3 _ _ _ hd
    have hpl : (DM.new p q).base.length = p := by simp [DM.new]
    have hrl : (DM.new p q).room = q := rfl
    rw [hpl] at h1
    rw [hrl] at h2
    have H1 := Lib.hid h1
    have H2 := Lib.hid h2
    have HB : Hid (Below W.heap.size W w3) := by
      show Below _ _ _
      have h9 := (LawAt.new (Below.refl W.heap.size W) p q (E := NoF) (fun _ h => h.elim) HPQ.out.1 HPQ.out.2).below
      rw [HW1.out.1] at h9
      exact h9.trans (HW1.out.2.mono h9.size)
    clear hd h1 h2 hpl hrl
    go_wp2_with (first
      | (go_at_call 29; refine H1.out.mono ?_; rintro e W' ⟨rfl, rfl⟩)
      | (go_at_call 30; refine H2.out.mono ?_; rintro e W' ⟨rfl, rfl⟩))
    go_ret
    exact ⟨rfl, HB.out⟩
  have hnew := r6new w3 p q HPQ.out.1 HPQ.out.2
  have HNEW := Lib.hid hnew
  clear hnew
  go_wp2_with fail
  refine HNEW.out.mono ?_
  rintro e wn ⟨a, cc, us, rfl, hN⟩
  unfold newC
  have hst : PlAt W (wn.alloc (.cells (newC q (.slice a p cc)) 52)) (W.heap.size + 2) wn.heap.size (fun k => k = wn.heap.size) (newFoot W) (DM.new p q) (DM.new p q) ⟨.slice a p cc, .slice none 0 0, .slice none 0 0, .slice none 0 0, .slice none 0 0, .slice none 0 0, 0, us, []⟩ :=
    PlAt.start (Below.refl _ _) HPQ.out.1 HPQ.out.2 (by rw [HW1.out.1]; exact HW1.out.2) hN
  obtain ⟨w5, hw5⟩ : ∃ w5, World.setRow (wn.alloc (.cells Z13 52)) wn.heap.size #[.slice a p cc, .slice none 0 0, .int .i64 q, .slice none 0 0, .int .i64 0, .slice none 0 0, .int .i64 (-1), .int .i64 0, .bool false, .int .i64 0, .slice none 0 0, .slice none 0 0, .bool false] = w5 := ⟨_, rfl⟩
  have hw5' : w5 = wn.alloc (.cells (newC q (.slice a p cc)) 52) := by rw [← hw5]; exact setRow_alloc _ _ _ _
  rw [← hw5'] at hst
  have HX0 := Lib.hid (BoxAt.new wn Z13)
  unfold Z13 at hw5 HX0
  have HST := Lib.hid hst
  clear hst hw5' hN HNEW HW1 HPQ
  obtain ⟨D0, hD0⟩ : ∃ D0, W.heap.size + 2 = D0 := ⟨_, rfl⟩
  rw [hD0] at HST ⊢
  clear hD0
  go_wp2_with (refine wpList_store_row rfl _ _ _ rfl wn.heap.size _ rfl rfl _ _ HX0.out info13 rfl (by simp [Value.oneCell']) ?_; rw [hw5])
  clear hw5 HX0 t1 t2 t3 t4 t5
  go_loopw [7, 10] (fun dv i wr => ∃ (j D : Nat) (E F : Foot) (M : DM) (r : RV), j ≤ l.length ∧ i = .int .i64 (j : Int) ∧ dv = .pointer (some ⟨D, 0, none⟩) ∧ PlAt W wr D wn.heap.size E F M M r ∧ M.ops ≤ j) (fun _ i _ => l.length - (intOf i).toNat)
  case atStart => exact ⟨0, D0, _, _, _, _, by omega, rfl, rfl, HST.out, Nat.le_refl _⟩
  case round =>
    obtain ⟨j, D, E, F, M, r, hj, rfl, rfl, hP, hop⟩ := hrel
    rcases Nat.lt_or_eq_of_le hj with hlt | heq
    · obtain ⟨g, off, c', hva, hlc', hcm', k0, k1, k2⟩ := (hP.law.deeds HDL.out.1).at_ j hlt
      injection hva with e1 e2 e3
      subst e1 e3
      clear e2
      have hgn : (j : Int) < (l.length : Int) := by omega
      have hj0 : (0 : Int) ≤ (j : Int) := by omega
      have HWJ : Hid (wrap64 ((j : Int) + 1) = (j : Int) + 1) := by show _ = _; have := HDL.out.2.1; unfold wrap64; omega
      obtain ⟨x, hx⟩ : ∃ x, l[j] = x := ⟨_, rfl⟩
      have hxm : x ∈ l := by rw [← hx]; exact List.getElem_mem hlt
      rw [hx] at k0 k1 k2
      have hxr := HDL.out.1.rd x hxm
      have hxb := HDL.out.2.2 x hxm
      have hn1 := HDL.out.1.lo x hxm
      have hn2 := HDL.out.1.hi x hxm
      obtain ⟨xo, xi, xb, xv⟩ := x
      simp only at k0 k1 k2 hxr hxb hn1 hn2
      obtain ⟨xa, xn, xc, rfl, HXN, _, _⟩ := hxr.formN
      have hops : M.ops < 4398046511104 := by have := HDL.out.2.1; omega
      have HLT : Hid (j < l.length ∧ M.ops ≤ j ∧ M.ops < 4398046511104 ∧ xb.length ≤ 140737488355328 ∧ -9223372036854775808 ≤ xi ∧ xi ≤ 9223372036854775807) := ⟨hlt, hop, hops, hxb, hn1, hn2⟩
      have HXR := Lib.hid hxr
      have hP1 := hP.more (.cells #[.int .i64 xo, .int .i64 xi, .slice xa xn xc] 42)
      have y0 : (wr.alloc (.cells #[.int .i64 xo, .int .i64 xi, .slice xa xn xc] 42)).cell? ⟨wr.heap.size, 0, none⟩ = some (.int .i64 xo) := cell_of_row _ _ 0 _ _ _ (heap_alloc_new wr _)
      have y1 : (wr.alloc (.cells #[.int .i64 xo, .int .i64 xi, .slice xa xn xc] 42)).cell? ⟨wr.heap.size, 1, none⟩ = some (.int .i64 xi) := cell_of_row _ _ 1 _ _ _ (heap_alloc_new wr _)
      have y2 : (wr.alloc (.cells #[.int .i64 xo, .int .i64 xi, .slice xa xn xc] 42)).cell? ⟨wr.heap.size, 2, none⟩ = some (.slice xa xn xc) := cell_of_row _ _ 2 _ _ _ (heap_alloc_new wr _)
      have hlw : wr.heap.size ≤ wr.heap.size := Nat.le_refl _
      have HNF : Hid (¬ F wr.heap.size) := fun h => by have := hP.law.lt _ h; omega
      obtain ⟨wA, hwA⟩ : ∃ wA, wr.alloc (.cells #[.int .i64 xo, .int .i64 xi, .slice xa xn xc] 42) = wA := ⟨_, rfl⟩
      rw [hwA] at hP1 y0 y1 y2
      have HP := Lib.hid hP1
      clear hP hP1 hxr hxb hn1 hn2 hlt hop hops hxm hx hlc' hcm' hj hlw
      go_upto_region 20 with (fail)
      try rw [hwA]
      clear k0 k1 k2 hwA
      by_cases h0 : xo ≥ 0
      · by_cases h6 : xo ≤ 6
        · have hask := ask_any wA D F M HP.out.law.disk HLT.out.2.2.1 xo xi _ xb (HP.out.law.rdB HXR.out)
          obtain ⟨R, hR⟩ : ∃ R, M.ask xo xi xb = R := ⟨_, rfl⟩
          have HRO : Hid (R.1.ops ≤ M.ops + 1) := by rw [← hR]; exact ask_ops M xo xi xb
          rw [hR] at hask
          have HASK := Lib.hid hask
          clear hask
          go_wp2_with fail
          refine HASK.out.mono ?_
          rintro e w2 ⟨rfl, F', hd2, hc2⟩
          have z0 := chg_cell hc2 y0 HNF.out
          have z1 := chg_cell hc2 y1 HNF.out
          have z2 := chg_cell hc2 y2 HNF.out
          have hP2 := HP.out.ask hd2 hc2
          have hdo := r6do_any w2 M r hP2.rep hP2.lt HLT.out.2.2.1 xo xi h0 h6 _ xb (hP2.rd HXR.out) HLT.out.2.2.2.1
          rw [hR] at hdo
          have HDO := Lib.hid hdo
          have HP2 := Lib.hid hP2
          clear hd2 hc2 hP2 hdo y0 y1 y2 HP HASK hR
          go_wp2_with (first | (refine wpList_load_row rfl _ _ rfl (wn.heap.size) rfl _ _ (0, 0) _ HP2.out.box Try.underlying52 rfl info13 ?_) | fail)
          refine HDO.out.mono ?_
          rintro e w3 ⟨r', rfl, hr3, hb3⟩
          have hP3 := HP2.out.grow hb3
          have hP4 := hP3.more (.cells (rcells R.1 r') 52)
          have hr4 : RRep (UF F' E) (w3.alloc (.cells (rcells R.1 r') 52)) R.1 r' := hr3.below ((Below.refl _ _).alloc (Nat.le_refl _) _)
          have hbx4 := BoxAt.new w3 (rcells R.1 r')
          obtain ⟨w4, hw4⟩ : ∃ w4, World.setRow (w3.alloc (.cells Z13 52)) w3.heap.size (rcells R.1 r') = w4 := ⟨_, rfl⟩
          have hw4' : w3.alloc (.cells (rcells R.1 r') 52) = w4 := by rw [← hw4]; exact (setRow_alloc _ _ _ _).symm
          rw [hw4'] at hP4 hr4 hbx4
          have hP5 := hP4.put hr4
          obtain ⟨w5, hw5⟩ : ∃ w5, World.setRow w4 wn.heap.size (rcells R.1 r') = w5 := ⟨_, rfl⟩
          rw [hw5] at hP5
          have HX3 := Lib.hid (BoxAt.new w3 Z13)
          have HB4 := Lib.hid (And.intro hbx4 (And.intro hP4.box hr3.one))
          have HP5 := Lib.hid hP5
          unfold Z13 at hw4 HX3
          clear hw4' hP3 hP4 hr4 hbx4 hP5 hr3 hb3 HDO z0 z1 z2
          go_wp2_with (first
            | (refine wpList_load_row rfl _ _ rfl (w3.heap.size) rfl _ _ (0, 0) _ HB4.out.1 Try.underlying52 rfl info13 ?_)
            | (refine wpList_store_row rfl _ _ _ rfl (w3.heap.size) _ rfl rfl _ _ HX3.out info13 rfl HB4.out.2.2 ?_; rw [hw4])
            | (refine wpList_store_row rfl _ _ _ rfl (wn.heap.size) _ rfl rfl _ _ HB4.out.2.1 info13 rfl HB4.out.2.2 ?_; rw [hw5]))
          go_roundw
          case rel => exact ⟨j + 1, D, E, F', R.1, r', by have := HLT.out.1; omega, by rw [HWJ.out]; rfl, rfl, HP5.out, by have := HRO.out; have := HLT.out.2.1; omega⟩
          case measure => have := HLT.out.1; rw [HWJ.out]; simp [intOf]; omega
        · by_cases h7 : xo = 7
          · subst h7
            clear h0 h6
            cases hd : M.dead with
            | true =>
              have hrd := d_read_dead wA D F M HP.out.law.disk hd xi
              have hrf := r6read_no wA M r HP.out.rep xi (.inl hd)
              rw [if_pos hd] at hrf
              have HRD := Lib.hid hrd
              have HRF := Lib.hid hrf
              clear hrd hrf hd
              go_wp2_with fail
              refine HRD.out.mono ?_
              rintro e W' ⟨rfl, rfl⟩
              clear HRD
              go_wp2_with (first | (refine wpList_load_row rfl _ _ rfl (wn.heap.size) rfl _ _ (0, 0) _ HP.out.box Try.underlying52 rfl info13 ?_) | fail)
              refine HRF.out.mono ?_
              rintro e w3 ⟨rfl, hb3⟩
              have s0 := str_bytes (F := NoF) (w := w3) (v := .slice none 0 0) (l := []) (RdB.nil _ _)
              have HP3 := Lib.hid (HP.out.grow hb3)
              clear hb3 HRF HP y0 y1 y2
              go_wp2
              go_roundw
              case rel => exact ⟨j + 1, D, E, F, M, r, by have := HLT.out.1; omega, by rw [HWJ.out]; rfl, rfl, HP3.out, by have := HLT.out.2.1; omega⟩
              case measure => have := HLT.out.1; rw [HWJ.out]; simp [intOf]; omega
            | false =>
              by_cases hh : xi < 0 ∨ (¬ xi < 0 ∧ xi ≥ (M.base.length : Int))
              · have hhs : hasB M.base.length xi = false := by unfold hasB; exact decide_eq_false (by omega)
                have hrd := d_read_no wA D F M HP.out.law.disk hd xi hhs
                have hrf := r6read_no wA M r HP.out.rep xi (.inr ⟨hd, hh⟩)
                rw [if_neg (by rw [hd]; decide)] at hrf
                have HRD := Lib.hid hrd
                have HRF := Lib.hid hrf
                clear hrd hrf hd hhs hh
                go_wp2_with fail
                refine HRD.out.mono ?_
                rintro e W' ⟨rfl, rfl⟩
                clear HRD
                go_wp2_with (first | (refine wpList_load_row rfl _ _ rfl (wn.heap.size) rfl _ _ (0, 0) _ HP.out.box Try.underlying52 rfl info13 ?_) | fail)
                refine HRF.out.mono ?_
                rintro e w3 ⟨rfl, hb3⟩
                have s0 := str_bytes (F := NoF) (w := w3) (v := .slice none 0 0) (l := []) (RdB.nil _ _)
                have HP3 := Lib.hid (HP.out.grow hb3)
                clear hb3 HRF HP y0 y1 y2
                go_wp2
                go_roundw
                case rel => exact ⟨j + 1, D, E, F, M, r, by have := HLT.out.1; omega, by rw [HWJ.out]; rfl, rfl, HP3.out, by have := HLT.out.2.1; omega⟩
                case measure => have := HLT.out.1; rw [HWJ.out]; simp [intOf]; omega
              · obtain ⟨i, rfl⟩ := Int.eq_ofNat_of_zero_le (show 0 ≤ xi by omega)
                have hi : i < M.base.length := by omega
                have hrd := d_read wA D F M HP.out.law.disk hd i hi
                have hPl : (M.page i).length = 512 := DM.page_length HP.out.rep.wf i hi
                obtain ⟨P, hPe⟩ : ∃ P, M.page i = P := ⟨_, rfl⟩
                have hP2 := HP.out.more (bobj P)
                have z0 : (wA.alloc (bobj P)).cell? ⟨wr.heap.size, 1, none⟩ = some (.int .i64 i) := below_cell ((Below.refl wA.heap.size wA).alloc (Nat.le_refl _) (bobj P)) y1
                have hrf := r6read_yes (wA.alloc (bobj P)) M r hP2.rep i hd hi
                rw [hPe] at hrd hrf hPl
                have hrdp : RdB NoF (wA.alloc (bobj P)) (.slice (some ⟨wA.heap.size, 0, none⟩) 512 512) P := by
                  have h9 := bobj_rd (F := NoF) wA P P.length rfl (maxLen_ge (by omega)) (noF _)
                  rw [hPl] at h9
                  exact h9
                obtain ⟨w2, hw2⟩ : ∃ w2, wA.alloc (bobj P) = w2 := ⟨_, rfl⟩
                rw [hw2] at hrd hrf hP2 z0 hrdp
                have HRD := Lib.hid hrd
                have HRF := Lib.hid hrf
                have HP2 := Lib.hid (And.intro hP2 hrdp)
                clear hrd hrf hd hh hi hPl hPe hP2 hw2 hrdp
                go_wp2_with fail
                refine HRD.out.mono ?_
                rintro e W' ⟨rfl, rfl⟩
                clear HRD HP y0 y1 y2
                go_wp2_with (first | (refine wpList_load_row rfl _ _ rfl (wn.heap.size) rfl _ _ (0, 0) _ HP2.out.1.box Try.underlying52 rfl info13 ?_) | fail)
                refine HRF.out.mono ?_
                rintro e w3 ⟨x9, n9, k9, rfl, ho9, hb9⟩
                have s1 := str_bytes (RdB.below HP2.out.2 hb9)
                have s2 := str_bytes (OwnB.rd (F := NoF) ho9 (fun _ _ => noF _))
                have HP3 := Lib.hid (HP2.out.1.grow hb9)
                clear hb9 ho9 HRF HP2 z0
                go_wp2
                go_roundw
                case rel => exact ⟨j + 1, D, E, F, M, r, by have := HLT.out.1; omega, by rw [HWJ.out]; rfl, rfl, HP3.out, by have := HLT.out.2.1; omega⟩
                case measure => have := HLT.out.1; rw [HWJ.out]; simp [intOf]; omega
          · by_cases h8 : xo = 8
            · subst h8
              clear h0 h6 h7
              have hfu := d_fuse wA D F M HP.out.law.disk xi HLT.out.2.2.2.2.1 HLT.out.2.2.2.2.2
              have HFU := Lib.hid hfu
              clear hfu
              go_wp2_with fail
              refine HFU.out.mono ?_
              rintro e w2 ⟨rfl, hd2, hc2⟩
              have z1 := chg_cell hc2 y1 HNF.out
              have hP2 := HP.out.ask hd2 hc2
              have b6 : w2.cell? ⟨wn.heap.size, 6, none⟩ = some (.int .i64 M.fuse) := hP2.box.cell 6 rfl
              have f6 : w2.frozen? ⟨wn.heap.size, 6, none⟩ = false := hP2.box.frozen 6
              have hP3 := hP2.fuse xi HLT.out.2.2.2.2.2
              rw [max_if xi] at hP3
              have HP3 := Lib.hid hP3
              clear hd2 hc2 hP2 hP3 HFU HP y0 y1 y2
              go_wp2
              go_roundw
              case rel => exact ⟨j + 1, D, E, F, M.setFuse xi, r, by have := HLT.out.1; omega, by rw [HWJ.out]; rfl, rfl, HP3.out, by have := HLT.out.2.1; show M.ops ≤ _; omega⟩
              case measure => have := HLT.out.1; rw [HWJ.out]; simp [intOf]; omega
            · have s7 : (xo == 7) = false := by simpa using h7
              have s8 : (xo == 8) = false := by simpa using h8
              clear h7 h8
              have hcr := d_crash wA D F M HP.out.law.disk HLT.out.2.2.1 _ xb (HP.out.law.rdB HXR.out)
              have HCR := Lib.hid hcr
              clear hcr
              go_wp2_with fail
              refine HCR.out.mono ?_
              rintro e w2 ⟨rfl, F', hd2, hb2, hF2⟩
              have z2 := below_cell hb2 y2
              have hP2 := HP.out.grow hb2
              have hC2 := HP.out.crash hd2 hb2 hF2
              obtain ⟨D', hD'⟩ : ∃ D', wA.heap.size + 2 = D' := ⟨_, rfl⟩
              rw [hD'] at hC2 ⊢
              have hrc := r6crash w2 M r hC2.rep hC2.lt HLT.out.2.2.1 _ xb (hC2.rd HXR.out)
              obtain ⟨m', hm'⟩ : ∃ m', M.crash xb = m' := ⟨_, rfl⟩
              have HM0 : Hid (m'.ops = 0) := by rw [← hm']; rfl
              unfold CraOut at hrc
              rw [hm'] at hrc hC2
              have HP2 := Lib.hid hP2
              have HC2 := Lib.hid hC2
              have HRC := Lib.hid hrc
              clear hd2 hb2 hF2 hP2 hC2 hrc hD' y0 y1 y2 HP HCR
              go_wp2_with (first | (refine wpList_load_row rfl _ _ rfl (wn.heap.size) rfl _ _ (0, 0) _ HP2.out.box Try.underlying52 rfl info13 ?_) | fail)
              refine HRC.out.mono ?_
              rintro e w3 ⟨r3, rfl, hr3, hb3⟩
              have z3 := below_cell hb3 z2
              have hP3 := HP2.out.grow hb3
              have hC3 := HC2.out.grow hb3
              have hk3 := looks_any w3 D' m' r3 hC3.law.disk hr3
              have HK3 := Lib.hid hk3
              have HP3 := Lib.hid hP3
              have HC3 := Lib.hid hC3
              clear hb3 hP3 hC3 hk3 hr3 HRC HP2 HC2 z2
              go_wp2_with fail
              refine HK3.out.mono ?_
              rintro e w4 ⟨rfl, hb4⟩
              have z4 := below_cell hb4 z3
              have hP4 := HP3.out.grow hb4
              have hC4 := HC3.out.grow hb4
              have hk4 := looks_any w4 D M r hP4.law.disk hP4.rep
              have HK4 := Lib.hid hk4
              have HP4 := Lib.hid hP4
              have HC4 := Lib.hid hC4
              clear hb4 hP4 hC4 hk4 HK3 HP3 HC3 z3
              go_wp2_with (first | (refine wpList_load_row_g (by rfl) _ _ rfl (wn.heap.size) rfl _ _ (0, 0) _ HP4.out.box Try.underlying52 rfl info13 ?_) | fail)
              refine HK4.out.mono ?_
              rintro e w5 ⟨rfl, hb5⟩
              have z5 := below_cell hb5 z4
              have hC5 := HC4.out.grow hb5
              have hrc := r6crash w5 M r hC5.rep hC5.lt HLT.out.2.2.1 _ xb (hC5.rd HXR.out)
              unfold CraOut at hrc
              rw [hm'] at hrc
              have HRC := Lib.hid hrc
              have HC5 := Lib.hid hC5
              clear hb5 hC5 hrc HK4 HP4 HC4 z4
              go_wp2_with (first | (refine wpList_load_row rfl _ _ rfl (wn.heap.size) rfl _ _ (0, 0) _ HC5.out.box Try.underlying52 rfl info13 ?_) | fail)
              refine HRC.out.mono ?_
              rintro e w6 ⟨r6, rfl, hr6, hb6⟩
              have hC6 := HC5.out.grow hb6
              have hC7 := hC6.put hr6
              obtain ⟨w7, hw7⟩ : ∃ w7, World.setRow w6 wn.heap.size (rcells m' r6) = w7 := ⟨_, rfl⟩
              rw [hw7] at hC7
              have HC6 := Lib.hid (And.intro hC6.box hr6.one)
              have HC7 := Lib.hid hC7
              clear hb6 hC6 hC7 hr6 HRC HC5 z5 hm'
              go_wp2_with (first | (refine wpList_store_row rfl _ _ _ rfl (wn.heap.size) _ rfl rfl _ _ HC6.out.1 info13 rfl HC6.out.2 ?_; rw [hw7]) | fail)
              go_roundw
              case rel => exact ⟨j + 1, D', UF F E, F', m', r6, by have := HLT.out.1; omega, by rw [HWJ.out]; rfl, rfl, HC7.out, by rw [HM0.out]; omega⟩
              case measure => have := HLT.out.1; rw [HWJ.out]; simp [intOf]; omega
      · have s7 : (xo == 7) = false := by have h9 : ¬ xo = 7 := (by omega); simpa using h9
        have s8 : (xo == 8) = false := by have h9 : ¬ xo = 8 := (by omega); simpa using h9
        have hcr := d_crash wA D F M HP.out.law.disk HLT.out.2.2.1 _ xb (HP.out.law.rdB HXR.out)
        have HCR := Lib.hid hcr
        clear hcr
        go_wp2_with fail
        refine HCR.out.mono ?_
        rintro e w2 ⟨rfl, F', hd2, hb2, hF2⟩
        have z2 := below_cell hb2 y2
        have hP2 := HP.out.grow hb2
        have hC2 := HP.out.crash hd2 hb2 hF2
        obtain ⟨D', hD'⟩ : ∃ D', wA.heap.size + 2 = D' := ⟨_, rfl⟩
        rw [hD'] at hC2 ⊢
        have hrc := r6crash w2 M r hC2.rep hC2.lt HLT.out.2.2.1 _ xb (hC2.rd HXR.out)
        obtain ⟨m', hm'⟩ : ∃ m', M.crash xb = m' := ⟨_, rfl⟩
        have HM0 : Hid (m'.ops = 0) := by rw [← hm']; rfl
        unfold CraOut at hrc
        rw [hm'] at hrc hC2
        have HP2 := Lib.hid hP2
        have HC2 := Lib.hid hC2
        have HRC := Lib.hid hrc
        clear hd2 hb2 hF2 hP2 hC2 hrc hD' y0 y1 y2 HP HCR
        go_wp2_with (first | (refine wpList_load_row rfl _ _ rfl (wn.heap.size) rfl _ _ (0, 0) _ HP2.out.box Try.underlying52 rfl info13 ?_) | fail)
        refine HRC.out.mono ?_
        rintro e w3 ⟨r3, rfl, hr3, hb3⟩
        have z3 := below_cell hb3 z2
        have hP3 := HP2.out.grow hb3
        have hC3 := HC2.out.grow hb3
        have hk3 := looks_any w3 D' m' r3 hC3.law.disk hr3
        have HK3 := Lib.hid hk3
        have HP3 := Lib.hid hP3
        have HC3 := Lib.hid hC3
        clear hb3 hP3 hC3 hk3 hr3 HRC HP2 HC2 z2
        go_wp2_with fail
        refine HK3.out.mono ?_
        rintro e w4 ⟨rfl, hb4⟩
        have z4 := below_cell hb4 z3
        have hP4 := HP3.out.grow hb4
        have hC4 := HC3.out.grow hb4
        have hk4 := looks_any w4 D M r hP4.law.disk hP4.rep
        have HK4 := Lib.hid hk4
        have HP4 := Lib.hid hP4
        have HC4 := Lib.hid hC4
        clear hb4 hP4 hC4 hk4 HK3 HP3 HC3 z3
        go_wp2_with (first | (refine wpList_load_row_g (by rfl) _ _ rfl (wn.heap.size) rfl _ _ (0, 0) _ HP4.out.box Try.underlying52 rfl info13 ?_) | fail)
        refine HK4.out.mono ?_
        rintro e w5 ⟨rfl, hb5⟩
        have z5 := below_cell hb5 z4
        have hC5 := HC4.out.grow hb5
        have hrc := r6crash w5 M r hC5.rep hC5.lt HLT.out.2.2.1 _ xb (hC5.rd HXR.out)
        unfold CraOut at hrc
        rw [hm'] at hrc
        have HRC := Lib.hid hrc
        have HC5 := Lib.hid hC5
        clear hb5 hC5 hrc HK4 HP4 HC4 z4
        go_wp2_with (first | (refine wpList_load_row rfl _ _ rfl (wn.heap.size) rfl _ _ (0, 0) _ HC5.out.box Try.underlying52 rfl info13 ?_) | fail)
        refine HRC.out.mono ?_
        rintro e w6 ⟨r6, rfl, hr6, hb6⟩
        have hC6 := HC5.out.grow hb6
        have hC7 := hC6.put hr6
        obtain ⟨w7, hw7⟩ : ∃ w7, World.setRow w6 wn.heap.size (rcells m' r6) = w7 := ⟨_, rfl⟩
        rw [hw7] at hC7
        have HC6 := Lib.hid (And.intro hC6.box hr6.one)
        have HC7 := Lib.hid hC7
        clear hb6 hC6 hC7 hr6 HRC HC5 z5 hm'
        go_wp2_with (first | (refine wpList_store_row rfl _ _ _ rfl (wn.heap.size) _ rfl rfl _ _ HC6.out.1 info13 rfl HC6.out.2 ?_; rw [hw7]) | fail)
        go_roundw
        case rel => exact ⟨j + 1, D', UF F E, F', m', r6, by have := HLT.out.1; omega, by rw [HWJ.out]; rfl, rfl, HC7.out, by rw [HM0.out]; omega⟩
        case measure => have := HLT.out.1; rw [HWJ.out]; simp [intOf]; omega
    · subst heq
      have hlk := looks_any wr D M r hP.law.disk hP.rep
      have HB := Lib.hid (And.intro hP.box (And.intro hP.law.below hP.rep))
      have HLK := Lib.hid hlk
      clear hlk hP hj hop
      go_wp2_with (first | (refine wpList_load_row rfl _ _ rfl (wn.heap.size) rfl _ _ (0, 0) _ HB.out.1 Try.underlying52 rfl info13 ?_) | fail)
      refine HLK.out.mono ?_
      rintro e w9 ⟨rfl, hb9⟩
      go_wp2
      go_ret
      exact ⟨rfl, HB.out.2.1.trans (hb9.mono HB.out.2.1.size)⟩
end Mun
