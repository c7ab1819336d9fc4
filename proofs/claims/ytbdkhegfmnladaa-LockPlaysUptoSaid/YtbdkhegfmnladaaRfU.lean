/- The reference's Free: its walk. -/
import Derived.Test.YtbdkhegfmnladaaRfT
set_option maxRecDepth 100000
set_option linter.unusedVariables false
set_option linter.unusedSimpArgs false
namespace Mun
open Go Go.RowKit
open Go.Proofs

set_option maxHeartbeats 8000000 in
theorem r14_free {F : Foot} (w : World) (v : Value) (X : List LX) (A : AS) (h : TabF F w v X) (hF : ∀ k, F k → k < w.heap.size) (hr : RelX X A) (hsz : XSz X 1048576) (o : Int) :
    Calls Try.prog 25 #[.agg #[v], .int .u64 o] w (FrPostX F w X A o) := by
  obtain ⟨ha, hc, rfl, -, -⟩ := h.row.form
  obtain ⟨n, hn⟩ : ∃ n, X.length = n := ⟨_, rfl⟩
  rw [hn] at h ⊢
  obtain ⟨wb, hwb⟩ : ∃ wb, (w.alloc (.cells #[.slice ha n hc] 51)).alloc (.cells #[.slice none 0 0] 51) = wb := ⟨_, rfl⟩
  have hbb : Below w.heap.size w wb := by rw [← hwb]; exact below_more (below_more (Below.refl _ _) _) _
  have s1 : (w.alloc (.cells #[.slice ha n hc] 51)).heap.size = w.heap.size + 1 := World.size_alloc _ _
  have kb0 : wb.heap[w.heap.size]? = some (.cells #[.slice ha n hc] 51 (0, 0)) := by
    rw [← hwb, heap_alloc_old _ _ (by rw [s1]; omega)]; exact heap_alloc_new w _
  have kb1 : wb.heap[w.heap.size + 1]? = some (.cells #[.slice none 0 0] 51 (0, 0)) := by
    rw [← hwb, ← s1]; exact heap_alloc_new _ _
  have sb : wb.heap.size = w.heap.size + 1 + 1 := by rw [← hwb, World.size_alloc, s1]
  have hcp := r14_copied wb _ X (h.below hbb) hsz
  have HCP := Lib.hid hcp
  have HW := Lib.hid (And.intro hbb (And.intro kb0 (And.intro kb1 sb)))
  have HX := Lib.hid (And.intro hn (And.intro hr (And.intro hsz hF)))
  clear h hn hr hsz hF hbb s1 kb0 kb1 sb hcp
  go_enter Try.func25, Try.ntmps25
  go_wp2_with (first | (refine wpList_load_row rfl _ _ rfl w.heap.size rfl _ _ (0, 0) _ HW.out.2.1 Try.underlying51 rfl infoT ?_) | fail)
  refine HCP.out.mono ?_
  rintro e w4 ⟨v1, X1, rfl, hp1, hto, hb4⟩
  obtain ⟨a1, c1, rfl⟩ := ownsRow_form hto.row
  obtain ⟨n1, hn1⟩ : ∃ n1, X1.length = n1 := ⟨_, rfl⟩
  have hnn : n1 = n := by rw [← hn1, pX_len hp1]; exact HX.out.1
  rw [hn1] at hto ⊢
  obtain ⟨w5, hw5⟩ : ∃ w5, w4.setRow w.heap.size #[.slice a1 n1 c1] = w5 := ⟨_, rfl⟩
  have k40 := (hb4.block _ (lt_of_block HW.out.2.1)).trans HW.out.2.1
  have k41 := (hb4.block _ (lt_of_block HW.out.2.2.1)).trans HW.out.2.2.1
  have hoth : ∀ k, k ≠ w.heap.size → w5.heap[k]? = w4.heap[k]? := fun k hk => by rw [← hw5]; exact setRow_otherL _ _ _ _ hk
  have k50 : w5.heap[w.heap.size]? = some (.cells #[.slice a1 n1 c1] 51 (0, 0)) := by rw [← hw5]; exact setRow_heap w4 _ _ _ _ _ k40
  have k51 : w5.heap[w.heap.size + 1]? = _ := (hoth _ (by omega)).trans k41
  have hbw4 := HW.out.1.trans (hb4.mono HW.out.1.size)
  have hb5 : Below w.heap.size w w5 := ⟨by rw [← hw5]; exact hbw4.os, by rw [← hw5]; exact hbw4.tape, by rw [← hw5]; exact hbw4.output, by rw [← hw5, setRow_size]; exact hbw4.size, fun k hk => by rw [hoth k (by omega)]; exact hbw4.block k hk⟩
  have hto5 : TabO (w.heap.size + 1 + 1) w5 (.slice a1 n1 c1) X1 := by
    rw [HW.out.2.2.2] at hto
    exact hto.keep (fun k hk hB => hoth k (by omega))
  have htf5 := hto5.tabF (F := oldF w) (fun k hk h9 => by have h9' : k < w.heap.size := h9; omega)
  have hst : FoR w w5 a1 n1 c1 X1 (.slice none 0 0) [] := ⟨hb5, k50, k51, by have h9 := hto5.row; rw [hn1] at h9; exact h9, htf5.hr, htf5.qr, World.ownsRow_nil _ _ _ _, hn1⟩
  have HST := Lib.hid (And.intro hst (And.intro (FrP.start HX.out.2.1 hp1 o) hnn))
  have K4 := Lib.hid k40
  have hlim : n1 ≤ 1048576 := by rw [hnn, ← HX.out.1]; exact HX.out.2.2.1.ln
  have HL := Lib.hid (And.intro hlim HX.out.2.2.1.tt)
  clear hp1 hto hb4 hn1 hnn k40 k41 hoth k50 k51 hbw4 hb5 hto5 htf5 hst HCP hwb hlim
  go_wp2_with (first | (refine wpList_store_row rfl _ _ _ rfl w.heap.size _ rfl rfl _ _ K4.out infoT rfl (by simp [Value.oneCell']) ?_; rw [hw5]) | fail)
  clear hw5 K4
  go_loopw [6, 7] (fun ov_ iv wr => ∃ (i : Nat) (Xi : List LX) (l : List (Int × Int)) (oa : Option Addr) (on oc : Nat), iv = .int .i64 i ∧ i ≤ n1 ∧ ov_ = .slice oa on oc ∧ l.length = on ∧ FoR w wr a1 n1 c1 Xi (.slice oa on oc) l ∧ FrP X A o i Xi l) (fun _ iv _ => n1 - (Go.RowKit.intOf iv).toNat)
  case atStart => exact ⟨0, X1, [], none, 0, 0, rfl, Nat.zero_le _, rfl, rfl, HST.out.1, HST.out.2.1⟩
  case round =>
    obtain ⟨i, Xi, l, oa, on, oc, rfl, hin, rfl, hon, hR, hP⟩ := hrel
    have z0 : wr.cell? ⟨w.heap.size, 0, none⟩ = some (.slice a1 n1 c1) := cell_of_row wr w.heap.size 0 _ _ _ hR.k0
    by_cases hlt : i < n1
    · have hil : i < Xi.length := by rw [hR.ln]; exact hlt
      obtain ⟨g, c9, e9, hBg, -, -⟩ := ownsRow_some hR.row (by omega)
      injection e9 with e1 e2 e3
      subst e1
      clear e2 e3
      obtain ⟨x, hx⟩ : ∃ x, Xi[i]? = some x := ⟨_, List.getElem?_eq_getElem hil⟩
      have hxm := List.mem_of_getElem? hx
      have hgh := hR.hr x hxm
      have hgq := hR.qr x hxm
      obtain ⟨pa, pc, hpv, -, -⟩ := hgh.form
      obtain ⟨qa, qc, hqv, -, -⟩ := hgq.form
      obtain ⟨pn, hpn⟩ : ∃ pn, x.hs.length = pn := ⟨_, rfl⟩
      obtain ⟨qn, hqn⟩ : ∃ qn, x.qs.length = qn := ⟨_, rfl⟩
      rw [hpn] at hpv
      rw [hqn] at hqv
      have htx := tot_mem hxm
      have hlm : pn ≤ 1048576 ∧ qn ≤ 1048576 := by have := HL.out.2; have := hP.tt; omega
      obtain ⟨j0, j1, j2⟩ := lx_cells hR.row hx hR.ln
      rw [hpv] at j1 hgh
      rw [hqv] at j2 hgq
      have hw1 := r14_without wr pa pc pn x.hs hgh hpn hlm.1 o
      obtain ⟨bh, hbh⟩ : ∃ bh, decide (o ∈ x.hs.map (·.1)) = bh := ⟨_, rfl⟩
      rw [hbh] at hw1
      have HW1 := Lib.hid hw1
      have hii : (i : Int) < (n1 : Int) := by omega
      have hi0 : (0 : Int) ≤ (i : Int) := by omega
      have HWJ : Hid (wrap64 ((i : Int) + 1) = ((i + 1 : Nat) : Int)) := by show _ = _; have := HL.out.1; unfold wrap64; omega
      have HR := Lib.hid (And.intro hR (And.intro hP (And.intro hx (And.intro hlt (And.intro hon hBg)))))
      have HN := Lib.hid (And.intro hpv (And.intro hqv (And.intro hpn (And.intro hqn (And.intro hlm (And.intro hgq hbh))))))
      clear hR hP hx hlt hon hBg hil hxm hgh hgq hpv hqv hpn hqn htx hlm j0 j2 hw1 hbh hin
      go_wp2_with fail
      clear z0 j1
      refine HW1.out.mono ?_
      rintro e w4 ⟨ra, rc, rfl, hoh, hbh4⟩
      have hR4 := HR.out.1.below hbh4
      have z0 : w4.cell? ⟨w.heap.size, 0, none⟩ = some (.slice (some ⟨g, 0, none⟩) n1 c1) := cell_of_row w4 w.heap.size 0 _ _ _ hR4.k0
      obtain ⟨-, -, j2⟩ := lx_cells hR4.row HR.out.2.2.1 hR4.ln
      rw [HN.out.2.1] at j2
      have hw2 := r14_without w4 qa qc qn x.qs (HN.out.2.2.2.2.2.1.below hbh4) HN.out.2.2.2.1 HN.out.2.2.2.2.1.2 o
      obtain ⟨bq, hbq⟩ : ∃ bq, decide (o ∈ x.qs.map (·.1)) = bq := ⟨_, rfl⟩
      rw [hbq] at hw2
      have HW2 := Lib.hid hw2
      have HB4 := Lib.hid (And.intro hoh (And.intro hbh4 hbq))
      clear hoh hbh4 hR4 hw2 hbq HW1
      go_wp2_with fail
      clear z0 j2
      refine HW2.out.mono ?_
      rintro e w6 ⟨sa, sc, rfl, hoq, hbq6⟩
      obtain ⟨⟨u1, d1⟩, f1, ⟨u2, d2⟩, f2, kb, hI⟩ := HR.out.1.into HR.out.2.2.1 HB4.out.2.1 HB4.out.1 hbq6 hoq
      obtain ⟨hl9, hhl⟩ : ∃ hl9, (x.hs.filter (neO o)).length = hl9 := ⟨_, rfl⟩
      obtain ⟨ql9, hql⟩ : ∃ ql9, (x.qs.filter (neO o)).length = ql9 := ⟨_, rfl⟩
      rw [hhl] at d2 f2 kb hI ⊢
      rw [hql] at hI ⊢
      obtain ⟨w7, hw7⟩ : ∃ w7, w6.setCell ⟨g, i * 3 + 1, none⟩ (.slice ra hl9 rc) = w7 := ⟨_, rfl⟩
      rw [hw7] at d2 f2 kb hI
      obtain ⟨w8, hw8⟩ : ∃ w8, w7.setCell ⟨g, i * 3 + 2, none⟩ (.slice sa ql9 sc) = w8 := ⟨_, rfl⟩
      rw [hw8] at hI
      have z6 : w6.cell? ⟨w.heap.size, 0, none⟩ = some (.slice (some ⟨g, 0, none⟩) n1 c1) := cell_of_row w6 w.heap.size 0 _ _ _ ((HR.out.1.below HB4.out.2.1).below hbq6).k0
      have z7 : w7.cell? ⟨w.heap.size, 0, none⟩ = some (.slice (some ⟨g, 0, none⟩) n1 c1) := cell_of_row w7 w.heap.size 0 _ _ _ kb
      have hQ0 := FrQ.start HR.out.2.1 HR.out.2.2.1 (.slice ra hl9 rc) (.slice sa ql9 sc)
      obtain ⟨bz, hbz⟩ : ∃ bz, wr.heap.size = bz := ⟨_, rfl⟩
      rw [hbz] at hI
      have HI := Lib.hid (And.intro hI (And.intro hQ0 (And.intro hhl hql)))
      clear hbz
      have HBQ := Lib.hid HB4.out.2.2
      clear hI hQ0 hhl hql kb hoq hbq6 HW2
      go_upto_region 10 with (fail)
      go_cut [61] (fun sv wx => wx = w8 ∧ ∃ bb, sv = .bool bb ∧ (bb = true → bh = false ∧ bq = false) ∧ (bb = false → bh = true ∨ bq = true))
      case first =>
        clear z6 z7 d1 d2 f1 f2 hw7 hw8
        cases bh <;> cases bq <;> (go_wp2; go_meet; first | exact ⟨by first | rfl | trivial, _, rfl, by simp, by simp⟩)
      case rest =>
        obtain ⟨hwc, bb, rfl, hb1, hb2⟩ := hcut
        rw [hwc]
        clear hwc z6 z7 d1 d2 f1 f2 hw7 hw8
        cases bb with
        | true =>
          obtain ⟨rfl, rfl⟩ := hb1 rfl
          have hfin : Hid (FoR w w8 (some ⟨g, 0, none⟩) n1 c1 (Xi.set i ⟨x.name, x.hs.filter (neO o), x.qs.filter (neO o), .slice ra hl9 rc, .slice sa ql9 sc⟩) (.slice oa on oc) l ∧ FrP X A o (i + 1) (Xi.set i ⟨x.name, x.hs.filter (neO o), x.qs.filter (neO o), .slice ra hl9 rc, .slice sa ql9 sc⟩) l) :=
            ⟨HI.out.1.out_, HR.out.2.1.skip HR.out.2.2.1 HN.out.2.2.2.2.2.2 HBQ.out _ _⟩
          clear hb1 hb2
          go_wp2
          go_roundw
          case rel => exact ⟨i + 1, _, l, oa, on, oc, by rw [HWJ.out], HR.out.2.2.2.1, rfl, HR.out.2.2.2.2.1, hfin.out⟩
          case measure => exact meas_up HWJ.out HR.out.2.2.2.1
        | false =>
          have htch : A.touched o x.name := HR.out.2.1.touched HR.out.2.2.1 ((hb2 rfl).elim (fun e => .inl (HN.out.2.2.2.2.2.2.trans e)) (fun e => .inr (HBQ.out.trans e)))
          have HT := Lib.hid htch
          clear hb1 hb2 htch
          obtain ⟨wq, hwq⟩ : ∃ wq, w8 = wq := ⟨_, rfl⟩
          rw [hwq] at HI ⊢
          clear hwq
          go_wp2_with fail
          go_loopw [6] (fun ov_ wr => ∃ (y : LX) (pre : List (Int × Int)) (oa : Option Addr) (on oc : Nat), ov_ = .slice oa on oc ∧ (l ++ pre).length = on ∧ FiR w wr g n1 c1 Xi i x bz (.slice oa on oc) (l ++ pre) y ∧ FrQ X A o i Xi l x y pre) (fun ov_ _ => 2000000 - slN ov_)
          case atStart => exact ⟨_, [], oa, on, oc, rfl, by rw [List.append_nil]; exact HR.out.2.2.2.2.1, by rw [List.append_nil]; exact HI.out.1, HI.out.2.1⟩
          case round =>
            clear HI
            obtain ⟨y, pre, oa, on, oc, rfl, hon, hI, hQ⟩ := hrel
            obtain ⟨ya, yc, hyv⟩ := ownsRow_form hI.hi
            obtain ⟨yqa, yqc, hyq, hyqc, -⟩ := hI.qi.form
            obtain ⟨yn, hyn⟩ : ∃ yn, y.hs.length = yn := ⟨_, rfl⟩
            obtain ⟨yqn, hyqn⟩ : ∃ yqn, y.qs.length = yqn := ⟨_, rfl⟩
            rw [hyn] at hyv
            rw [hyqn] at hyq hyqc
            obtain ⟨nm, hnm⟩ : ∃ nm, y.name = nm := ⟨_, rfl⟩
            have htx := tot_mem (List.mem_of_getElem? HR.out.2.2.1)
            have hlm : yn ≤ 1048576 ∧ yqn ≤ 1048576 ∧ on + yqn ≤ 1048576 := by
              have h1 := HL.out.2
              have h2 := HR.out.2.1.tt
              have h3 := hQ.sz
              have h4 := hQ.sq
              have h5 := HR.out.2.1.tq
              have h6 := totQ_mem (List.mem_of_getElem? HR.out.2.2.1)
              have h7 := hon
              rw [List.length_append] at h7
              omega
            have HI := Lib.hid (And.intro hI (And.intro hQ (And.intro hyv (And.intro hyq (And.intro hyn (And.intro hyqn (And.intro hnm (And.intro hlm (And.intro hon hyqc)))))))))
            clear hI hQ hyv hyq hyn hyqn hnm htx hlm hon hyqc
            have hcel : ∀ W, FiR w W g n1 c1 Xi i x bz (.slice oa on oc) (l ++ pre) y → W.cell? ⟨w.heap.size, 0, none⟩ = some (.slice (some ⟨g, 0, none⟩) n1 c1) ∧ W.cell? ⟨g, i * 3, none⟩ = some (.string nm) ∧ W.cell? ⟨g, i * 3 + 1, none⟩ = some (.slice ya yn yc) ∧ W.cell? ⟨g, i * 3 + 2, none⟩ = some (.slice yqa yqn yqc) := fun W hW => by
              obtain ⟨x0, x1, x2⟩ := lx_cells hW.row hW.yat hW.yln
              rw [HI.out.2.2.2.2.2.2.1] at x0
              rw [HI.out.2.2.1] at x1
              rw [HI.out.2.2.2.1] at x2
              exact ⟨cell_of_row W _ 0 _ _ _ hW.k0, x0, x1, x2⟩
            have HC := Lib.hid hcel
            clear hcel
            go_upto_region 11 with (fail)
            go_cut [95] (fun sv wx => ∃ bb, sv = .bool bb ∧ FiR w wx g n1 c1 Xi i x bz (.slice oa on oc) (l ++ pre) y ∧ (bb = true → ∃ a qs, y.qs = a :: qs ∧ fitsP y.hs a.1 a.2 = true) ∧ (bb = false → y.qs = [] ∨ ∃ a qs, y.qs = a :: qs ∧ fitsP y.hs a.1 a.2 = false))
            case first =>
              have hbd : Below wr.heap.size wr wr.drew := below_drewN (Below.refl _ _) 1
              cases hqs : y.qs with
              | nil =>
                obtain ⟨z0, z1, z2, z3⟩ := HC.out wr HI.out.1
                have hq0 : yqn = 0 := by rw [← HI.out.2.2.2.2.2.1, hqs]; rfl
                subst hq0
                have HQS := Lib.hid hqs
                clear hqs hbd z1 z2
                go_quiet (fail)
                go_wp2
                go_meet
                exact ⟨false, rfl, HI.out.1.below (below_drewN (Below.refl _ _) _), (fun h => by cases h), fun _ => .inl HQS.out⟩
              | cons a rest =>
                have hId := HI.out.1.below hbd
                have hqi := hId.qi
                rw [HI.out.2.2.2.1, hqs] at hqi
                have hqi2 : GAt NoF wr.drew (.slice yqa yqn yqc) (a :: rest) := hqi.mono (fun _ _ h => h.elim)
                have hln : (a :: rest).length = yqn := by rw [← hqs]; exact HI.out.2.2.2.2.2.1
                obtain ⟨qg, qo, rfl, hqo⟩ := hqi2.at_ hln 0 (by simp)
                obtain ⟨ca, cb⟩ := hqo wr.drew (Below.refl _ _)
                simp only [Nat.zero_mul, Nat.add_zero, List.getElem_cons_zero] at ca cb
                have hgh : GAt NoF wr.drew (.slice ya yn yc) y.hs := by
                  have h9 := GAt.of_own (F := NoF) hId.hi (fun _ _ => noF _)
                  rw [HI.out.2.2.1] at h9; exact h9
                have hft := r14_fits wr.drew nm (.slice ya yn yc) (.slice (some ⟨qg, qo, none⟩) yqn yqc) y.hs hgh (by have := HI.out.2.2.2.2.1; have := HI.out.2.2.2.2.2.2.2.1.1; omega) a.1 a.2
                obtain ⟨fb, hfb⟩ : ∃ fb, fitsP y.hs a.1 a.2 = fb := ⟨_, rfl⟩
                rw [hfb] at hft
                have HFT := Lib.hid hft
                obtain ⟨z0, z1, z2, z3⟩ := HC.out wr.drew hId
                have hS0 : wr.drew.cell? ⟨w.heap.size, 0, none⟩ = some (.slice (some ⟨g, 0, none⟩) n1 c1) ∧ wr.drew.cell? ⟨g, i * 3, none⟩ = some (.string nm) ∧ wr.drew.cell? ⟨g, i * 3 + 1, none⟩ = some (.slice ya yn yc) ∧ wr.drew.cell? ⟨g, i * 3 + 2, none⟩ = some (.slice (some ⟨qg, qo, none⟩) yqn yqc) ∧ wr.drew.cell? ⟨qg, qo, none⟩ = some (.int .u64 a.1) ∧ wr.drew.cell? ⟨qg, qo + 1, none⟩ = some (.int .i64 a.2) := ⟨z0, z1, z2, z3, ca, cb⟩
                have hqn0 : (0 : Int) < (yqn : Int) := by have h9 : rest.length + 1 = yqn := hln; omega
                have hqn1 : decide (0 < yqn) = true := by simp; omega
                have hqn2 : 0 < yqn := by omega
                have HN2 := Lib.hid (And.intro hqs (And.intro hfb hId))
                clear hqs hId hqi hqi2 hln hqo ca cb hgh hft hfb z0 z1 z2 z3 hbd
                refine wp_region_U (fun W => W.cell? ⟨w.heap.size, 0, none⟩ = some (.slice (some ⟨g, 0, none⟩) n1 c1) ∧ W.cell? ⟨g, i * 3, none⟩ = some (.string nm) ∧ W.cell? ⟨g, i * 3 + 1, none⟩ = some (.slice ya yn yc) ∧ W.cell? ⟨g, i * 3 + 2, none⟩ = some (.slice (some ⟨qg, qo, none⟩) yqn yqc) ∧ W.cell? ⟨qg, qo, none⟩ = some (.int .u64 a.1) ∧ W.cell? ⟨qg, qo + 1, none⟩ = some (.int .i64 a.2)) [] (by kernel_rfl) ?_
                refine wpAnyU_take (i := 0) [1, 3, 4, 5, 6, 7, 8, 9, 10, 11, 12, 13, 14, 15, 16, 17, 18, 19, 20, 21, 22, 23, 24, 25, 26, 27, 28, 29, 30, 31, 32, 33] rfl (by as_aux_lemma => kernel_rfl) (by as_aux_lemma => kernel_rfl) (by as_aux_lemma => kernel_rfl) (by as_aux_lemma => kernel_rfl) (by as_aux_lemma => kernel_rfl) (by as_aux_lemma => kernel_rfl) (fun _ _ _ h => h) (Or.inl ⟨by rfl, (by intro W hSW; (try dsimp only at hSW); (try go_split_ands); go_simp <;> with_reducible rfl)⟩) hS0 ?_
                try simp only [Act.put, List.getElem_toArray, List.getElem_cons_succ, List.getElem_cons_zero, List.setIfInBounds_toArray, List.set_cons_zero, List.set_cons_succ]
                refine wpAnyU_take (i := 1) [3, 4, 5, 6, 7, 8, 9, 10, 11, 12, 13, 14, 15, 16, 17, 18, 19, 20, 21, 22, 23, 24, 25, 26, 27, 28, 29, 30, 31, 32, 33] rfl (by as_aux_lemma => kernel_rfl) (by as_aux_lemma => kernel_rfl) (by as_aux_lemma => kernel_rfl) (by as_aux_lemma => kernel_rfl) (by as_aux_lemma => kernel_rfl) (by as_aux_lemma => kernel_rfl) (fun _ _ _ h => h) (Or.inl ⟨by rfl, (by intro W hSW; (try dsimp only at hSW); (try go_split_ands); go_simp <;> with_reducible rfl)⟩) hS0 ?_
                try simp only [Act.put, List.getElem_toArray, List.getElem_cons_succ, List.getElem_cons_zero, List.setIfInBounds_toArray, List.set_cons_zero, List.set_cons_succ]
                refine wpAnyU_take (i := 2) [3, 4, 5, 6, 7, 8, 9, 10, 11, 12, 13, 14, 15, 16, 17, 18, 19, 20, 21, 22, 23, 24, 25, 26, 27, 28, 29, 30, 31, 32, 33] rfl (by as_aux_lemma => kernel_rfl) (by as_aux_lemma => kernel_rfl) (by as_aux_lemma => kernel_rfl) (by as_aux_lemma => kernel_rfl) (by as_aux_lemma => kernel_rfl) (by as_aux_lemma => kernel_rfl) (fun _ _ _ h => h) (Or.inl ⟨by rfl, (by intro W hSW; (try dsimp only at hSW); (try go_split_ands); go_simp <;> with_reducible rfl)⟩) hS0 ?_
                try simp only [Act.put, List.getElem_toArray, List.getElem_cons_succ, List.getElem_cons_zero, List.setIfInBounds_toArray, List.set_cons_zero, List.set_cons_succ]
                refine wpAnyU_take (i := 3) [4, 5, 6, 7, 8, 9, 10, 11, 12, 13, 14, 15, 16, 17, 18, 19, 20, 21, 22, 23, 24, 25, 26, 27, 28, 29, 30, 31, 32, 33] rfl (by as_aux_lemma => kernel_rfl) (by as_aux_lemma => kernel_rfl) (by as_aux_lemma => kernel_rfl) (by as_aux_lemma => kernel_rfl) (by as_aux_lemma => kernel_rfl) (by as_aux_lemma => kernel_rfl) (fun _ _ _ h => h) (Or.inl ⟨by rfl, (by intro W hSW; (try dsimp only at hSW); (try go_split_ands); go_simp <;> with_reducible rfl)⟩) hS0 ?_
                try simp only [Act.put, List.getElem_toArray, List.getElem_cons_succ, List.getElem_cons_zero, List.setIfInBounds_toArray, List.set_cons_zero, List.set_cons_succ]
                refine wpAnyU_take (i := 4) [5, 6, 7, 8, 9, 10, 11, 12, 13, 14, 15, 16, 17, 18, 19, 20, 21, 22, 23, 24, 25, 26, 27, 28, 29, 30, 31, 32, 33] rfl (by as_aux_lemma => kernel_rfl) (by as_aux_lemma => kernel_rfl) (by as_aux_lemma => kernel_rfl) (by as_aux_lemma => kernel_rfl) (by as_aux_lemma => kernel_rfl) (by as_aux_lemma => kernel_rfl) (fun _ _ _ h => h) (Or.inl ⟨by rfl, (by intro W hSW; (try dsimp only at hSW); (try go_split_ands); go_simp <;> with_reducible rfl)⟩) hS0 ?_
                try simp only [Act.put, List.getElem_toArray, List.getElem_cons_succ, List.getElem_cons_zero, List.setIfInBounds_toArray, List.set_cons_zero, List.set_cons_succ]
                refine wpAnyU_take (i := 5) [6, 7, 8, 9, 10, 11, 12, 13, 14, 15, 16, 17, 18, 19, 20, 21, 22, 23, 24, 25, 26, 27, 28, 29, 30, 31, 32, 33] rfl (by as_aux_lemma => kernel_rfl) (by as_aux_lemma => kernel_rfl) (by as_aux_lemma => kernel_rfl) (by as_aux_lemma => kernel_rfl) (by as_aux_lemma => kernel_rfl) (by as_aux_lemma => kernel_rfl) (fun _ _ _ h => h) (Or.inl ⟨by rfl, (by intro W hSW; (try dsimp only at hSW); (try go_split_ands); go_simp <;> with_reducible rfl)⟩) hS0 ?_
                try simp only [Act.put, List.getElem_toArray, List.getElem_cons_succ, List.getElem_cons_zero, List.setIfInBounds_toArray, List.set_cons_zero, List.set_cons_succ]
                refine wpAnyU_take (i := 6) [7, 8, 9, 10, 11, 12, 13, 14, 15, 16, 17, 18, 19, 20, 21, 22, 23, 24, 25, 26, 27, 28, 29, 30, 31, 32, 33] rfl (by as_aux_lemma => kernel_rfl) (by as_aux_lemma => kernel_rfl) (by as_aux_lemma => kernel_rfl) (by as_aux_lemma => kernel_rfl) (by as_aux_lemma => kernel_rfl) (by as_aux_lemma => kernel_rfl) (fun _ _ _ h => h) (Or.inl ⟨by rfl, (by intro W hSW; (try dsimp only at hSW); (try go_split_ands); go_simp <;> with_reducible rfl)⟩) hS0 ?_
                try simp only [Act.put, List.getElem_toArray, List.getElem_cons_succ, List.getElem_cons_zero, List.setIfInBounds_toArray, List.set_cons_zero, List.set_cons_succ]
                refine wpAnyU_take (i := 7) [8, 9, 10, 11, 12, 13, 14, 15, 16, 17, 18, 19, 20, 21, 22, 23, 24, 25, 26, 27, 28, 29, 30, 31, 32, 33] rfl (by as_aux_lemma => kernel_rfl) (by as_aux_lemma => kernel_rfl) (by as_aux_lemma => kernel_rfl) (by as_aux_lemma => kernel_rfl) (by as_aux_lemma => kernel_rfl) (by as_aux_lemma => kernel_rfl) (fun _ _ _ h => h) (Or.inl ⟨by rfl, (by intro W hSW; (try dsimp only at hSW); (try go_split_ands); go_simp <;> with_reducible rfl)⟩) hS0 ?_
                try simp only [Act.put, List.getElem_toArray, List.getElem_cons_succ, List.getElem_cons_zero, List.setIfInBounds_toArray, List.set_cons_zero, List.set_cons_succ]
                refine wpAnyU_take (i := 8) [9, 10, 11, 12, 13, 14, 15, 16, 17, 18, 19, 20, 21, 22, 23, 24, 25, 26, 27, 28, 29, 30, 31, 32, 33] rfl (by as_aux_lemma => kernel_rfl) (by as_aux_lemma => kernel_rfl) (by as_aux_lemma => kernel_rfl) (by as_aux_lemma => kernel_rfl) (by as_aux_lemma => kernel_rfl) (by as_aux_lemma => kernel_rfl) (fun _ _ _ h => h) (Or.inl ⟨by rfl, (by intro W hSW; (try dsimp only at hSW); (try go_split_ands); go_simp <;> with_reducible rfl)⟩) hS0 ?_
                try simp only [Act.put, List.getElem_toArray, List.getElem_cons_succ, List.getElem_cons_zero, List.setIfInBounds_toArray, List.set_cons_zero, List.set_cons_succ]
                refine wpAnyU_take (i := 9) [10, 12, 13, 32, 33] rfl (by as_aux_lemma => kernel_rfl) (by as_aux_lemma => kernel_rfl) (by as_aux_lemma => kernel_rfl) (by as_aux_lemma => kernel_rfl) (by as_aux_lemma => kernel_rfl) (by as_aux_lemma => kernel_rfl) (fun _ _ _ h => h) (by first | exact Or.inl ⟨by rfl, (by intro W hSW; (try dsimp only at hSW); (try go_split_ands); go_simp <;> with_reducible rfl)⟩ | exact Or.inr ⟨by rfl, rfl⟩) hS0 ?_
                try simp only [Act.put, List.getElem_toArray, List.getElem_cons_succ, List.getElem_cons_zero, List.setIfInBounds_toArray, List.set_cons_zero, List.set_cons_succ]
                refine wpAnyU_take (i := 10) [12, 13, 32, 33] rfl (by as_aux_lemma => kernel_rfl) (by as_aux_lemma => kernel_rfl) (by as_aux_lemma => kernel_rfl) (by as_aux_lemma => kernel_rfl) (by as_aux_lemma => kernel_rfl) (by as_aux_lemma => kernel_rfl) (fun _ _ _ h => h) (by first | exact Or.inl ⟨by rfl, (by intro W hSW; (try dsimp only at hSW); (try go_split_ands); go_simp <;> with_reducible rfl)⟩ | exact Or.inr ⟨by rfl, rfl⟩) hS0 ?_
                try simp only [Act.put, List.getElem_toArray, List.getElem_cons_succ, List.getElem_cons_zero, List.setIfInBounds_toArray, List.set_cons_zero, List.set_cons_succ]
                refine wpAnyU_take (i := 11) [12, 13, 32, 33] rfl (by as_aux_lemma => kernel_rfl) (by as_aux_lemma => kernel_rfl) (by as_aux_lemma => kernel_rfl) (by as_aux_lemma => kernel_rfl) (by as_aux_lemma => kernel_rfl) (by as_aux_lemma => kernel_rfl) (fun _ _ _ h => h) (by first | exact Or.inl ⟨by rfl, (by intro W hSW; (try dsimp only at hSW); (try go_split_ands); go_simp <;> with_reducible rfl)⟩ | exact Or.inr ⟨by rfl, rfl⟩) hS0 ?_
                try simp only [Act.put, List.getElem_toArray, List.getElem_cons_succ, List.getElem_cons_zero, List.setIfInBounds_toArray, List.set_cons_zero, List.set_cons_succ]
                refine wpAnyU_take (i := 12) [13, 32, 33] rfl (by as_aux_lemma => kernel_rfl) (by as_aux_lemma => kernel_rfl) (by as_aux_lemma => kernel_rfl) (by as_aux_lemma => kernel_rfl) (by as_aux_lemma => kernel_rfl) (by as_aux_lemma => kernel_rfl) (fun _ _ _ h => h) (by first | exact Or.inl ⟨by rfl, (by intro W hSW; (try dsimp only at hSW); (try go_split_ands); go_simp <;> with_reducible rfl)⟩ | exact Or.inr ⟨by rfl, rfl⟩) hS0 ?_
                try simp only [Act.put, List.getElem_toArray, List.getElem_cons_succ, List.getElem_cons_zero, List.setIfInBounds_toArray, List.set_cons_zero, List.set_cons_succ]
                refine wpAnyU_take (i := 13) [32, 33] rfl (by as_aux_lemma => kernel_rfl) (by as_aux_lemma => kernel_rfl) (by as_aux_lemma => kernel_rfl) (by as_aux_lemma => kernel_rfl) (by as_aux_lemma => kernel_rfl) (by as_aux_lemma => kernel_rfl) (fun _ _ _ h => h) (by first | exact Or.inl ⟨by rfl, (by intro W hSW; (try dsimp only at hSW); (try go_split_ands); go_simp <;> with_reducible rfl)⟩ | exact Or.inr ⟨by rfl, rfl⟩) hS0 ?_
                try simp only [Act.put, List.getElem_toArray, List.getElem_cons_succ, List.getElem_cons_zero, List.setIfInBounds_toArray, List.set_cons_zero, List.set_cons_succ]
                refine wpAnyU_take (i := 14) [15, 17, 18, 19, 20, 21, 22, 32, 33] rfl (by as_aux_lemma => kernel_rfl) (by as_aux_lemma => kernel_rfl) (by as_aux_lemma => kernel_rfl) (by as_aux_lemma => kernel_rfl) (by as_aux_lemma => kernel_rfl) (by as_aux_lemma => kernel_rfl) (fun _ _ _ h => h) (by first | exact Or.inl ⟨by rfl, (by intro W hSW; (try dsimp only at hSW); (try go_split_ands); go_simp <;> with_reducible rfl)⟩ | exact Or.inr ⟨by rfl, rfl⟩) hS0 ?_
                try simp only [Act.put, List.getElem_toArray, List.getElem_cons_succ, List.getElem_cons_zero, List.setIfInBounds_toArray, List.set_cons_zero, List.set_cons_succ]
                refine wpAnyU_take (i := 15) [17, 18, 19, 20, 21, 22, 32, 33] rfl (by as_aux_lemma => kernel_rfl) (by as_aux_lemma => kernel_rfl) (by as_aux_lemma => kernel_rfl) (by as_aux_lemma => kernel_rfl) (by as_aux_lemma => kernel_rfl) (by as_aux_lemma => kernel_rfl) (fun _ _ _ h => h) (by first | exact Or.inl ⟨by rfl, (by intro W hSW; (try dsimp only at hSW); (try go_split_ands); go_simp <;> with_reducible rfl)⟩ | exact Or.inr ⟨by rfl, rfl⟩) hS0 ?_
                try simp only [Act.put, List.getElem_toArray, List.getElem_cons_succ, List.getElem_cons_zero, List.setIfInBounds_toArray, List.set_cons_zero, List.set_cons_succ]
                refine wpAnyU_take (i := 16) [17, 18, 19, 20, 21, 22, 32, 33] rfl (by as_aux_lemma => kernel_rfl) (by as_aux_lemma => kernel_rfl) (by as_aux_lemma => kernel_rfl) (by as_aux_lemma => kernel_rfl) (by as_aux_lemma => kernel_rfl) (by as_aux_lemma => kernel_rfl) (fun _ _ _ h => h) (by first | exact Or.inl ⟨by rfl, (by intro W hSW; (try dsimp only at hSW); (try go_split_ands); go_simp <;> with_reducible rfl)⟩ | exact Or.inr ⟨by rfl, rfl⟩) hS0 ?_
                try simp only [Act.put, List.getElem_toArray, List.getElem_cons_succ, List.getElem_cons_zero, List.setIfInBounds_toArray, List.set_cons_zero, List.set_cons_succ]
                refine wpAnyU_take (i := 17) [18, 19, 20, 21, 22, 32, 33] rfl (by as_aux_lemma => kernel_rfl) (by as_aux_lemma => kernel_rfl) (by as_aux_lemma => kernel_rfl) (by as_aux_lemma => kernel_rfl) (by as_aux_lemma => kernel_rfl) (by as_aux_lemma => kernel_rfl) (fun _ _ _ h => h) (by first | exact Or.inl ⟨by rfl, (by intro W hSW; (try dsimp only at hSW); (try go_split_ands); go_simp <;> with_reducible rfl)⟩ | exact Or.inr ⟨by rfl, rfl⟩) hS0 ?_
                try simp only [Act.put, List.getElem_toArray, List.getElem_cons_succ, List.getElem_cons_zero, List.setIfInBounds_toArray, List.set_cons_zero, List.set_cons_succ]
                refine wpAnyU_take (i := 18) [19, 20, 21, 22, 32, 33] rfl (by as_aux_lemma => kernel_rfl) (by as_aux_lemma => kernel_rfl) (by as_aux_lemma => kernel_rfl) (by as_aux_lemma => kernel_rfl) (by as_aux_lemma => kernel_rfl) (by as_aux_lemma => kernel_rfl) (fun _ _ _ h => h) (by first | exact Or.inl ⟨by rfl, (by intro W hSW; (try dsimp only at hSW); (try go_split_ands); go_simp <;> with_reducible rfl)⟩ | exact Or.inr ⟨by rfl, rfl⟩) hS0 ?_
                try simp only [Act.put, List.getElem_toArray, List.getElem_cons_succ, List.getElem_cons_zero, List.setIfInBounds_toArray, List.set_cons_zero, List.set_cons_succ]
                refine wpAnyU_take (i := 19) [20, 21, 22, 32, 33] rfl (by as_aux_lemma => kernel_rfl) (by as_aux_lemma => kernel_rfl) (by as_aux_lemma => kernel_rfl) (by as_aux_lemma => kernel_rfl) (by as_aux_lemma => kernel_rfl) (by as_aux_lemma => kernel_rfl) (fun _ _ _ h => h) (by first | exact Or.inl ⟨by rfl, (by intro W hSW; (try dsimp only at hSW); (try go_split_ands); go_simp <;> with_reducible rfl)⟩ | exact Or.inr ⟨by rfl, rfl⟩) hS0 ?_
                try simp only [Act.put, List.getElem_toArray, List.getElem_cons_succ, List.getElem_cons_zero, List.setIfInBounds_toArray, List.set_cons_zero, List.set_cons_succ]
                refine wpAnyU_take (i := 20) [21, 22, 32, 33] rfl (by as_aux_lemma => kernel_rfl) (by as_aux_lemma => kernel_rfl) (by as_aux_lemma => kernel_rfl) (by as_aux_lemma => kernel_rfl) (by as_aux_lemma => kernel_rfl) (by as_aux_lemma => kernel_rfl) (fun _ _ _ h => h) (by first | exact Or.inl ⟨by rfl, (by intro W hSW; (try dsimp only at hSW); (try go_split_ands); go_simp <;> with_reducible rfl)⟩ | exact Or.inr ⟨by rfl, rfl⟩) hS0 ?_
                try simp only [Act.put, List.getElem_toArray, List.getElem_cons_succ, List.getElem_cons_zero, List.setIfInBounds_toArray, List.set_cons_zero, List.set_cons_succ]
                refine wpAnyU_take (i := 21) [22, 32, 33] rfl (by as_aux_lemma => kernel_rfl) (by as_aux_lemma => kernel_rfl) (by as_aux_lemma => kernel_rfl) (by as_aux_lemma => kernel_rfl) (by as_aux_lemma => kernel_rfl) (by as_aux_lemma => kernel_rfl) (fun _ _ _ h => h) (by first | exact Or.inl ⟨by rfl, (by intro W hSW; (try dsimp only at hSW); (try go_split_ands); go_simp <;> with_reducible rfl)⟩ | exact Or.inr ⟨by rfl, rfl⟩) hS0 ?_
                try simp only [Act.put, List.getElem_toArray, List.getElem_cons_succ, List.getElem_cons_zero, List.setIfInBounds_toArray, List.set_cons_zero, List.set_cons_succ]
                refine wpAnyU_take (i := 22) [32, 33] rfl (by as_aux_lemma => kernel_rfl) (by as_aux_lemma => kernel_rfl) (by as_aux_lemma => kernel_rfl) (by as_aux_lemma => kernel_rfl) (by as_aux_lemma => kernel_rfl) (by as_aux_lemma => kernel_rfl) (fun _ _ _ h => h) (by first | exact Or.inl ⟨by rfl, (by intro W hSW; (try dsimp only at hSW); (try go_split_ands); go_simp <;> with_reducible rfl)⟩ | exact Or.inr ⟨by rfl, rfl⟩) hS0 ?_
                try simp only [Act.put, List.getElem_toArray, List.getElem_cons_succ, List.getElem_cons_zero, List.setIfInBounds_toArray, List.set_cons_zero, List.set_cons_succ]
                refine wpAnyU_take (i := 23) [24, 26, 27, 28, 29, 30, 31, 32, 33] rfl (by as_aux_lemma => kernel_rfl) (by as_aux_lemma => kernel_rfl) (by as_aux_lemma => kernel_rfl) (by as_aux_lemma => kernel_rfl) (by as_aux_lemma => kernel_rfl) (by as_aux_lemma => kernel_rfl) (fun _ _ _ h => h) (by first | exact Or.inl ⟨by rfl, (by intro W hSW; (try dsimp only at hSW); (try go_split_ands); go_simp <;> with_reducible rfl)⟩ | exact Or.inr ⟨by rfl, rfl⟩) hS0 ?_
                try simp only [Act.put, List.getElem_toArray, List.getElem_cons_succ, List.getElem_cons_zero, List.setIfInBounds_toArray, List.set_cons_zero, List.set_cons_succ]
                refine wpAnyU_take (i := 24) [26, 27, 28, 29, 30, 31, 32, 33] rfl (by as_aux_lemma => kernel_rfl) (by as_aux_lemma => kernel_rfl) (by as_aux_lemma => kernel_rfl) (by as_aux_lemma => kernel_rfl) (by as_aux_lemma => kernel_rfl) (by as_aux_lemma => kernel_rfl) (fun _ _ _ h => h) (by first | exact Or.inl ⟨by rfl, (by intro W hSW; (try dsimp only at hSW); (try go_split_ands); go_simp <;> with_reducible rfl)⟩ | exact Or.inr ⟨by rfl, rfl⟩) hS0 ?_
                try simp only [Act.put, List.getElem_toArray, List.getElem_cons_succ, List.getElem_cons_zero, List.setIfInBounds_toArray, List.set_cons_zero, List.set_cons_succ]
                refine wpAnyU_take (i := 25) [26, 27, 28, 29, 30, 31, 32, 33] rfl (by as_aux_lemma => kernel_rfl) (by as_aux_lemma => kernel_rfl) (by as_aux_lemma => kernel_rfl) (by as_aux_lemma => kernel_rfl) (by as_aux_lemma => kernel_rfl) (by as_aux_lemma => kernel_rfl) (fun _ _ _ h => h) (by first | exact Or.inl ⟨by rfl, (by intro W hSW; (try dsimp only at hSW); (try go_split_ands); go_simp <;> with_reducible rfl)⟩ | exact Or.inr ⟨by rfl, rfl⟩) hS0 ?_
                try simp only [Act.put, List.getElem_toArray, List.getElem_cons_succ, List.getElem_cons_zero, List.setIfInBounds_toArray, List.set_cons_zero, List.set_cons_succ]
                refine wpAnyU_take (i := 26) [27, 28, 29, 30, 31, 32, 33] rfl (by as_aux_lemma => kernel_rfl) (by as_aux_lemma => kernel_rfl) (by as_aux_lemma => kernel_rfl) (by as_aux_lemma => kernel_rfl) (by as_aux_lemma => kernel_rfl) (by as_aux_lemma => kernel_rfl) (fun _ _ _ h => h) (by first | exact Or.inl ⟨by rfl, (by intro W hSW; (try dsimp only at hSW); (try go_split_ands); go_simp <;> with_reducible rfl)⟩ | exact Or.inr ⟨by rfl, rfl⟩) hS0 ?_
                try simp only [Act.put, List.getElem_toArray, List.getElem_cons_succ, List.getElem_cons_zero, List.setIfInBounds_toArray, List.set_cons_zero, List.set_cons_succ]
                refine wpAnyU_take (i := 27) [28, 29, 30, 31, 32, 33] rfl (by as_aux_lemma => kernel_rfl) (by as_aux_lemma => kernel_rfl) (by as_aux_lemma => kernel_rfl) (by as_aux_lemma => kernel_rfl) (by as_aux_lemma => kernel_rfl) (by as_aux_lemma => kernel_rfl) (fun _ _ _ h => h) (by first | exact Or.inl ⟨by rfl, (by intro W hSW; (try dsimp only at hSW); (try go_split_ands); go_simp <;> with_reducible rfl)⟩ | exact Or.inr ⟨by rfl, rfl⟩) hS0 ?_
                try simp only [Act.put, List.getElem_toArray, List.getElem_cons_succ, List.getElem_cons_zero, List.setIfInBounds_toArray, List.set_cons_zero, List.set_cons_succ]
                refine wpAnyU_take (i := 28) [29, 30, 31, 32, 33] rfl (by as_aux_lemma => kernel_rfl) (by as_aux_lemma => kernel_rfl) (by as_aux_lemma => kernel_rfl) (by as_aux_lemma => kernel_rfl) (by as_aux_lemma => kernel_rfl) (by as_aux_lemma => kernel_rfl) (fun _ _ _ h => h) (by first | exact Or.inl ⟨by rfl, (by intro W hSW; (try dsimp only at hSW); (try go_split_ands); go_simp <;> with_reducible rfl)⟩ | exact Or.inr ⟨by rfl, rfl⟩) hS0 ?_
                try simp only [Act.put, List.getElem_toArray, List.getElem_cons_succ, List.getElem_cons_zero, List.setIfInBounds_toArray, List.set_cons_zero, List.set_cons_succ]
                refine wpAnyU_take (i := 29) [30, 31, 32, 33] rfl (by as_aux_lemma => kernel_rfl) (by as_aux_lemma => kernel_rfl) (by as_aux_lemma => kernel_rfl) (by as_aux_lemma => kernel_rfl) (by as_aux_lemma => kernel_rfl) (by as_aux_lemma => kernel_rfl) (fun _ _ _ h => h) (by first | exact Or.inl ⟨by rfl, (by intro W hSW; (try dsimp only at hSW); (try go_split_ands); go_simp <;> with_reducible rfl)⟩ | exact Or.inr ⟨by rfl, rfl⟩) hS0 ?_
                try simp only [Act.put, List.getElem_toArray, List.getElem_cons_succ, List.getElem_cons_zero, List.setIfInBounds_toArray, List.set_cons_zero, List.set_cons_succ]
                refine wpAnyU_take (i := 30) [31, 32, 33] rfl (by as_aux_lemma => kernel_rfl) (by as_aux_lemma => kernel_rfl) (by as_aux_lemma => kernel_rfl) (by as_aux_lemma => kernel_rfl) (by as_aux_lemma => kernel_rfl) (by as_aux_lemma => kernel_rfl) (fun _ _ _ h => h) (by first | exact Or.inl ⟨by rfl, (by intro W hSW; (try dsimp only at hSW); (try go_split_ands); go_simp <;> with_reducible rfl)⟩ | exact Or.inr ⟨by rfl, rfl⟩) hS0 ?_
                try simp only [Act.put, List.getElem_toArray, List.getElem_cons_succ, List.getElem_cons_zero, List.setIfInBounds_toArray, List.set_cons_zero, List.set_cons_succ]
                refine wpAnyU_take (i := 31) [32, 33] rfl (by as_aux_lemma => kernel_rfl) (by as_aux_lemma => kernel_rfl) (by as_aux_lemma => kernel_rfl) (by as_aux_lemma => kernel_rfl) (by as_aux_lemma => kernel_rfl) (by as_aux_lemma => kernel_rfl) (fun _ _ _ h => h) (by first | exact Or.inl ⟨by rfl, (by intro W hSW; (try dsimp only at hSW); (try go_split_ands); go_simp <;> with_reducible rfl)⟩ | exact Or.inr ⟨by rfl, rfl⟩) hS0 ?_
                try simp only [Act.put, List.getElem_toArray, List.getElem_cons_succ, List.getElem_cons_zero, List.setIfInBounds_toArray, List.set_cons_zero, List.set_cons_succ]
                refine wpAnyU_one (i := 32) (by kernel_rfl) rfl (fun K hK => ?_)
                go_simp
                go_at_call 44
                (with_reducible refine HFT.out.mono ?_)
                rintro e wz ⟨rfl, hbz⟩
                have hSz : wz.cell? ⟨w.heap.size, 0, none⟩ = some (.slice (some ⟨g, 0, none⟩) n1 c1) ∧ wz.cell? ⟨g, i * 3, none⟩ = some (.string nm) ∧ wz.cell? ⟨g, i * 3 + 1, none⟩ = some (.slice ya yn yc) ∧ wz.cell? ⟨g, i * 3 + 2, none⟩ = some (.slice (some ⟨qg, qo, none⟩) yqn yqc) ∧ wz.cell? ⟨qg, qo, none⟩ = some (.int .u64 a.1) ∧ wz.cell? ⟨qg, qo + 1, none⟩ = some (.int .i64 a.2) := by
                  obtain ⟨x1, x2, x3, x4, x5, x6⟩ := hS0
                  exact ⟨by rw [World.cell?_of_block (hbz.block _ (World.block_lt_of_cell? _ _ x1))]; exact x1, by rw [World.cell?_of_block (hbz.block _ (World.block_lt_of_cell? _ _ x2))]; exact x2, by rw [World.cell?_of_block (hbz.block _ (World.block_lt_of_cell? _ _ x3))]; exact x3, by rw [World.cell?_of_block (hbz.block _ (World.block_lt_of_cell? _ _ x4))]; exact x4, by rw [World.cell?_of_block (hbz.block _ (World.block_lt_of_cell? _ _ x5))]; exact x5, by rw [World.cell?_of_block (hbz.block _ (World.block_lt_of_cell? _ _ x6))]; exact x6⟩
                have HZ := Lib.hid (HN2.out.2.2.below hbz)
                clear hbz HFT
                refine hK.out _ _ (fun _ => hSz) (fun _ => ?_)
                clear hK K
                try simp only [Act.put, List.getElem_toArray, List.getElem_cons_succ, List.getElem_cons_zero, List.setIfInBounds_toArray, List.set_cons_zero, List.set_cons_succ]
                refine wpAnyU_take (i := 33) [] rfl (by as_aux_lemma => kernel_rfl) (by as_aux_lemma => kernel_rfl) (by as_aux_lemma => kernel_rfl) (by as_aux_lemma => kernel_rfl) (by as_aux_lemma => kernel_rfl) (by as_aux_lemma => kernel_rfl) (fun _ _ _ h => h) (Or.inl ⟨by rfl, (by intro W hSW; (try dsimp only at hSW); (try go_split_ands); go_simp <;> with_reducible rfl)⟩) hSz ?_
                try simp only [Act.put, List.getElem_toArray, List.getElem_cons_succ, List.getElem_cons_zero, List.setIfInBounds_toArray, List.set_cons_zero, List.set_cons_succ]
                refine wpAnyU_done (by kernel_rfl) ?_ _
                clear hS0 hSz
                go_wp2
                go_meet
                exact ⟨fb, rfl, HZ.out, (fun h => ⟨a, rest, HN2.out.1, HN2.out.2.1.trans h⟩), fun h => .inr ⟨a, rest, HN2.out.1, HN2.out.2.1.trans h⟩⟩
            case rest =>
              obtain ⟨bb, rfl, hI2, hb1, hb2⟩ := hcut
              obtain ⟨wx, hwx⟩ : ∃ wx, wc = wx := ⟨_, rfl⟩
              rw [hwx] at hI2 ⊢
              clear hwx
              cases bb with
              | false =>
                have hfin : Hid (FoR w wx (some ⟨g, 0, none⟩) n1 c1 (Xi.set i y) (.slice oa on oc) (l ++ pre) ∧ FrP X A o (i + 1) (Xi.set i y) (l ++ pre)) :=
                  ⟨hI2.out_, HI.out.2.1.done HR.out.2.1 HR.out.2.2.1 HT.out (hb2 rfl)⟩
                clear hb1 hb2 hI2
                go_wp2
                go_roundw
                case rel => exact ⟨i + 1, _, _, oa, on, oc, by rw [HWJ.out], HR.out.2.2.2.1, rfl, HI.out.2.2.2.2.2.2.2.2.1, hfin.out⟩
                case measure => exact meas_up HWJ.out HR.out.2.2.2.1
              | true =>
                obtain ⟨⟨au, am⟩, rest, hqs, hfit⟩ := hb1 rfl
                clear hb1 hb2
                have hqi := hI2.qi
                rw [HI.out.2.2.2.1, hqs] at hqi
                have hln : ((au, am) :: rest).length = yqn := by rw [← hqs]; exact HI.out.2.2.2.2.2.1
                have hrl : rest.length + 1 = yqn := hln
                obtain ⟨qg, qo, rfl, hqo⟩ := hqi.at_ hln 0 (by simp)
                obtain ⟨ca, cb⟩ := hqo wx (Below.refl _ _)
                simp only [Nat.zero_mul, Nat.add_zero, List.getElem_cons_zero] at ca cb
                obtain ⟨z0, z1, z2, z3⟩ := HC.out wx hI2
                obtain ⟨b3, hb3⟩ : ∃ b3, wx.heap.size = b3 := ⟨_, rfl⟩
                obtain ⟨w1, hw1⟩ : ∃ w1, wx.alloc (.cells #[.int .u64 0, .int .i64 0] 103) = w1 := ⟨_, rfl⟩
                have k1b : w1.heap[b3]? = some (.cells #[.int .u64 0, .int .i64 0] 103 (0, 0)) := by rw [← hw1, ← hb3]; exact heap_alloc_new wx _
                have hbA : Below wx.heap.size wx w1 := by rw [← hw1]; exact (Below.refl _ _).alloc (Nat.le_refl _) _
                obtain ⟨w2, hw2⟩ : ∃ w2, w1.setRow b3 #[.int .u64 au, .int .i64 am] = w2 := ⟨_, rfl⟩
                have k2b : w2.heap[b3]? = some (.cells #[.int .u64 au, .int .i64 am] 103 (0, 0)) := by rw [← hw2]; exact setRow_heap w1 _ _ _ _ _ k1b
                have hb2 : Below wx.heap.size wx w2 := ⟨by rw [← hw2]; exact hbA.os, by rw [← hw2]; exact hbA.tape, by rw [← hw2]; exact hbA.output, by rw [← hw2, setRow_size]; exact hbA.size, fun j hj => by rw [← hw2, setRow_otherL _ _ _ _ (by omega)]; exact hbA.block j hj⟩
                have hbd2 : Below wx.heap.size wx w2.drew := below_drewN hb2 1
                have hI3 := hI2.below hbd2
                have hgl : g < b3 := by rw [← hb3]; exact (hI2.row.lt g rfl).2
                have hvb : ∀ k, y.hv.ownBlock = some k → k < b3 := fun k hk => by rw [← hb3]; exact (hI2.hi.lt k hk).2
                have hqt := (hqi.below hbd2).part hln 1 yqn (by omega) (Nat.le_refl _)
                have hrt : (((au, am) :: rest).drop 1).take (yqn - 1) = rest := by
                  rw [List.drop_succ_cons, List.drop_zero, List.take_of_length_le (by omega)]
                rw [hrt] at hqt
                have q1 : ∀ W : World, (Instr.sliceAt 96 (.slice (some ⟨qg, qo, none⟩) yqn yqc) (some (.int .i64 1)) none none).run Try.prog W = .ok (sliced (some ⟨qg, qo, none⟩) 1 yqn yqc 2) W := fun W => sliceL info_gC Try.underlying96 elemGr _ yqn yqc 1 W 1 rfl (by omega) HI.out.2.2.2.2.2.2.2.2.2
                obtain ⟨s9, hs9⟩ : ∃ s9, sliced (some ⟨qg, qo, none⟩) 1 yqn yqc 2 = s9 := ⟨_, rfl⟩
                rw [hs9] at hqt q1
                obtain ⟨p9a, p9n, p9c, hp9⟩ : ∃ p9a p9n p9c, s9 = .slice p9a p9n p9c := ⟨_, _, _, hs9.symm⟩
                clear hs9
                subst hp9
                obtain ⟨⟨u9, hc9⟩, hf9, hI4⟩ := hI3.pop rest (.slice p9a p9n p9c) hqt
                obtain ⟨w3, hw3⟩ : ∃ w3, w2.drew.setCell ⟨g, i * 3 + 2, none⟩ (.slice p9a p9n p9c) = w3 := ⟨_, rfl⟩
                rw [hw3] at hI4
                have k3b : w3.heap[b3]? = some (.cells #[.int .u64 au, .int .i64 am] 103 (0, 0)) := by rw [← hw3, setCell_heapL _ _ _ _ (by show b3 ≠ g; omega)]; exact k2b
                have hrg : wx.rangeAt qg qo [.int .u64 au, .int .i64 am] := fun j u hj => by
                  match j, hj with
                  | 0, hj => injection hj with hj; rw [← hj]; exact ca
                  | 1, hj => injection hj with hj; rw [← hj]; exact cb
                obtain ⟨x0, x1, x2, x3⟩ := HC.out w2.drew hI3
                have hS0 : w2.drew.cell? ⟨w.heap.size, 0, none⟩ = some (.slice (some ⟨g, 0, none⟩) n1 c1) ∧ w2.drew.cell? ⟨g, i * 3 + 2, none⟩ = some (.slice (some ⟨qg, qo, none⟩) yqn yqc) := ⟨x0, x3⟩
                have HRG := Lib.hid hrg
                have K1 := Lib.hid k1b
                have K3 := Lib.hid k3b
                have HI4 := Lib.hid (And.intro hI4 (And.intro hfit (And.intro hqs hvb)))
                have hqn0 : (0 : Int) < (yqn : Int) := by omega
                have hqn1 : (1 : Int) ≤ (yqn : Int) := by omega
                have hqn2 : ¬ ((yqn : Int) < 1) := by omega
                clear hqi hln hrl hqo ca cb hbA hb2 hbd2 hI3 hgl hqt hrt hI4 k1b k2b k3b hrg x0 x1 x2 x3 hqs hfit hI2 z1 z2 hvb
                go_upto_region 13 with (first | (refine wpList_load_mid rfl _ _ rfl qg qo rfl [.int .u64 au, .int .i64 am] _ HRG.out Try.underlying103 rfl infoGr2 ?_) | (refine wpList_store_row rfl _ _ _ rfl b3 _ rfl rfl _ _ K1.out infoGr2 rfl (by simp [Value.oneCell']) ?_; rw [hw2]) | fail)
                clear hb3 hw1 hw2 z0 z3
                refine wp_region_U (fun W => W.cell? ⟨w.heap.size, 0, none⟩ = some (.slice (some ⟨g, 0, none⟩) n1 c1) ∧ W.cell? ⟨g, i * 3 + 2, none⟩ = some (.slice (some ⟨qg, qo, none⟩) yqn yqc)) [12] (by kernel_rfl) ?_
                refine wpAnyU_take (i := 0) [1, 10, 11, 12] rfl (by as_aux_lemma => kernel_rfl) (by as_aux_lemma => kernel_rfl) (by as_aux_lemma => kernel_rfl) (by as_aux_lemma => kernel_rfl) (by as_aux_lemma => kernel_rfl) (by as_aux_lemma => kernel_rfl) (fun _ _ _ h => h) (Or.inl ⟨by rfl, (by intro W hSW; (try dsimp only at hSW); (try go_split_ands); go_simp <;> with_reducible rfl)⟩) hS0 ?_
                try simp only [Act.put, List.getElem_toArray, List.getElem_cons_succ, List.getElem_cons_zero, List.setIfInBounds_toArray, List.set_cons_zero, List.set_cons_succ]
                refine wpAnyU_take (i := 1) [10, 11, 12] rfl (by as_aux_lemma => kernel_rfl) (by as_aux_lemma => kernel_rfl) (by as_aux_lemma => kernel_rfl) (by as_aux_lemma => kernel_rfl) (by as_aux_lemma => kernel_rfl) (by as_aux_lemma => kernel_rfl) (fun _ _ _ h => h) (Or.inl ⟨by rfl, (by intro W hSW; (try dsimp only at hSW); (try go_split_ands); go_simp <;> with_reducible rfl)⟩) hS0 ?_
                try simp only [Act.put, List.getElem_toArray, List.getElem_cons_succ, List.getElem_cons_zero, List.setIfInBounds_toArray, List.set_cons_zero, List.set_cons_succ]
                refine wpAnyU_take (i := 2) [10, 11, 12] rfl (by as_aux_lemma => kernel_rfl) (by as_aux_lemma => kernel_rfl) (by as_aux_lemma => kernel_rfl) (by as_aux_lemma => kernel_rfl) (by as_aux_lemma => kernel_rfl) (by as_aux_lemma => kernel_rfl) (fun _ _ _ h => h) (Or.inl ⟨by rfl, (by intro W hSW; (try dsimp only at hSW); (try go_split_ands); go_simp <;> with_reducible rfl)⟩) hS0 ?_
                try simp only [Act.put, List.getElem_toArray, List.getElem_cons_succ, List.getElem_cons_zero, List.setIfInBounds_toArray, List.set_cons_zero, List.set_cons_succ]
                refine wpAnyU_take (i := 3) [4, 6, 7, 8, 9, 10, 11, 12] rfl (by as_aux_lemma => kernel_rfl) (by as_aux_lemma => kernel_rfl) (by as_aux_lemma => kernel_rfl) (by as_aux_lemma => kernel_rfl) (by as_aux_lemma => kernel_rfl) (by as_aux_lemma => kernel_rfl) (fun _ _ _ h => h) (Or.inl ⟨by rfl, (by intro W hSW; (try dsimp only at hSW); (try go_split_ands); go_simp <;> with_reducible rfl)⟩) hS0 ?_
                try simp only [Act.put, List.getElem_toArray, List.getElem_cons_succ, List.getElem_cons_zero, List.setIfInBounds_toArray, List.set_cons_zero, List.set_cons_succ]
                refine wpAnyU_take (i := 4) [6, 7, 8, 9, 10, 11, 12] rfl (by as_aux_lemma => kernel_rfl) (by as_aux_lemma => kernel_rfl) (by as_aux_lemma => kernel_rfl) (by as_aux_lemma => kernel_rfl) (by as_aux_lemma => kernel_rfl) (by as_aux_lemma => kernel_rfl) (fun _ _ _ h => h) (Or.inl ⟨by rfl, (by intro W hSW; (try dsimp only at hSW); (try go_split_ands); go_simp <;> with_reducible rfl)⟩) hS0 ?_
                try simp only [Act.put, List.getElem_toArray, List.getElem_cons_succ, List.getElem_cons_zero, List.setIfInBounds_toArray, List.set_cons_zero, List.set_cons_succ]
                refine wpAnyU_take (i := 5) [6, 7, 8, 9, 10, 11, 12] rfl (by as_aux_lemma => kernel_rfl) (by as_aux_lemma => kernel_rfl) (by as_aux_lemma => kernel_rfl) (by as_aux_lemma => kernel_rfl) (by as_aux_lemma => kernel_rfl) (by as_aux_lemma => kernel_rfl) (fun _ _ _ h => h) (Or.inl ⟨by rfl, (by intro W hSW; (try dsimp only at hSW); (try go_split_ands); go_simp <;> with_reducible rfl)⟩) hS0 ?_
                try simp only [Act.put, List.getElem_toArray, List.getElem_cons_succ, List.getElem_cons_zero, List.setIfInBounds_toArray, List.set_cons_zero, List.set_cons_succ]
                refine wpAnyU_take (i := 6) [7, 8, 9, 10, 11, 12] rfl (by as_aux_lemma => kernel_rfl) (by as_aux_lemma => kernel_rfl) (by as_aux_lemma => kernel_rfl) (by as_aux_lemma => kernel_rfl) (by as_aux_lemma => kernel_rfl) (by as_aux_lemma => kernel_rfl) (fun _ _ _ h => h) (Or.inl ⟨by rfl, (by intro W hSW; (try dsimp only at hSW); (try go_split_ands); go_simp <;> with_reducible rfl)⟩) hS0 ?_
                try simp only [Act.put, List.getElem_toArray, List.getElem_cons_succ, List.getElem_cons_zero, List.setIfInBounds_toArray, List.set_cons_zero, List.set_cons_succ]
                refine wpAnyU_take (i := 7) [8, 9, 10, 11, 12] rfl (by as_aux_lemma => kernel_rfl) (by as_aux_lemma => kernel_rfl) (by as_aux_lemma => kernel_rfl) (by as_aux_lemma => kernel_rfl) (by as_aux_lemma => kernel_rfl) (by as_aux_lemma => kernel_rfl) (fun _ _ _ h => h) (Or.inl ⟨by rfl, (by intro W hSW; (try dsimp only at hSW); (try go_split_ands); go_simp <;> with_reducible rfl)⟩) hS0 ?_
                try simp only [Act.put, List.getElem_toArray, List.getElem_cons_succ, List.getElem_cons_zero, List.setIfInBounds_toArray, List.set_cons_zero, List.set_cons_succ]
                refine wpAnyU_take (i := 8) [9, 10, 11, 12] rfl (by as_aux_lemma => kernel_rfl) (by as_aux_lemma => kernel_rfl) (by as_aux_lemma => kernel_rfl) (by as_aux_lemma => kernel_rfl) (by as_aux_lemma => kernel_rfl) (by as_aux_lemma => kernel_rfl) (fun _ _ _ h => h) (Or.inl ⟨by rfl, (by intro W hSW; (try dsimp only at hSW); (try go_split_ands); go_simp <;> with_reducible rfl)⟩) hS0 ?_
                try simp only [Act.put, List.getElem_toArray, List.getElem_cons_succ, List.getElem_cons_zero, List.setIfInBounds_toArray, List.set_cons_zero, List.set_cons_succ]
                refine wpAnyU_take (i := 9) [10, 11, 12] rfl (by as_aux_lemma => kernel_rfl) (by as_aux_lemma => kernel_rfl) (by as_aux_lemma => kernel_rfl) (by as_aux_lemma => kernel_rfl) (by as_aux_lemma => kernel_rfl) (by as_aux_lemma => kernel_rfl) (fun _ _ _ h => h) (Or.inl ⟨by rfl, (by intro W hSW; (try dsimp only at hSW); (try go_split_ands); go_simp <;> with_reducible rfl)⟩) hS0 ?_
                try simp only [Act.put, List.getElem_toArray, List.getElem_cons_succ, List.getElem_cons_zero, List.setIfInBounds_toArray, List.set_cons_zero, List.set_cons_succ]
                refine wpAnyU_take (i := 10) [11, 12] rfl (by as_aux_lemma => kernel_rfl) (by as_aux_lemma => kernel_rfl) (by as_aux_lemma => kernel_rfl) (by as_aux_lemma => kernel_rfl) (by as_aux_lemma => kernel_rfl) (by as_aux_lemma => kernel_rfl) (fun _ _ _ h => h) (Or.inl ⟨by rfl, (by intro W hSW; (try dsimp only at hSW); (try go_split_ands); go_simp <;> with_reducible rfl)⟩) hS0 ?_
                try simp only [Act.put, List.getElem_toArray, List.getElem_cons_succ, List.getElem_cons_zero, List.setIfInBounds_toArray, List.set_cons_zero, List.set_cons_succ]
                refine wpAnyU_take (i := 11) [12] rfl (by as_aux_lemma => kernel_rfl) (by as_aux_lemma => kernel_rfl) (by as_aux_lemma => kernel_rfl) (by as_aux_lemma => kernel_rfl) (by as_aux_lemma => kernel_rfl) (by as_aux_lemma => kernel_rfl) (fun _ _ _ h => h) (Or.inl ⟨by rfl, (by intro W hSW; (try dsimp only at hSW); (try go_split_ands); go_simp <;> with_reducible rfl)⟩) hS0 ?_
                try simp only [Act.put, List.getElem_toArray, List.getElem_cons_succ, List.getElem_cons_zero, List.setIfInBounds_toArray, List.set_cons_zero, List.set_cons_succ]
                refine wpAnyU_one (i := 12) (by kernel_rfl) rfl (fun K hK => ?_)
                go_simp
                try rw [hw3]
                refine hK.out _ _ (fun h => absurd h (by decide)) (fun _ => ?_)
                clear hK K
                try simp only [Act.put, List.getElem_toArray, List.getElem_cons_succ, List.getElem_cons_zero, List.setIfInBounds_toArray, List.set_cons_zero, List.set_cons_succ]
                refine wpAnyU_done (by kernel_rfl) ?_ _
                clear hS0 hc9 hf9 q1
                try rw [hw3]
                clear hw3
                have hbd3 : Below w3.heap.size w3 w3.drew := below_drewN (Below.refl _ _) 1
                have hI5 := HI4.out.1.below hbd3
                have hown := hI5.hi
                simp only at hown
                rw [HI.out.2.2.1, HI.out.2.2.2.2.1] at hown
                have hho := r14_hold w3.drew nm ya yc p9a p9n p9c yn y.hs HI.out.2.2.2.2.1 hown hI5.b0s HI.out.2.2.2.2.2.2.2.1.1 au am
                have HHO := Lib.hid hho
                obtain ⟨x0, x1, x2⟩ := lx_cells hI5.row hI5.yat hI5.yln
                simp only at x0 x1 x2
                rw [HI.out.2.2.2.2.2.2.1] at x0
                rw [HI.out.2.2.1] at x1
                have hS0 : w3.drew.cell? ⟨w.heap.size, 0, none⟩ = some (.slice (some ⟨g, 0, none⟩) n1 c1) ∧ w3.drew.cell? ⟨g, i * 3, none⟩ = some (.string nm) ∧ w3.drew.cell? ⟨g, i * 3 + 1, none⟩ = some (.slice ya yn yc) ∧ w3.drew.cell? ⟨g, i * 3 + 2, none⟩ = some (.slice p9a p9n p9c) ∧ w3.drew.cell? ⟨b3, 0, none⟩ = some (.int .u64 au) ∧ w3.drew.cell? ⟨b3, 1, none⟩ = some (.int .i64 am) :=
                  ⟨cell_of_row w3.drew _ 0 _ _ _ hI5.k0, x0, x1, x2, cell_of_row w3.drew _ 0 _ _ _ K3.out, cell_of_row w3.drew _ 1 _ _ _ K3.out⟩
                have HI5 := Lib.hid hI5
                clear hbd3 hI5 hown hho x0 x1 x2
                go_upto_region 14 with (fail)
                refine wp_region_U (fun W => W.cell? ⟨w.heap.size, 0, none⟩ = some (.slice (some ⟨g, 0, none⟩) n1 c1) ∧ W.cell? ⟨g, i * 3, none⟩ = some (.string nm) ∧ W.cell? ⟨g, i * 3 + 1, none⟩ = some (.slice ya yn yc) ∧ W.cell? ⟨g, i * 3 + 2, none⟩ = some (.slice p9a p9n p9c) ∧ W.cell? ⟨b3, 0, none⟩ = some (.int .u64 au) ∧ W.cell? ⟨b3, 1, none⟩ = some (.int .i64 am)) [14] (by kernel_rfl) ?_
                refine wpAnyU_take (i := 0) [1, 13, 14] rfl (by as_aux_lemma => kernel_rfl) (by as_aux_lemma => kernel_rfl) (by as_aux_lemma => kernel_rfl) (by as_aux_lemma => kernel_rfl) (by as_aux_lemma => kernel_rfl) (by as_aux_lemma => kernel_rfl) (fun _ _ _ h => h) (Or.inl ⟨by rfl, (by intro W hSW; (try dsimp only at hSW); (try go_split_ands); go_simp <;> with_reducible rfl)⟩) hS0 ?_
                try simp only [Act.put, List.getElem_toArray, List.getElem_cons_succ, List.getElem_cons_zero, List.setIfInBounds_toArray, List.set_cons_zero, List.set_cons_succ]
                refine wpAnyU_take (i := 1) [13, 14] rfl (by as_aux_lemma => kernel_rfl) (by as_aux_lemma => kernel_rfl) (by as_aux_lemma => kernel_rfl) (by as_aux_lemma => kernel_rfl) (by as_aux_lemma => kernel_rfl) (by as_aux_lemma => kernel_rfl) (fun _ _ _ h => h) (Or.inl ⟨by rfl, (by intro W hSW; (try dsimp only at hSW); (try go_split_ands); go_simp <;> with_reducible rfl)⟩) hS0 ?_
                try simp only [Act.put, List.getElem_toArray, List.getElem_cons_succ, List.getElem_cons_zero, List.setIfInBounds_toArray, List.set_cons_zero, List.set_cons_succ]
                refine wpAnyU_take (i := 2) [13, 14] rfl (by as_aux_lemma => kernel_rfl) (by as_aux_lemma => kernel_rfl) (by as_aux_lemma => kernel_rfl) (by as_aux_lemma => kernel_rfl) (by as_aux_lemma => kernel_rfl) (by as_aux_lemma => kernel_rfl) (fun _ _ _ h => h) (Or.inl ⟨by rfl, (by intro W hSW; (try dsimp only at hSW); (try go_split_ands); go_simp <;> with_reducible rfl)⟩) hS0 ?_
                try simp only [Act.put, List.getElem_toArray, List.getElem_cons_succ, List.getElem_cons_zero, List.setIfInBounds_toArray, List.set_cons_zero, List.set_cons_succ]
                refine wpAnyU_take (i := 3) [4, 6, 7, 12, 13, 14] rfl (by as_aux_lemma => kernel_rfl) (by as_aux_lemma => kernel_rfl) (by as_aux_lemma => kernel_rfl) (by as_aux_lemma => kernel_rfl) (by as_aux_lemma => kernel_rfl) (by as_aux_lemma => kernel_rfl) (fun _ _ _ h => h) (Or.inl ⟨by rfl, (by intro W hSW; (try dsimp only at hSW); (try go_split_ands); go_simp <;> with_reducible rfl)⟩) hS0 ?_
                try simp only [Act.put, List.getElem_toArray, List.getElem_cons_succ, List.getElem_cons_zero, List.setIfInBounds_toArray, List.set_cons_zero, List.set_cons_succ]
                refine wpAnyU_take (i := 4) [6, 7, 12, 13, 14] rfl (by as_aux_lemma => kernel_rfl) (by as_aux_lemma => kernel_rfl) (by as_aux_lemma => kernel_rfl) (by as_aux_lemma => kernel_rfl) (by as_aux_lemma => kernel_rfl) (by as_aux_lemma => kernel_rfl) (fun _ _ _ h => h) (Or.inl ⟨by rfl, (by intro W hSW; (try dsimp only at hSW); (try go_split_ands); go_simp <;> with_reducible rfl)⟩) hS0 ?_
                try simp only [Act.put, List.getElem_toArray, List.getElem_cons_succ, List.getElem_cons_zero, List.setIfInBounds_toArray, List.set_cons_zero, List.set_cons_succ]
                refine wpAnyU_take (i := 5) [6, 7, 12, 13, 14] rfl (by as_aux_lemma => kernel_rfl) (by as_aux_lemma => kernel_rfl) (by as_aux_lemma => kernel_rfl) (by as_aux_lemma => kernel_rfl) (by as_aux_lemma => kernel_rfl) (by as_aux_lemma => kernel_rfl) (fun _ _ _ h => h) (Or.inl ⟨by rfl, (by intro W hSW; (try dsimp only at hSW); (try go_split_ands); go_simp <;> with_reducible rfl)⟩) hS0 ?_
                try simp only [Act.put, List.getElem_toArray, List.getElem_cons_succ, List.getElem_cons_zero, List.setIfInBounds_toArray, List.set_cons_zero, List.set_cons_succ]
                refine wpAnyU_take (i := 6) [7, 12, 13, 14] rfl (by as_aux_lemma => kernel_rfl) (by as_aux_lemma => kernel_rfl) (by as_aux_lemma => kernel_rfl) (by as_aux_lemma => kernel_rfl) (by as_aux_lemma => kernel_rfl) (by as_aux_lemma => kernel_rfl) (fun _ _ _ h => h) (Or.inl ⟨by rfl, (by intro W hSW; (try dsimp only at hSW); (try go_split_ands); go_simp <;> with_reducible rfl)⟩) hS0 ?_
                try simp only [Act.put, List.getElem_toArray, List.getElem_cons_succ, List.getElem_cons_zero, List.setIfInBounds_toArray, List.set_cons_zero, List.set_cons_succ]
                refine wpAnyU_take (i := 7) [12, 13, 14] rfl (by as_aux_lemma => kernel_rfl) (by as_aux_lemma => kernel_rfl) (by as_aux_lemma => kernel_rfl) (by as_aux_lemma => kernel_rfl) (by as_aux_lemma => kernel_rfl) (by as_aux_lemma => kernel_rfl) (fun _ _ _ h => h) (Or.inl ⟨by rfl, (by intro W hSW; (try dsimp only at hSW); (try go_split_ands); go_simp <;> with_reducible rfl)⟩) hS0 ?_
                try simp only [Act.put, List.getElem_toArray, List.getElem_cons_succ, List.getElem_cons_zero, List.setIfInBounds_toArray, List.set_cons_zero, List.set_cons_succ]
                refine wpAnyU_take (i := 8) [9, 12, 13, 14] rfl (by as_aux_lemma => kernel_rfl) (by as_aux_lemma => kernel_rfl) (by as_aux_lemma => kernel_rfl) (by as_aux_lemma => kernel_rfl) (by as_aux_lemma => kernel_rfl) (by as_aux_lemma => kernel_rfl) (fun _ _ _ h => h) (Or.inl ⟨by rfl, (by intro W hSW; (try dsimp only at hSW); (try go_split_ands); go_simp <;> with_reducible rfl)⟩) hS0 ?_
                try simp only [Act.put, List.getElem_toArray, List.getElem_cons_succ, List.getElem_cons_zero, List.setIfInBounds_toArray, List.set_cons_zero, List.set_cons_succ]
                refine wpAnyU_take (i := 9) [12, 13, 14] rfl (by as_aux_lemma => kernel_rfl) (by as_aux_lemma => kernel_rfl) (by as_aux_lemma => kernel_rfl) (by as_aux_lemma => kernel_rfl) (by as_aux_lemma => kernel_rfl) (by as_aux_lemma => kernel_rfl) (fun _ _ _ h => h) (Or.inl ⟨by rfl, (by intro W hSW; (try dsimp only at hSW); (try go_split_ands); go_simp <;> with_reducible rfl)⟩) hS0 ?_
                try simp only [Act.put, List.getElem_toArray, List.getElem_cons_succ, List.getElem_cons_zero, List.setIfInBounds_toArray, List.set_cons_zero, List.set_cons_succ]
                refine wpAnyU_take (i := 10) [11, 12, 13, 14] rfl (by as_aux_lemma => kernel_rfl) (by as_aux_lemma => kernel_rfl) (by as_aux_lemma => kernel_rfl) (by as_aux_lemma => kernel_rfl) (by as_aux_lemma => kernel_rfl) (by as_aux_lemma => kernel_rfl) (fun _ _ _ h => h) (Or.inl ⟨by rfl, (by intro W hSW; (try dsimp only at hSW); (try go_split_ands); go_simp <;> with_reducible rfl)⟩) hS0 ?_
                try simp only [Act.put, List.getElem_toArray, List.getElem_cons_succ, List.getElem_cons_zero, List.setIfInBounds_toArray, List.set_cons_zero, List.set_cons_succ]
                refine wpAnyU_take (i := 11) [12, 13, 14] rfl (by as_aux_lemma => kernel_rfl) (by as_aux_lemma => kernel_rfl) (by as_aux_lemma => kernel_rfl) (by as_aux_lemma => kernel_rfl) (by as_aux_lemma => kernel_rfl) (by as_aux_lemma => kernel_rfl) (fun _ _ _ h => h) (Or.inl ⟨by rfl, (by intro W hSW; (try dsimp only at hSW); (try go_split_ands); go_simp <;> with_reducible rfl)⟩) hS0 ?_
                try simp only [Act.put, List.getElem_toArray, List.getElem_cons_succ, List.getElem_cons_zero, List.setIfInBounds_toArray, List.set_cons_zero, List.set_cons_succ]
                refine wpAnyU_one (i := 12) (by kernel_rfl) rfl (fun K hK => ?_)
                go_simp
                go_at_call 45
                (with_reducible refine HHO.out.mono ?_)
                rintro e wh ⟨ra2, rc2, rfl, hro, hrg2, hrob⟩
                obtain ⟨ln, hln⟩ : ∃ ln, (kset y.hs au am).length = ln := ⟨_, rfl⟩
                rw [hln] at hro hrob ⊢
                obtain ⟨hth, kh0, khr, hI6⟩ := HI5.out.held (kset y.hs au am) (.slice ra2 ln rc2) (by simp only; rw [HI.out.2.2.1]; exact hrg2) (by rw [hln]; exact hro) (by simp only; rw [HI.out.2.2.1]; exact hrob)
                simp only at hI6
                rw [HI.out.2.2.2.2.2.2.1] at hI6
                obtain ⟨wi, hwi⟩ : ∃ wi, wh.setCells g (i * 3) [.string nm, .slice ra2 ln rc2, .slice p9a p9n p9c] = wi := ⟨_, rfl⟩
                rw [hwi] at hI6
                have khb : wh.heap[b3]? = some (.cells #[.int .u64 au, .int .i64 am] 103 (0, 0)) := (hrg2.block b3 (lt_of_block K3.out) (fun e => by
                  have h9 := HI4.out.2.2.2 b3 (by rw [HI.out.2.2.1]; exact e.symm)
                  omega)).trans K3.out
                have hgb : g ≠ b3 := fun e => by
                  have h8 := khr
                  rcases h8.2 with ⟨e2, -⟩ | ⟨g', cap, cur', e2, -, hg', -⟩
                  · cases e2
                  · injection e2 with e2 _ _
                    injection e2 with e2
                    injection e2 with e2 _ _
                    rw [← e2, e, khb] at hg'
                    injection hg' with hg'
                    injection hg' with _ hg' _
                    exact absurd hg' (by decide)
                have kib : wi.heap[b3]? = some (.cells #[.int .u64 au, .int .i64 am] 103 (0, 0)) := by
                  rw [← hwi]
                  have hgr := (lx_store3 khr (k := i) (by rw [List.length_set]; exact HI5.out.il) ⟨nm, [], [], .slice ra2 ln rc2, .slice p9a p9n p9c⟩).2
                  exact (hgr.block b3 (lt_of_block khb) (fun e => hgb (by injection e with e; exact e.symm))).trans khb
                obtain ⟨y0, y1, y2⟩ := lx_cells khr (by
                  have h9 := HI5.out.yat
                  exact h9) HI5.out.yln
                simp only at y0 y1 y2
                rw [HI.out.2.2.2.2.2.2.1] at y0
                rw [HI.out.2.2.1] at y1
                have hSh : wh.cell? ⟨w.heap.size, 0, none⟩ = some (.slice (some ⟨g, 0, none⟩) n1 c1) ∧ wh.cell? ⟨g, i * 3, none⟩ = some (.string nm) ∧ wh.cell? ⟨g, i * 3 + 1, none⟩ = some (.slice ya yn yc) ∧ wh.cell? ⟨g, i * 3 + 2, none⟩ = some (.slice p9a p9n p9c) ∧ wh.cell? ⟨b3, 0, none⟩ = some (.int .u64 au) ∧ wh.cell? ⟨b3, 1, none⟩ = some (.int .i64 am) :=
                  ⟨cell_of_row wh _ 0 _ _ _ kh0, y0, y1, y2, cell_of_row wh _ 0 _ _ _ khb, cell_of_row wh _ 1 _ _ _ khb⟩
                obtain ⟨R, cp, wj, hrj, hI7⟩ := hI6.tell (au, am) (by rw [HI.out.2.2.2.2.2.2.2.2.1]; have := HI.out.2.2.2.2.2.2.2.1.2.2; omega)
                rw [HI.out.2.2.2.2.2.2.2.2.1] at hrj hI7
                have hQ7 := HI.out.2.1.step HI4.out.2.2.1 HI4.out.2.1 (.slice ra2 ln rc2) (.slice p9a p9n p9c)
                simp only at hQ7
                rw [HI.out.2.2.2.2.2.2.1] at hQ7
                have HTH := Lib.hid hth
                have HRJ := Lib.hid hrj
                have HFN := Lib.hid (And.intro hI7 hQ7)
                have hcb : wi.cell? ⟨b3, 0, none⟩ = some (.int .u64 au) := cell_of_row wi _ 0 _ _ _ kib
                clear hro hrg2 hrob hln hth kh0 khr hI6 khb hgb kib y0 y1 y2 hrj hI7 hQ7 HHO
                refine hK.out _ _ (fun _ => hSh) (fun _ => ?_)
                clear hK K
                try simp only [Act.put, List.getElem_toArray, List.getElem_cons_succ, List.getElem_cons_zero, List.setIfInBounds_toArray, List.set_cons_zero, List.set_cons_succ]
                refine wpAnyU_take (i := 13) [14] rfl (by as_aux_lemma => kernel_rfl) (by as_aux_lemma => kernel_rfl) (by as_aux_lemma => kernel_rfl) (by as_aux_lemma => kernel_rfl) (by as_aux_lemma => kernel_rfl) (by as_aux_lemma => kernel_rfl) (fun _ _ _ h => h) (Or.inl ⟨by rfl, (by intro W hSW; (try dsimp only at hSW); (try go_split_ands); go_simp <;> with_reducible rfl)⟩) hSh ?_
                try simp only [Act.put, List.getElem_toArray, List.getElem_cons_succ, List.getElem_cons_zero, List.setIfInBounds_toArray, List.set_cons_zero, List.set_cons_succ]
                refine wpAnyU_one (i := 14) (by kernel_rfl) rfl (fun K hK => ?_)
                refine step_store_mid14 rfl _ _ _ rfl g (i * 3) [.string nm, .slice ra2 ln rc2, .slice p9a p9n p9c] (by simp [Act.eval, Act.put]) (by simp [Act.eval, Act.put]) HTH.out infoLk2 (by simp [Value.oneCell']) ?_
                rw [hwi]
                refine hK.out _ _ (fun h => absurd h (by decide)) (fun _ => ?_)
                clear hK K
                try simp only [Act.put, List.getElem_toArray, List.getElem_cons_succ, List.getElem_cons_zero, List.setIfInBounds_toArray, List.set_cons_zero, List.set_cons_succ]
                refine wpAnyU_done (by kernel_rfl) ?_ _
                clear hS0 hSh
                go_wp2_with (at_builtin; refine wpList_append_eq rfl rfl HRJ.out rfl rfl ?_; clear HRJ)
                go_roundw
                case rel => exact ⟨_, pre ++ [(au, am)], _, on + 1, cp, rfl, by rw [← List.append_assoc, List.length_append, HI.out.2.2.2.2.2.2.2.2.1]; rfl, by rw [← List.append_assoc]; exact HFN.out.1, HFN.out.2⟩
                case measure =>
                  have := HI.out.2.2.2.2.2.2.2.1.2.2
                  simp only [slN]
                  omega
    · have hii : ¬ (i : Int) < (n1 : Int) := by omega
      obtain ⟨w7, hw7⟩ : ∃ w7, wr.setRow (w.heap.size + 1) #[.slice a1 n1 c1] = w7 := ⟨_, rfl⟩
      have k7 : Hid (w7.heap[w.heap.size + 1]? = some (.cells #[.slice a1 n1 c1] 51 (0, 0))) := by
        show _ = _
        rw [← hw7]; exact setRow_heap wr _ _ _ _ _ hR.k1
      have hoth : ∀ k, k ≠ w.heap.size + 1 → w7.heap[k]? = wr.heap[k]? := fun k hk => by rw [← hw7]; exact setRow_otherL _ _ _ _ hk
      have hne : ∀ (k : Nat) (cs : Array Value) (ty : TypeId) (fr : Nat × Nat), wr.heap[k]? = some (.cells cs ty fr) → ty ≠ 51 → k ≠ w.heap.size + 1 := fun k cs ty fr hk hty e => by
        subst e
        rw [hR.k1] at hk
        injection hk with hk
        injection hk with _ hk _
        exact hty hk.symm
      have htk : (X.map (·.name)).take i = X.map (·.name) := List.take_of_length_le (by rw [List.length_map]; have := HST.out.2.2; have := HX.out.1; omega)
      have hrel := hP.rel
      have hout := hP.out
      rw [htk] at hrel hout
      rw [HX.out.2.1.part_all] at hrel
      have hpost : Hid (FrPostX F w X A o (.returned (.tuple #[.agg #[.slice a1 n1 c1], .slice oa on oc])) w7) := by
        refine ⟨_, Xi, _, l, rfl, hrel, ⟨?_, fun x hx => ?_, fun x hx => ?_⟩, hout, ?_, ⟨by rw [← hw7]; exact hR.bl.os, by rw [← hw7]; exact hR.bl.tape, by rw [← hw7]; exact hR.bl.output, by rw [← hw7, setRow_size]; exact hR.bl.size, fun k hk => by rw [hoth k (by omega)]; exact hR.bl.block k hk⟩, hP.len, hP.tt⟩
        · have h9 := RdV.of_own (F := F) (rowU_keep hR.row (fun k e => hoth k (by have := (hR.row.lt k e).1; omega))) (fun k hk hf => by have := HX.out.2.2.2 k hf; omega)
          rw [hR.ln]; exact h9
        · exact ((hR.hr x hx).keepT (fun k cur fr _ hc => hoth k (hne k _ _ _ hc (by decide))) (fun k _ h9 => h9) : GAt (oldF w) w7 _ _).mono (fun k _ h9 => HX.out.2.2.2 k h9)
        · exact ((hR.qr x hx).keepT (fun k cur fr _ hc => hoth k (hne k _ _ _ hc (by decide))) (fun k _ h9 => h9) : GAt (oldF w) w7 _ _).mono (fun k _ h9 => HX.out.2.2.2 k h9)
        · have h9 := rowU_keep hR.out (fun k e => hoth k (by have := (hR.out.lt k e).1; omega))
          rw [hon] at h9 ⊢
          exact rowU_mono' h9 (by omega)
      have HK := Lib.hid (And.intro hR.k0 hR.k1)
      clear hR hP hoth hne htk hrel hout hlt hin hon
      go_wp2_with (first | (refine wpList_load_row rfl _ _ rfl w.heap.size rfl _ _ (0, 0) _ HK.out.1 Try.underlying51 rfl infoT ?_) | (refine wpList_store_row rfl _ _ _ rfl (w.heap.size + 1) _ rfl rfl _ _ HK.out.2 infoT rfl (by simp [Value.oneCell']) ?_; rw [hw7]))
      exact bodyPost_ret (v := .tuple #[.agg #[.slice a1 n1 c1], .slice oa on oc]) (by simp [results, Try.results25, asAddr, run_loadVar_row w7 (w.heap.size + 1) 51 51 _ (0, 0) _ k7.out Try.underlying51 rfl infoT]) rfl hpost.out
end Mun
