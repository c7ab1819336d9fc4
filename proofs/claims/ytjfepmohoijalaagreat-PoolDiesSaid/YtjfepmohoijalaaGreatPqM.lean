/- PoolDies: a device that dies while pages are written out: the walk. -/
import Derived.Test.YtjfepmohoijalaaGreatPqL
import Derived.Test.YtjfepmohoijalaaGreatMgN
import Derived.Test.YtjfepmohoijalaaGreatMgK
import Derived.Test.YtjfepmohoijalaaGreatRegW
import Derived.Test.YtjfepmohoijalaaGreatDiskX8
import Derived.Deep.CutBlock
set_option maxRecDepth 100000
set_option linter.unusedVariables false
set_option linter.unusedSimpArgs false
namespace Mun
open Go Go.RowKit
open Go.Proofs

theorem load_row_g8 {P : Program} {ops : Array Oper} {rest : List Oper} {o : Oper} {a : Act} {w : World} {Q : Exit → Act → World → Prop} (hw : Region.wanted o (yielded ops a.tmps) = true) (ty : TypeId) (x : Operand) (ho : o.op = .load ty x)
    (g : Nat) (hx : a.eval x = .pointer (some ⟨g, 0, none⟩)) (t : TypeId) (cs : Array Value) (fr : Nat × Nat) (d : TypeDesc) (hg : w.heap[g]? = some (.cells cs t fr))
    (hu : P.underlying ty = some d) (hd : (match d with | .struct _ | .array _ _ => true | _ => false) = true) (hi : (P.info? ty).map (·.size) = some cs.size)
    (h : wpList P ops Q rest (a.put o.dst (.agg cs)) w) : wpList P ops Q (o :: rest) a w :=
  wpList_step fun K hK => by rw [if_pos hw]; exact wp_load_row ty x ho g hx t cs fr d hg hu hd hi (hK _ _ h)
theorem infoBn : (Tryz.prog.info? 28).map (·.size) = some 3 := by kernel_rfl
theorem infoDd : (Tryz.prog.info? 43).map (·.size) = some 3 := by kernel_rfl
theorem alloc_z6 (V : World) {b : Nat} {o : Obj} (h : V.heap[b]? = some o) : ∃ Nx V', V.heap.size = Nx ∧ V.alloc (.cells #[.slice none 0 0, .int .i64 0, .slice none 0 0, .slice none 0 0, .int .u64 0, .int .u64 0] 36) = V' ∧ PBox V' Nx Z6 ∧ Below V.heap.size V V' :=
  ⟨_, _, rfl, rfl, PBox.new V Z6, (Below.refl _ _).alloc (Nat.le_refl _) _⟩
theorem rangeAt_below {V V' : World} {b o : Nat} {cs : List Value} (h : V.rangeAt b o cs) (hb : Below V.heap.size V V') : V'.rangeAt b o cs := fun j v hv => by
  have := h j v hv
  rw [World.cell?_of_block (hb.block _ (World.block_lt_of_cell? _ _ this))]
  exact this

set_option maxHeartbeats 8000000 in
theorem dies_law8 (w : World) (pgs fr fu : Int) (lv cv : Value) (ds : List Deed) (cs : Bytes) (hv : DeedsAt NoF w lv ds) (hcv : RdB NoF w cv cs) (hxl : ds.length ≤ 3518437208882) :
    Calls Tryz.prog 4 #[.int .i64 pgs, .int .i64 fr, lv, .int .i64 fu, cv] w fun e w' => e = .returned (.bool true) ∧ Below w.heap.size w w' := by
  obtain ⟨ca, cn, cc, rfl, -⟩ := hcv.formN
  have HCV := Lib.hid hcv
  clear hcv
  obtain ⟨la, ln, lc, rfl, hln, hlc⟩ : ∃ la ln lc, lv = .slice la ln lc ∧ ds.length = ln ∧ ln ≤ lc := by
    obtain ⟨a, c, e, h1, h2⟩ := hv.row.form
    exact ⟨a, _, c, e, rfl, h1⟩
  obtain ⟨c, hc, hc8⟩ := and_7 pgs
  obtain ⟨c', hc', hc4⟩ := and_3 fr
  have haw := awake8 w
  have HAW := Lib.hid haw
  have HV := Lib.hid (And.intro hv (And.intro hln hxl))
  clear hv haw hxl hln
  go_enter Tryz.func4, Tryz.ntmps4
  go_wp2_with fail
  refine HAW.out.mono ?_
  rintro e w1 ⟨rfl, hb1⟩
  obtain ⟨n, hn⟩ : ∃ n, 1 + c = n := ⟨_, rfl⟩
  obtain ⟨k, hk⟩ : ∃ k, 1 + c' = k := ⟨_, rfl⟩
  have hnc : 1 + (c : Int) = (n : Int) := by omega
  have hkc : 1 + (c' : Int) = (k : Int) := by omega
  have hn8 : 1 ≤ n ∧ n ≤ 8 := by omega
  have hk4 : 1 ≤ k ∧ k ≤ 4 := by omega
  have hbe : Calls Tryz.prog 7 #[.int .i64 n, .int .i64 4096, .int .i64 k] w1 (BenchL w1 n 4096 k) := bench_pl w1 n 4096 k hn8.1 (by omega) (by decide) hk4.1 (by omega)
  have HBE := Lib.hid hbe
  have HB1 := Lib.hid hb1
  have HNK := Lib.hid (And.intro hn8 hk4)
  clear hbe hb1 HAW
  go_wp2_with fail
  refine HBE.out.mono ?_
  rintro e w2 ⟨D, L, Pb, g, x, rfl, ⟨-, hz⟩, hpl, hb2, haf⟩
  obtain ⟨w3, hw3⟩ : ∃ w3, w2.alloc (.cells #[.pointer (some ⟨D, 0, none⟩), .pointer (some ⟨L, 0, none⟩), .pointer (some ⟨Pb, 0, none⟩)] 28) = w3 := ⟨_, rfl⟩
  have hb23 : Below w2.heap.size w2 w3 := by rw [← hw3]; exact (Below.refl _ _).alloc (Nat.le_refl _) _
  obtain ⟨Bx, hBx⟩ : ∃ Bx, w2.heap.size = Bx := ⟨_, rfl⟩
  have kB : w3.heap[Bx]? = some (.cells (bcells D L Pb) 28 (0, 0)) := by rw [← hw3, ← hBx]; exact heap_alloc_new w2 _
  obtain ⟨s0, hs0⟩ : ∃ s0 : PX, ⟨DM.new n 4096, lm0, PM.new k⟩ = s0 := ⟨_, rfl⟩
  have hpi0 := pq_pi_new n k hn8 hk4
  rw [hs0] at hpl hpi0
  obtain ⟨f0, hf0⟩ : ∃ f0, lm0.fin = f0 := ⟨_, rfl⟩
  obtain ⟨f1, hf1⟩ : ∃ f1, lm0.base + lm0.forced = f1 := ⟨_, rfl⟩
  rw [hf0, hf1] at hpi0
  have HB0 : Hid (s0.dm.base = List.replicate n page0) := Lib.hid (by rw [← hs0]; rfl)
  have hlm : s0.lm = lm0 := by rw [← hs0]
  have hfz0 : s0.dm.fuse = -1 := by rw [← hs0]; rfl
  have hpl3 := hpl.below hb23
  have htf : ∀ q, x.tf Pb L q → w1.heap.size ≤ q ∧ q < w2.heap.size := fun q hq => ⟨haf q (x.tf_af Pb L q hq), hpl.lt q (x.tf_af Pb L q hq)⟩
  have hb13 : Below w1.heap.size w1 w3 := hb2.trans (hb23.mono hb2.size)
  have hB3 : Bx < w3.heap.size := (Array.getElem?_eq_some_iff.1 kB).1
  have hcB : ∀ V, Below w3.heap.size w3 V → V.cell? ⟨Bx, 1, none⟩ = some (.pointer (some ⟨L, 0, none⟩)) := fun V hb => cell_of_row _ _ 1 _ _ _ ((hb.block Bx hB3).trans kB)
  have hen : ∀ V, Below w3.heap.size w3 V → Calls Tryz.prog 9 #[.pointer (some ⟨L, 0, none⟩)] V fun e w' => e = .returned (.int .u64 (f0 : Int)) ∧ Below V.heap.size V w' := fun V hb => (end_pl (hpl3.below hb)).mono (by
    rintro e w' ⟨he, q, rfl⟩
    rw [hlm, hf0] at he
    exact ⟨he, below_drewN (Below.refl _ _) q⟩)
  have hfo : ∀ V, Below w3.heap.size w3 V → Calls Tryz.prog 10 #[.pointer (some ⟨L, 0, none⟩)] V fun e w' => e = .returned (.int .u64 (f1 : Int)) ∧ Below V.heap.size V w' := fun V hb => (forced_pl (hpl3.below hb)).mono (by
    rintro e w' ⟨he, q, rfl⟩
    rw [hlm, hf1] at he
    exact ⟨he, below_drewN (Below.refl _ _) q⟩)
  have hnw : ∀ V, Below w3.heap.size w3 V → Calls Tryz.prog 8 #[.int .i64 n, .int .i64 k, .int .u64 (f0 : Int), .int .u64 (f1 : Int)] V (REnd (OldF V.heap.size) V (RP.new n k f0 f1) id) := fun V hb => rp_new V (fun q hq => hq) n k f0 f1 (by omega) (by omega)
  have hal : ∀ V, Below w3.heap.size w3 V → ∃ Mx V', V.heap.size = Mx ∧ V.alloc (.cells #[.slice none 0 0, .int .i64 0, .slice none 0 0, .slice none 0 0, .int .u64 0, .int .u64 0] 36) = V' ∧ PBox V' Mx Z6 ∧ Below V.heap.size V V' ∧ w3.heap.size ≤ Mx := fun V hb =>
    ⟨_, _, rfl, rfl, PBox.new V Z6, (Below.refl _ _).alloc (Nat.le_refl _) _, hb.size⟩
  have hwk : IntKind.i64.wrap (k : Int) = (k : Int) := by rw [IntKind.wrap_i64]; omega
  have HEN := Lib.hid hen
  have HFO := Lib.hid hfo
  have HNW := Lib.hid hnw
  have HAL := Lib.hid hal
  have HCB := Lib.hid hcB
  have HZ := Lib.hid (And.intro hpl3 (And.intro hb13 (And.intro htf (And.intro kB (And.intro (show ¬ x.tf Pb L Bx from fun e => by have := (htf _ e).2; omega) (And.intro (show w1.heap.size ≤ Bx by have := hb2.size; omega) (And.intro hpi0 hfz0)))))))
  have c80 : w3.cell? ⟨Bx, 0, none⟩ = some (.pointer (some ⟨D, 0, none⟩)) := cell_of_row _ _ 0 _ _ _ kB
  clear hz hpl hb2 haf hb23 kB hn8 hk4 HBE hpi0 hs0 hf0 hf1 hlm hfz0 hpl3 htf hb13 hB3 hcB hen hfo hnw hal
  go_upto_region 7 with (first | rw [hBx] | rw [hw3])
  go_cut [14] (fun a wx => ∃ Mx xr xz, a = .pointer (some ⟨Mx, 0, none⟩) ∧ LS w1 wx D L Pb Bx Mx s0 xz (RP.new n k f0 f1) xr)
  case first =>
    as_aux_lemma =>
      have hS : Below w3.heap.size w3 w3.drew ∧ w3.drew.cell? ⟨Bx, 1, none⟩ = some (.pointer (some ⟨L, 0, none⟩)) := ⟨below_drewN (Below.refl _ _) 1, HCB.out _ (below_drewN (Below.refl _ _) 1)⟩
      refine wp_region_U (fun V => Below w3.heap.size w3 V ∧ V.cell? ⟨Bx, 1, none⟩ = some (.pointer (some ⟨L, 0, none⟩))) [] (by kernel_rfl) ?_
      refine wpAnyU_take (i := 0) [10, 12] rfl (by as_aux_lemma => kernel_rfl) (by as_aux_lemma => kernel_rfl) (by as_aux_lemma => kernel_rfl) (by as_aux_lemma => kernel_rfl) (by as_aux_lemma => kernel_rfl) (by as_aux_lemma => kernel_rfl) (fun _ _ _ h => h) (Or.inl ⟨by rfl, (by intro W hSW; (try dsimp only at hSW); (try go_split_ands); go_simp <;> with_reducible rfl)⟩) hS ?_
      try simp only [Act.put, List.getElem_toArray, List.getElem_cons_succ, List.getElem_cons_zero, List.setIfInBounds_toArray, List.set_cons_zero, List.set_cons_succ]
      refine wpAnyU_take (i := 1) [2, 3, 10, 12] rfl (by as_aux_lemma => kernel_rfl) (by as_aux_lemma => kernel_rfl) (by as_aux_lemma => kernel_rfl) (by as_aux_lemma => kernel_rfl) (by as_aux_lemma => kernel_rfl) (by as_aux_lemma => kernel_rfl) (fun _ _ _ h => h) (Or.inl ⟨by rfl, (by intro W hSW; (try dsimp only at hSW); (try go_split_ands); go_simp <;> with_reducible rfl)⟩) hS ?_
      try simp only [Act.put, List.getElem_toArray, List.getElem_cons_succ, List.getElem_cons_zero, List.setIfInBounds_toArray, List.set_cons_zero, List.set_cons_succ]
      refine wpAnyU_take (i := 2) [3, 10, 12] rfl (by as_aux_lemma => kernel_rfl) (by as_aux_lemma => kernel_rfl) (by as_aux_lemma => kernel_rfl) (by as_aux_lemma => kernel_rfl) (by as_aux_lemma => kernel_rfl) (by as_aux_lemma => kernel_rfl) (fun _ _ _ h => h) (Or.inl ⟨by rfl, (by intro W hSW; (try dsimp only at hSW); (try go_split_ands); go_simp <;> with_reducible rfl)⟩) hS ?_
      try simp only [Act.put, List.getElem_toArray, List.getElem_cons_succ, List.getElem_cons_zero, List.setIfInBounds_toArray, List.set_cons_zero, List.set_cons_succ]
      refine wpAnyU_take (i := 3) [10, 12] rfl (by as_aux_lemma => kernel_rfl) (by as_aux_lemma => kernel_rfl) (by as_aux_lemma => kernel_rfl) (by as_aux_lemma => kernel_rfl) (by as_aux_lemma => kernel_rfl) (by as_aux_lemma => kernel_rfl) (fun _ _ _ h => h) (Or.inl ⟨by rfl, (by intro W hSW; (try dsimp only at hSW); (try go_split_ands); go_simp <;> with_reducible rfl)⟩) hS ?_
      try simp only [Act.put, List.getElem_toArray, List.getElem_cons_succ, List.getElem_cons_zero, List.setIfInBounds_toArray, List.set_cons_zero, List.set_cons_succ]
      refine wpAnyU_take (i := 4) [5, 6, 9, 10, 12] rfl (by as_aux_lemma => kernel_rfl) (by as_aux_lemma => kernel_rfl) (by as_aux_lemma => kernel_rfl) (by as_aux_lemma => kernel_rfl) (by as_aux_lemma => kernel_rfl) (by as_aux_lemma => kernel_rfl) (fun _ _ _ h => h) (Or.inl ⟨by rfl, (by intro W hSW; (try dsimp only at hSW); (try go_split_ands); go_simp <;> with_reducible rfl)⟩) hS ?_
      try simp only [Act.put, List.getElem_toArray, List.getElem_cons_succ, List.getElem_cons_zero, List.setIfInBounds_toArray, List.set_cons_zero, List.set_cons_succ]
      refine wpAnyU_take (i := 5) [6, 9, 10, 12] rfl (by as_aux_lemma => kernel_rfl) (by as_aux_lemma => kernel_rfl) (by as_aux_lemma => kernel_rfl) (by as_aux_lemma => kernel_rfl) (by as_aux_lemma => kernel_rfl) (by as_aux_lemma => kernel_rfl) (fun _ _ _ h => h) (Or.inl ⟨by rfl, (by intro W hSW; (try dsimp only at hSW); (try go_split_ands); go_simp <;> with_reducible rfl)⟩) hS ?_
      try simp only [Act.put, List.getElem_toArray, List.getElem_cons_succ, List.getElem_cons_zero, List.setIfInBounds_toArray, List.set_cons_zero, List.set_cons_succ]
      refine wpAnyU_take (i := 7) [8, 9, 10, 12] rfl (by as_aux_lemma => kernel_rfl) (by as_aux_lemma => kernel_rfl) (by as_aux_lemma => kernel_rfl) (by as_aux_lemma => kernel_rfl) (by as_aux_lemma => kernel_rfl) (by as_aux_lemma => kernel_rfl) (fun _ _ _ h => h) (Or.inl ⟨by rfl, (by intro W hSW; (try dsimp only at hSW); (try go_split_ands); go_simp <;> with_reducible rfl)⟩) hS ?_
      try simp only [Act.put, List.getElem_toArray, List.getElem_cons_succ, List.getElem_cons_zero, List.setIfInBounds_toArray, List.set_cons_zero, List.set_cons_succ]
      refine wpAnyU_take (i := 8) [9, 10, 12] rfl (by as_aux_lemma => kernel_rfl) (by as_aux_lemma => kernel_rfl) (by as_aux_lemma => kernel_rfl) (by as_aux_lemma => kernel_rfl) (by as_aux_lemma => kernel_rfl) (by as_aux_lemma => kernel_rfl) (fun _ _ _ h => h) (Or.inl ⟨by rfl, (by intro W hSW; (try dsimp only at hSW); (try go_split_ands); go_simp <;> with_reducible rfl)⟩) hS ?_
      try simp only [Act.put, List.getElem_toArray, List.getElem_cons_succ, List.getElem_cons_zero, List.setIfInBounds_toArray, List.set_cons_zero, List.set_cons_succ]
      refine wpAnyU_two (i := 6) (j := 11) (by kernel_rfl) rfl rfl (fun K hK => ?_) (fun K hK => ?_)
      · go_simp
        go_at_call 9
        (with_reducible refine (HEN.out _ hS.1).mono ?_)
        rintro e wv ⟨rfl, hbv⟩
        (try (replace HKM := Lib.hid (PBox.below HKM.out hbv (PBox.lt HKM.out))))
        replace hS : Below w3.heap.size w3 wv ∧ wv.cell? ⟨Bx, 1, none⟩ = some (.pointer (some ⟨L, 0, none⟩)) := ⟨hS.1.trans (hbv.mono hS.1.size), HCB.out _ (hS.1.trans (hbv.mono hS.1.size))⟩
        clear hbv
        refine hK.out _ _ (fun _ => hS) (fun _ => ?_)
        clear hK K
        try simp only [Act.put, List.getElem_toArray, List.getElem_cons_succ, List.getElem_cons_zero, List.setIfInBounds_toArray, List.set_cons_zero, List.set_cons_succ]
        refine wpAnyU_two (i := 9) (j := 11) (by kernel_rfl) rfl rfl (fun K hK => ?_) (fun K hK => ?_)
        · go_simp
          go_at_call 10
          (with_reducible refine (HFO.out _ hS.1).mono ?_)
          rintro e wv ⟨rfl, hbv⟩
          (try (replace HKM := Lib.hid (PBox.below HKM.out hbv (PBox.lt HKM.out))))
          replace hS : Below w3.heap.size w3 wv ∧ wv.cell? ⟨Bx, 1, none⟩ = some (.pointer (some ⟨L, 0, none⟩)) := ⟨hS.1.trans (hbv.mono hS.1.size), HCB.out _ (hS.1.trans (hbv.mono hS.1.size))⟩
          clear hbv
          refine hK.out _ _ (fun _ => hS) (fun _ => ?_)
          clear hK K
          try simp only [Act.put, List.getElem_toArray, List.getElem_cons_succ, List.getElem_cons_zero, List.setIfInBounds_toArray, List.set_cons_zero, List.set_cons_succ]
          refine wpAnyU_two (i := 10) (j := 11) (by kernel_rfl) rfl rfl (fun K hK => ?_) (fun K hK => ?_)
          · go_simp
            (try rw [hwk])
            go_at_call 8
            (with_reducible refine (HNW.out _ hS.1).mono ?_)
            rintro e wv ⟨xN, rfl, haN, hbv⟩
            (try (have HRM := Lib.hid (RAt.keep (F' := fun q => q < w3.heap.size ∨ q = Mx) haN (fun q _ _ => rfl) (fun q _ h => h.elim (fun h => Nat.lt_of_lt_of_le h hS.1.size) (fun h => by rw [h]; exact PBox.lt HKM.out)))))
            have HRA := Lib.hid (RAt.keep (F' := fun q => q < w3.heap.size) haN (fun q _ _ => rfl) (fun q _ h => Nat.lt_of_lt_of_le h hS.1.size))
            (try (replace HKM := Lib.hid (PBox.below HKM.out hbv (PBox.lt HKM.out))))
            replace hS : Below w3.heap.size w3 wv ∧ wv.cell? ⟨Bx, 1, none⟩ = some (.pointer (some ⟨L, 0, none⟩)) := ⟨hS.1.trans (hbv.mono hS.1.size), HCB.out _ (hS.1.trans (hbv.mono hS.1.size))⟩
            clear hbv haN
            simp only [id]
            refine hK.out _ _ (fun _ => hS) (fun _ => ?_)
            clear hK K
            try simp only [Act.put, List.getElem_toArray, List.getElem_cons_succ, List.getElem_cons_zero, List.setIfInBounds_toArray, List.set_cons_zero, List.set_cons_succ]
            refine wpAnyU_one (i := 11) (by kernel_rfl) rfl (fun K hK => ?_)
            go_simp
            obtain ⟨Mx, wv, eM, eV, kM, hbv, hMl⟩ := HAL.out _ hS.1
            (first | rw [eV, eM] | (rw [show (w3.alloc (.cells #[.slice none 0 0, .int .i64 0, .slice none 0 0, .slice none 0 0, .int .u64 0, .int .u64 0] 36)).drew = wv from eV, show w3.heap.size = Mx from eM]))
            (try (have HRM := Lib.hid (RAt.keep (F' := fun q => q < w3.heap.size ∨ q = Mx) HRA.out (fun q hq _ => hbv.block q hq) (fun q hq h => h.elim id (fun h => by omega)))))
            have HKM := Lib.hid kM
            replace hS : Below w3.heap.size w3 wv ∧ wv.cell? ⟨Bx, 1, none⟩ = some (.pointer (some ⟨L, 0, none⟩)) := ⟨hS.1.trans (hbv.mono hS.1.size), HCB.out _ (hS.1.trans (hbv.mono hS.1.size))⟩
            clear eM eV kM hbv
            refine hK.out _ _ (fun _ => hS) (fun _ => ?_)
            clear hK K
            try simp only [Act.put, List.getElem_toArray, List.getElem_cons_succ, List.getElem_cons_zero, List.setIfInBounds_toArray, List.set_cons_zero, List.set_cons_succ]
            refine wpAnyU_one (i := 12) (by kernel_rfl) rfl (fun K hK => ?_)
            have HLS := Lib.hid (LS.first HZ.out.1 HZ.out.2.1 (fun q hq => (HZ.out.2.2.1 q hq).1) HZ.out.2.2.2.1 HZ.out.2.2.2.2.1 HZ.out.2.2.2.2.2.1 hS.1 HKM.out hMl HRM.out)
            have HSN := Lib.hid (rp_size (RP.new n k f0 f1) xN)
            have HON := Lib.hid HRM.out.one
            obtain ⟨csn, hcsn⟩ : ∃ csn, rpcells (RP.new n k f0 f1) xN = csn := ⟨_, rfl⟩
            have hb9 : Below w3.heap.size w3 (wv.setRow Mx (rpcells (RP.new n k f0 f1) xN)) := below_setRow hS.1 hMl _
            obtain ⟨w9, hw9⟩ : ∃ w9, wv.setRow Mx (rpcells (RP.new n k f0 f1) xN) = w9 := ⟨_, rfl⟩
            rw [hw9] at HLS hb9
            rw [hcsn] at HSN HON hw9 ⊢
            replace hS : Below w3.heap.size w3 w9 ∧ w9.cell? ⟨Bx, 1, none⟩ = some (.pointer (some ⟨L, 0, none⟩)) := ⟨hb9, HCB.out _ hb9⟩
            clear hb9 HRM HRA
            refine step_store_is rfl _ _ _ rfl Mx csn (by rfl) (by rfl) _ _ HKM.out HSN.out (by have := HSN.out; rw [info6] at this; injection this) HON.out ?_
            rw [hw9]
            refine hK.out _ _ (fun _ => hS) (fun _ => ?_)
            clear hK K
            try simp only [Act.put, List.getElem_toArray, List.getElem_cons_succ, List.getElem_cons_zero, List.setIfInBounds_toArray, List.set_cons_zero, List.set_cons_succ]
            refine wpAnyU_done (by kernel_rfl) ?_ _
            clear hS
            go_wp2
            go_meet
            exact ⟨Mx, xN, _, rfl, HLS.out⟩
          · go_simp
            obtain ⟨Mx, wv, eM, eV, kM, hbv, hMl⟩ := HAL.out _ hS.1
            (first | rw [eV, eM] | (rw [show (w3.alloc (.cells #[.slice none 0 0, .int .i64 0, .slice none 0 0, .slice none 0 0, .int .u64 0, .int .u64 0] 36)).drew = wv from eV, show w3.heap.size = Mx from eM]))
            (try (have HRM := Lib.hid (RAt.keep (F' := fun q => q < w3.heap.size ∨ q = Mx) HRA.out (fun q hq _ => hbv.block q hq) (fun q hq h => h.elim id (fun h => by omega)))))
            have HKM := Lib.hid kM
            replace hS : Below w3.heap.size w3 wv ∧ wv.cell? ⟨Bx, 1, none⟩ = some (.pointer (some ⟨L, 0, none⟩)) := ⟨hS.1.trans (hbv.mono hS.1.size), HCB.out _ (hS.1.trans (hbv.mono hS.1.size))⟩
            clear eM eV kM hbv
            refine hK.out _ _ (fun _ => hS) (fun _ => ?_)
            clear hK K
            try simp only [Act.put, List.getElem_toArray, List.getElem_cons_succ, List.getElem_cons_zero, List.setIfInBounds_toArray, List.set_cons_zero, List.set_cons_succ]
            refine wpAnyU_one (i := 10) (by kernel_rfl) rfl (fun K hK => ?_)
            go_simp
            (try rw [hwk])
            go_at_call 8
            (with_reducible refine (HNW.out _ hS.1).mono ?_)
            rintro e wv ⟨xN, rfl, haN, hbv⟩
            (try (have HRM := Lib.hid (RAt.keep (F' := fun q => q < w3.heap.size ∨ q = Mx) haN (fun q _ _ => rfl) (fun q _ h => h.elim (fun h => Nat.lt_of_lt_of_le h hS.1.size) (fun h => by rw [h]; exact PBox.lt HKM.out)))))
            have HRA := Lib.hid (RAt.keep (F' := fun q => q < w3.heap.size) haN (fun q _ _ => rfl) (fun q _ h => Nat.lt_of_lt_of_le h hS.1.size))
            (try (replace HKM := Lib.hid (PBox.below HKM.out hbv (PBox.lt HKM.out))))
            replace hS : Below w3.heap.size w3 wv ∧ wv.cell? ⟨Bx, 1, none⟩ = some (.pointer (some ⟨L, 0, none⟩)) := ⟨hS.1.trans (hbv.mono hS.1.size), HCB.out _ (hS.1.trans (hbv.mono hS.1.size))⟩
            clear hbv haN
            simp only [id]
            refine hK.out _ _ (fun _ => hS) (fun _ => ?_)
            clear hK K
            try simp only [Act.put, List.getElem_toArray, List.getElem_cons_succ, List.getElem_cons_zero, List.setIfInBounds_toArray, List.set_cons_zero, List.set_cons_succ]
            refine wpAnyU_one (i := 12) (by kernel_rfl) rfl (fun K hK => ?_)
            have HLS := Lib.hid (LS.first HZ.out.1 HZ.out.2.1 (fun q hq => (HZ.out.2.2.1 q hq).1) HZ.out.2.2.2.1 HZ.out.2.2.2.2.1 HZ.out.2.2.2.2.2.1 hS.1 HKM.out hMl HRM.out)
            have HSN := Lib.hid (rp_size (RP.new n k f0 f1) xN)
            have HON := Lib.hid HRM.out.one
            obtain ⟨csn, hcsn⟩ : ∃ csn, rpcells (RP.new n k f0 f1) xN = csn := ⟨_, rfl⟩
            have hb9 : Below w3.heap.size w3 (wv.setRow Mx (rpcells (RP.new n k f0 f1) xN)) := below_setRow hS.1 hMl _
            obtain ⟨w9, hw9⟩ : ∃ w9, wv.setRow Mx (rpcells (RP.new n k f0 f1) xN) = w9 := ⟨_, rfl⟩
            rw [hw9] at HLS hb9
            rw [hcsn] at HSN HON hw9 ⊢
            replace hS : Below w3.heap.size w3 w9 ∧ w9.cell? ⟨Bx, 1, none⟩ = some (.pointer (some ⟨L, 0, none⟩)) := ⟨hb9, HCB.out _ hb9⟩
            clear hb9 HRM HRA
            refine step_store_is rfl _ _ _ rfl Mx csn (by rfl) (by rfl) _ _ HKM.out HSN.out (by have := HSN.out; rw [info6] at this; injection this) HON.out ?_
            rw [hw9]
            refine hK.out _ _ (fun _ => hS) (fun _ => ?_)
            clear hK K
            try simp only [Act.put, List.getElem_toArray, List.getElem_cons_succ, List.getElem_cons_zero, List.setIfInBounds_toArray, List.set_cons_zero, List.set_cons_succ]
            refine wpAnyU_done (by kernel_rfl) ?_ _
            clear hS
            go_wp2
            go_meet
            exact ⟨Mx, xN, _, rfl, HLS.out⟩
        · go_simp
          obtain ⟨Mx, wv, eM, eV, kM, hbv, hMl⟩ := HAL.out _ hS.1
          (first | rw [eV, eM] | (rw [show (w3.alloc (.cells #[.slice none 0 0, .int .i64 0, .slice none 0 0, .slice none 0 0, .int .u64 0, .int .u64 0] 36)).drew = wv from eV, show w3.heap.size = Mx from eM]))
          (try (have HRM := Lib.hid (RAt.keep (F' := fun q => q < w3.heap.size ∨ q = Mx) HRA.out (fun q hq _ => hbv.block q hq) (fun q hq h => h.elim id (fun h => by omega)))))
          have HKM := Lib.hid kM
          replace hS : Below w3.heap.size w3 wv ∧ wv.cell? ⟨Bx, 1, none⟩ = some (.pointer (some ⟨L, 0, none⟩)) := ⟨hS.1.trans (hbv.mono hS.1.size), HCB.out _ (hS.1.trans (hbv.mono hS.1.size))⟩
          clear eM eV kM hbv
          refine hK.out _ _ (fun _ => hS) (fun _ => ?_)
          clear hK K
          try simp only [Act.put, List.getElem_toArray, List.getElem_cons_succ, List.getElem_cons_zero, List.setIfInBounds_toArray, List.set_cons_zero, List.set_cons_succ]
          refine wpAnyU_one (i := 9) (by kernel_rfl) rfl (fun K hK => ?_)
          go_simp
          go_at_call 10
          (with_reducible refine (HFO.out _ hS.1).mono ?_)
          rintro e wv ⟨rfl, hbv⟩
          (try (replace HKM := Lib.hid (PBox.below HKM.out hbv (PBox.lt HKM.out))))
          replace hS : Below w3.heap.size w3 wv ∧ wv.cell? ⟨Bx, 1, none⟩ = some (.pointer (some ⟨L, 0, none⟩)) := ⟨hS.1.trans (hbv.mono hS.1.size), HCB.out _ (hS.1.trans (hbv.mono hS.1.size))⟩
          clear hbv
          refine hK.out _ _ (fun _ => hS) (fun _ => ?_)
          clear hK K
          try simp only [Act.put, List.getElem_toArray, List.getElem_cons_succ, List.getElem_cons_zero, List.setIfInBounds_toArray, List.set_cons_zero, List.set_cons_succ]
          refine wpAnyU_one (i := 10) (by kernel_rfl) rfl (fun K hK => ?_)
          go_simp
          (try rw [hwk])
          go_at_call 8
          (with_reducible refine (HNW.out _ hS.1).mono ?_)
          rintro e wv ⟨xN, rfl, haN, hbv⟩
          (try (have HRM := Lib.hid (RAt.keep (F' := fun q => q < w3.heap.size ∨ q = Mx) haN (fun q _ _ => rfl) (fun q _ h => h.elim (fun h => Nat.lt_of_lt_of_le h hS.1.size) (fun h => by rw [h]; exact PBox.lt HKM.out)))))
          have HRA := Lib.hid (RAt.keep (F' := fun q => q < w3.heap.size) haN (fun q _ _ => rfl) (fun q _ h => Nat.lt_of_lt_of_le h hS.1.size))
          (try (replace HKM := Lib.hid (PBox.below HKM.out hbv (PBox.lt HKM.out))))
          replace hS : Below w3.heap.size w3 wv ∧ wv.cell? ⟨Bx, 1, none⟩ = some (.pointer (some ⟨L, 0, none⟩)) := ⟨hS.1.trans (hbv.mono hS.1.size), HCB.out _ (hS.1.trans (hbv.mono hS.1.size))⟩
          clear hbv haN
          simp only [id]
          refine hK.out _ _ (fun _ => hS) (fun _ => ?_)
          clear hK K
          try simp only [Act.put, List.getElem_toArray, List.getElem_cons_succ, List.getElem_cons_zero, List.setIfInBounds_toArray, List.set_cons_zero, List.set_cons_succ]
          refine wpAnyU_one (i := 12) (by kernel_rfl) rfl (fun K hK => ?_)
          have HLS := Lib.hid (LS.first HZ.out.1 HZ.out.2.1 (fun q hq => (HZ.out.2.2.1 q hq).1) HZ.out.2.2.2.1 HZ.out.2.2.2.2.1 HZ.out.2.2.2.2.2.1 hS.1 HKM.out hMl HRM.out)
          have HSN := Lib.hid (rp_size (RP.new n k f0 f1) xN)
          have HON := Lib.hid HRM.out.one
          obtain ⟨csn, hcsn⟩ : ∃ csn, rpcells (RP.new n k f0 f1) xN = csn := ⟨_, rfl⟩
          have hb9 : Below w3.heap.size w3 (wv.setRow Mx (rpcells (RP.new n k f0 f1) xN)) := below_setRow hS.1 hMl _
          obtain ⟨w9, hw9⟩ : ∃ w9, wv.setRow Mx (rpcells (RP.new n k f0 f1) xN) = w9 := ⟨_, rfl⟩
          rw [hw9] at HLS hb9
          rw [hcsn] at HSN HON hw9 ⊢
          replace hS : Below w3.heap.size w3 w9 ∧ w9.cell? ⟨Bx, 1, none⟩ = some (.pointer (some ⟨L, 0, none⟩)) := ⟨hb9, HCB.out _ hb9⟩
          clear hb9 HRM HRA
          refine step_store_is rfl _ _ _ rfl Mx csn (by rfl) (by rfl) _ _ HKM.out HSN.out (by have := HSN.out; rw [info6] at this; injection this) HON.out ?_
          rw [hw9]
          refine hK.out _ _ (fun _ => hS) (fun _ => ?_)
          clear hK K
          try simp only [Act.put, List.getElem_toArray, List.getElem_cons_succ, List.getElem_cons_zero, List.setIfInBounds_toArray, List.set_cons_zero, List.set_cons_succ]
          refine wpAnyU_done (by kernel_rfl) ?_ _
          clear hS
          go_wp2
          go_meet
          exact ⟨Mx, xN, _, rfl, HLS.out⟩
      · go_simp
        obtain ⟨Mx, wv, eM, eV, kM, hbv, hMl⟩ := HAL.out _ hS.1
        (first | rw [eV, eM] | (rw [show (w3.alloc (.cells #[.slice none 0 0, .int .i64 0, .slice none 0 0, .slice none 0 0, .int .u64 0, .int .u64 0] 36)).drew = wv from eV, show w3.heap.size = Mx from eM]))
        (try (have HRM := Lib.hid (RAt.keep (F' := fun q => q < w3.heap.size ∨ q = Mx) HRA.out (fun q hq _ => hbv.block q hq) (fun q hq h => h.elim id (fun h => by omega)))))
        have HKM := Lib.hid kM
        replace hS : Below w3.heap.size w3 wv ∧ wv.cell? ⟨Bx, 1, none⟩ = some (.pointer (some ⟨L, 0, none⟩)) := ⟨hS.1.trans (hbv.mono hS.1.size), HCB.out _ (hS.1.trans (hbv.mono hS.1.size))⟩
        clear eM eV kM hbv
        refine hK.out _ _ (fun _ => hS) (fun _ => ?_)
        clear hK K
        try simp only [Act.put, List.getElem_toArray, List.getElem_cons_succ, List.getElem_cons_zero, List.setIfInBounds_toArray, List.set_cons_zero, List.set_cons_succ]
        refine wpAnyU_one (i := 6) (by kernel_rfl) rfl (fun K hK => ?_)
        go_simp
        go_at_call 9
        (with_reducible refine (HEN.out _ hS.1).mono ?_)
        rintro e wv ⟨rfl, hbv⟩
        (try (replace HKM := Lib.hid (PBox.below HKM.out hbv (PBox.lt HKM.out))))
        replace hS : Below w3.heap.size w3 wv ∧ wv.cell? ⟨Bx, 1, none⟩ = some (.pointer (some ⟨L, 0, none⟩)) := ⟨hS.1.trans (hbv.mono hS.1.size), HCB.out _ (hS.1.trans (hbv.mono hS.1.size))⟩
        clear hbv
        refine hK.out _ _ (fun _ => hS) (fun _ => ?_)
        clear hK K
        try simp only [Act.put, List.getElem_toArray, List.getElem_cons_succ, List.getElem_cons_zero, List.setIfInBounds_toArray, List.set_cons_zero, List.set_cons_succ]
        refine wpAnyU_one (i := 9) (by kernel_rfl) rfl (fun K hK => ?_)
        go_simp
        go_at_call 10
        (with_reducible refine (HFO.out _ hS.1).mono ?_)
        rintro e wv ⟨rfl, hbv⟩
        (try (replace HKM := Lib.hid (PBox.below HKM.out hbv (PBox.lt HKM.out))))
        replace hS : Below w3.heap.size w3 wv ∧ wv.cell? ⟨Bx, 1, none⟩ = some (.pointer (some ⟨L, 0, none⟩)) := ⟨hS.1.trans (hbv.mono hS.1.size), HCB.out _ (hS.1.trans (hbv.mono hS.1.size))⟩
        clear hbv
        refine hK.out _ _ (fun _ => hS) (fun _ => ?_)
        clear hK K
        try simp only [Act.put, List.getElem_toArray, List.getElem_cons_succ, List.getElem_cons_zero, List.setIfInBounds_toArray, List.set_cons_zero, List.set_cons_succ]
        refine wpAnyU_one (i := 10) (by kernel_rfl) rfl (fun K hK => ?_)
        go_simp
        (try rw [hwk])
        go_at_call 8
        (with_reducible refine (HNW.out _ hS.1).mono ?_)
        rintro e wv ⟨xN, rfl, haN, hbv⟩
        (try (have HRM := Lib.hid (RAt.keep (F' := fun q => q < w3.heap.size ∨ q = Mx) haN (fun q _ _ => rfl) (fun q _ h => h.elim (fun h => Nat.lt_of_lt_of_le h hS.1.size) (fun h => by rw [h]; exact PBox.lt HKM.out)))))
        have HRA := Lib.hid (RAt.keep (F' := fun q => q < w3.heap.size) haN (fun q _ _ => rfl) (fun q _ h => Nat.lt_of_lt_of_le h hS.1.size))
        (try (replace HKM := Lib.hid (PBox.below HKM.out hbv (PBox.lt HKM.out))))
        replace hS : Below w3.heap.size w3 wv ∧ wv.cell? ⟨Bx, 1, none⟩ = some (.pointer (some ⟨L, 0, none⟩)) := ⟨hS.1.trans (hbv.mono hS.1.size), HCB.out _ (hS.1.trans (hbv.mono hS.1.size))⟩
        clear hbv haN
        simp only [id]
        refine hK.out _ _ (fun _ => hS) (fun _ => ?_)
        clear hK K
        try simp only [Act.put, List.getElem_toArray, List.getElem_cons_succ, List.getElem_cons_zero, List.setIfInBounds_toArray, List.set_cons_zero, List.set_cons_succ]
        refine wpAnyU_one (i := 12) (by kernel_rfl) rfl (fun K hK => ?_)
        have HLS := Lib.hid (LS.first HZ.out.1 HZ.out.2.1 (fun q hq => (HZ.out.2.2.1 q hq).1) HZ.out.2.2.2.1 HZ.out.2.2.2.2.1 HZ.out.2.2.2.2.2.1 hS.1 HKM.out hMl HRM.out)
        have HSN := Lib.hid (rp_size (RP.new n k f0 f1) xN)
        have HON := Lib.hid HRM.out.one
        obtain ⟨csn, hcsn⟩ : ∃ csn, rpcells (RP.new n k f0 f1) xN = csn := ⟨_, rfl⟩
        have hb9 : Below w3.heap.size w3 (wv.setRow Mx (rpcells (RP.new n k f0 f1) xN)) := below_setRow hS.1 hMl _
        obtain ⟨w9, hw9⟩ : ∃ w9, wv.setRow Mx (rpcells (RP.new n k f0 f1) xN) = w9 := ⟨_, rfl⟩
        rw [hw9] at HLS hb9
        rw [hcsn] at HSN HON hw9 ⊢
        replace hS : Below w3.heap.size w3 w9 ∧ w9.cell? ⟨Bx, 1, none⟩ = some (.pointer (some ⟨L, 0, none⟩)) := ⟨hb9, HCB.out _ hb9⟩
        clear hb9 HRM HRA
        refine step_store_is rfl _ _ _ rfl Mx csn (by rfl) (by rfl) _ _ HKM.out HSN.out (by have := HSN.out; rw [info6] at this; injection this) HON.out ?_
        rw [hw9]
        refine hK.out _ _ (fun _ => hS) (fun _ => ?_)
        clear hK K
        try simp only [Act.put, List.getElem_toArray, List.getElem_cons_succ, List.getElem_cons_zero, List.setIfInBounds_toArray, List.set_cons_zero, List.set_cons_succ]
        refine wpAnyU_done (by kernel_rfl) ?_ _
        clear hS
        go_wp2
        go_meet
        exact ⟨Mx, xN, _, rfl, HLS.out⟩
  case rest =>
    obtain ⟨Mx, xr0, xz0, ha10, hls0⟩ := hcut
    subst ha10
    obtain ⟨wz, rfl⟩ : ∃ wz : World, wz = wc := ⟨_, rfl⟩
    have hmk := make_slots n (by have := HNK.out.1; omega) wz
    obtain ⟨Cr, hCr⟩ : ∃ Cr, wz.heap.size = Cr := ⟨_, rfl⟩
    obtain ⟨w4, hw4⟩ : ∃ w4, wz.alloc (.cells (List.replicate n (Value.slice none 0 0)).toArray 41) = w4 := ⟨_, rfl⟩
    rw [hCr, hw4] at hmk
    have hb34 : Below Cr wz w4 := by rw [← hw4, ← hCr]; exact (Below.refl _ _).alloc (Nat.le_refl _) _
    have kL : w4.heap[Cr]? = some (.cells (List.replicate n (Value.slice none 0 0)).toArray 41 (0, 0)) := by rw [← hw4, ← hCr]; exact heap_alloc_new wz _
    have hm0 : RowC w4 w4 Cr n 0 (List.replicate n (Value.slice none 0 0)) := ⟨kL, by simp, fun j hj => absurd hj (by omega), fun j _ hj => by rw [List.getElem?_replicate, if_pos hj], Below.refl _ _⟩
    have HM0 := Lib.hid hm0
    have HL0 := Lib.hid (And.intro hls0 (And.intro HZ.out.2.2.2.2.2.2.1 (And.intro HZ.out.2.2.2.2.2.2.2 (And.intro hCr hb34))))
    have hn0 : (0 : Int) ≤ (n : Int) := by omega
    have hnn8 : (n : Int) ≤ 8 := by have := HNK.out.1; omega
    clear hls0 HZ HEN HFO HNW HAL HCB c80 hb34 kL hm0
    go_wp2_with fail
    clear hmk hw4
    go_loopw [16] (fun j wr => ∃ (q : Nat) (vals : List Value), j = .int .i64 q ∧ q ≤ n ∧ RowC w4 wr Cr n q vals) (fun j _ => n - (RowKit.intOf j).toNat)
    case atStart => exact ⟨0, _, rfl, Nat.zero_le _, HM0.out⟩
    case round =>
      obtain ⟨q, vals, rfl, hq, hrow⟩ := hrel
      have hq0 : (0 : Int) ≤ (q : Int) := by omega
      rcases Nat.lt_or_eq_of_le hq with hlt | heq
      · have hL4 : Cr < w4.heap.size := (Array.getElem?_eq_some_iff.1 HM0.out.row).1
        have hstep := hrow.step hlt hL4
        have hmb : (Instr.makeSlice 41 (.int .i64 512) (.int .i64 512)).run Tryz.prog wr = .ok (.slice (some ⟨wr.heap.size, 0, none⟩) 512 512) (wr.alloc (bobj page0)) := make_bytes 512 512 (Nat.le_refl _) (by decide) wr
        obtain ⟨g5, hg5⟩ : ∃ g5, wr.heap.size = g5 := ⟨_, rfl⟩
        obtain ⟨w5, hw5⟩ : ∃ w5, wr.alloc (bobj page0) = w5 := ⟨_, rfl⟩
        rw [hg5, hw5] at hmb hstep
        have hr5 : w5.heap[Cr]? = some (.cells vals.toArray 41 (0, 0)) := by rw [← hw5]; exact (((Below.refl wr.heap.size wr).alloc (Nat.le_refl _) (bobj page0)).block Cr (by have := hrow.below.size; omega)).trans hrow.row
        have cL : w5.cell? ⟨Cr, q, none⟩ = some (.slice none 0 0) := by rw [cell_of_row w5 Cr q _ _ _ hr5]; simpa using hrow.sl q (Nat.le_refl _) hlt
        have zL : w5.frozen? ⟨Cr, q, none⟩ = false := by simp [World.frozen?, hr5]
        obtain ⟨w6, hw6⟩ : ∃ w6, w5.setCell ⟨Cr, q, none⟩ (.slice (some ⟨g5, 0, none⟩) 512 512) = w6 := ⟨_, rfl⟩
        rw [hw6] at hstep
        have HS := Lib.hid (And.intro hstep hlt)
        have hqi : (q : Int) < (n : Int) := by omega
        clear hrow hL4 hstep hr5 hlt hq hw5 hg5
        go_wp2
        go_roundw
        case rel => exact ⟨q + 1, _, rfl, by have := HS.out.2; omega, HS.out.1⟩
        case measure => have := HS.out.2; simp [RowKit.intOf]; omega
      · have heq := heq.symm
        subst heq
        obtain ⟨hls0, hpi0, hfz0, hCr, hb34⟩ := HL0.out
        obtain ⟨wy, rfl⟩ : ∃ wy : World, wy = wr := ⟨_, rfl⟩
        have hL4 : Cr < w4.heap.size := (Array.getElem?_eq_some_iff.1 HM0.out.row).1
        have hbz : Below wz.heap.size wz wy := by rw [hCr]; exact hb34.trans hrow.below
        obtain ⟨hl1, c1, c2, c3⟩ := hls0.addN hbz Cr ⟨by omega, (Array.getElem?_eq_some_iff.1 hrow.row).1⟩
        obtain ⟨fz, hfz, hfz8⟩ := and_15 fu
        have hcr1 : CR w1 wy Pb L Cr Mx n { xz0 with Z := fun k => xz0.Z k ∨ k = Cr } vals (List.replicate n page0) := by
          refine ⟨hrow.row, hrow.vlen, fun j b hj => ?_, by rw [List.length_replicate], c1, by have := hls0.pm.below.size; omega, .inr rfl, c2⟩
          rw [List.getElem?_replicate] at hj
          split at hj
          · rename_i hjn
            injection hj with hj
            subst hj
            obtain ⟨u, h1, h2⟩ := hrow.rd j hjn
            refine ⟨u, h1, h2.mono (fun k _ hk => ?_)⟩
            show k < w4.heap.size
            rcases hk with hk | hk | hk
            · have := hls0.pm.tlt k hk; omega
            · have := hls0.mx.lt; omega
            · omega
          · cases hj
        have hfu := pq_fuse hl1.pm (fz : Int) (by omega) (by omega)
        have cB := hl1.cells.1
        have HFU := Lib.hid hfu
        have H1 := Lib.hid (And.intro hl1 (And.intro hcr1 (And.intro (hpi0.fused (fz : Int)) (show s0.dm.base = List.replicate n page0 from HB0.out))))
        clear hls0 hpi0 hfz0 hCr hb34 hL4 hbz hl1 c1 c2 c3 hcr1 hfu hrow hq HL0 HM0
        go_wp2_with fail
        refine HFU.out.mono ?_
        rintro e w5 ⟨rfl, x5, hm5, hc5⟩
        obtain ⟨hl1, hcr1, hpi1, hb1⟩ := H1.out
        obtain ⟨s5, hs5⟩ : ∃ s5 : PX, { s0 with dm := s0.dm.setFuse (fz : Int) } = s5 := ⟨_, rfl⟩
        have hl5 := hl1.to hm5 hc5
        have hcr5 := hcr1.chg hc5.1 (by rw [hc5.2]; exact hcr1.zC)
        have hb5 : s5.dm.base = List.replicate n page0 := by rw [← hs5]; exact hb1
        rw [hs5] at hl5 hpi1
        have hco : ∀ i, i < n → dlook (RP.new n k f0 f1).dt (i : Int) = none → (List.replicate n page0)[i]? = some (s5.dm.base.getD i page0) := fun i hk _ => by
          rw [hb5, List.getD_eq_getElem?_getD, List.getElem?_replicate, if_pos hk]; rfl
        have HL := Lib.hid (And.intro hl5 (And.intro hcr5 (And.intro hpi1 hco)))
        clear hl1 hcr1 hpi1 hb1 hs5 hl5 hcr5 hb5 hco hm5 hc5 HFU H1 cB
        go_upto_block 2 with (fail)
        go_cut [17, 18, 19, 20, 21, 22] (fun _ _ _ _ _ _ wx => ∃ s s2 x p xr vals cert last, AL w1 wx D L Pb Bx Mx Cr n s2 x p xr vals cert ∧ Endd n s s2 last p cert)
        case first =>
          as_aux_lemma =>
            go_wp2
            go_loopw [17, 18, 19, 20, 21, 22] (fun i0 _ _ _ _ _ wr => ∃ (j : Nat) (s : PX) (xz : PZ) (last : List Bytes) (p : RP) (xr : RPV) (vals : List Value) (cert : List Bytes), j ≤ ln ∧ i0 = .int .i64 (j : Int) ∧ LS w1 wr D L Pb Bx Mx s xz p xr ∧ CR w1 wr Pb L Cr Mx n xz vals cert ∧ PI n j s last p ∧ ∀ i, i < n → dlook p.dt (i : Int) = none → cert[i]? = some (s.dm.base.getD i page0))
              (fun i0 _ _ _ _ _ _ => ln - (RowKit.intOf i0).toNat)
            case atStart => exact ⟨0, _, _, _, _, _, _, _, Nat.zero_le _, rfl, HL.out.1, HL.out.2.1, HL.out.2.2.1, HL.out.2.2.2⟩
            case round =>
              obtain ⟨j, s, xz, last, p, xr, vals, cert, hj, rfl, hls, hcr, hpi, hco⟩ := hrel
              obtain ⟨wq, rfl⟩ : ∃ wq : World, wq = wr := ⟨_, rfl⟩
              have hj0 : (0 : Int) ≤ (j : Int) := by omega
              rcases Nat.lt_or_eq_of_le hj with hjl | rfl
              · have hji : (j : Int) < (ln : Int) := by omega
                obtain ⟨hdv, hdl, hxl⟩ := HV.out
                obtain ⟨dd, hdd⟩ : ∃ dd, ds[j]? = some dd := ⟨_, List.getElem?_eq_getElem (by omega)⟩
                have hdm := List.mem_of_getElem? hdd
                have hdj : ds[j]'(by omega) = dd := by
                  have h9 := List.getElem?_eq_getElem (l := ds) (i := j) (by omega)
                  rw [hdd] at h9
                  injection h9 with h9
                  exact h9.symm
                have hbw : ∀ V, Below w1.heap.size w1 V → Below w.heap.size w V := fun V hb => HB1.out.trans (hb.mono HB1.out.size)
                obtain ⟨lg, lo, lc', e, -, -, -⟩ := hdv.at_ j (by omega)
                injection e with e1 e2 e3
                subst e1 e3
                clear e2
                obtain ⟨ba, bn, bc, hbv, -⟩ := (hdv.rd dd hdm).formN
                obtain ⟨dop, hdop⟩ : ∃ dop, dd.op = dop := ⟨_, rfl⟩
                obtain ⟨dn, hdn⟩ : ∃ dn, dd.n = dn := ⟨_, rfl⟩
                have hrg : ∀ V, Below w1.heap.size w1 V → V.rangeAt lg (lo + j * 3) [.int .i64 dop, .int .i64 dn, .slice ba bn bc] := fun V hb => by
                  obtain ⟨lg', lo', lc9, e, -, -, ce0, ce1, ce2⟩ := (hdv.keep (fun k hk _ => (hbw V hb).block k hk) (fun _ _ h => h)).at_ j (by omega)
                  injection e with e1 e2 e3
                  injection e1 with e1
                  injection e1 with e1 e4
                  subst e1 e4
                  rw [hdj, hdop] at ce0
                  rw [hdj, hdn] at ce1
                  rw [hdj, hbv] at ce2
                  intro i u hu
                  match i, hu with
                  | 0, hu => injection hu with hu; rw [← hu]; exact ce0
                  | 1, hu => injection hu with hu; rw [← hu]; exact ce1
                  | 2, hu => injection hu with hu; rw [← hu]; exact ce2
                have hrb : ∀ V (xx : PZ), Below w1.heap.size w1 V → (∀ q, xx.tf Pb L q → w1.heap.size ≤ q) → RdB (xx.tf Pb L) V (.slice ba bn bc) dd.b := fun V xx hb htf => by
                  rw [← hbv]
                  exact RdV.keep (hdv.rd dd hdm) (fun q hq _ => (hbw V hb).block q hq) (fun q hq e => by have := htf q e; have := HB1.out.size; omega)
                have hpy : ∀ V xx, LS w1 V D L Pb Bx Mx s xx p xr → Calls Tryz.prog 11 #[.agg (bcells D L Pb), .agg (rpcells p xr), .agg #[.int .i64 dop, .int .i64 dn, .slice ba bn bc]] V (PlayQ w1 V D L Pb n (j + 1) s xx) := fun V xx h =>
                  pq_play h.pm hpi (by omega) dop dn (.slice ba bn bc) dd.b (hrb V xx h.pm.below h.pm.af0)
                have hsm := rp_size p xr
                obtain ⟨csm, hcsm⟩ : ∃ csm, rpcells p xr = csm := ⟨_, rfl⟩
                rw [hcsm] at hpy hsm
                have HCM := Lib.hid hcsm
                have HSM := Lib.hid hsm
                have HPY := Lib.hid hpy
                have HRG := Lib.hid hrg
                have HLQ := Lib.hid hls
                have HCZ := Lib.hid hcr.zC
                have HJ := Lib.hid (And.intro hjl (And.intro hpi (And.intro hco (And.intro hcr (show j + 1 ≤ 3518437208882 by omega)))))
                clear hdv hdl hxl hdd hdm hdj hbw hbv hdop hdn hrg hrb hpy hsm hcsm hls hpi hco hcr hjl hj
                go_upto_region 17 with (fail)
                go_cut [18, 19] (fun a f wx => ∃ Nx s' x' p' xr' fine, a = .pointer (some ⟨Nx, 0, none⟩) ∧ f = .bool fine ∧ NS w1 wx D L Pb Bx Mx Nx n (j + 1) s s' x' p xr p' xr' fine ∧ (Chg (xz.tf Pb L) (x'.tf Pb L) wq wx ∧ x'.Z Cr))
                case first =>
                  have HLS : Hid (LS w1 wq.drew D L Pb Bx Mx s xz p xr) := Lib.hid (HLQ.out.more (below_drewN (Below.refl _ _) 1))
                  have hS : (wq.drew.heap[Bx]? = some (.cells (bcells D L Pb) 28 (0, 0)) ∧ wq.drew.heap[Mx]? = some (.cells csm 36 (0, 0))) ∧ wq.drew.rangeAt lg (lo + j * 3) [.int .i64 dop, .int .i64 dn, .slice ba bn bc] := ⟨⟨HLS.out.bx, by rw [← HCM.out]; exact HLS.out.mx⟩, HRG.out _ HLS.out.pm.below⟩
                  refine wp_region_U (fun V => (V.heap[Bx]? = some (.cells (bcells D L Pb) 28 (0, 0)) ∧ V.heap[Mx]? = some (.cells csm 36 (0, 0))) ∧ V.rangeAt lg (lo + j * 3) [.int .i64 dop, .int .i64 dn, .slice ba bn bc]) [] (by kernel_rfl) ?_
                  refine wpAnyU_take (i := 0) [6, 7, 8, 9, 11, 12] rfl (by as_aux_lemma => kernel_rfl) (by as_aux_lemma => kernel_rfl) (by as_aux_lemma => kernel_rfl) (by as_aux_lemma => kernel_rfl) (by as_aux_lemma => kernel_rfl) (by as_aux_lemma => kernel_rfl) (fun _ _ _ h => h) (yields_load_row (by rfl) _ _ rfl Bx rfl _ _ (0, 0) _ (fun W hS => hS.1.1) Tryz.underlying28 rfl infoBn) hS ?_
                  try simp only [Act.put, List.getElem_toArray, List.getElem_cons_succ, List.getElem_cons_zero, List.setIfInBounds_toArray, List.set_cons_zero, List.set_cons_succ]
                  refine wpAnyU_take (i := 1) [6, 7, 8, 9, 11, 12] rfl (by as_aux_lemma => kernel_rfl) (by as_aux_lemma => kernel_rfl) (by as_aux_lemma => kernel_rfl) (by as_aux_lemma => kernel_rfl) (by as_aux_lemma => kernel_rfl) (by as_aux_lemma => kernel_rfl) (fun _ _ _ h => h) (yields_load_row (by rfl) _ _ rfl Mx rfl _ _ (0, 0) _ (fun W hS => hS.1.2) Tryz.underlying36 rfl HSM.out) hS ?_
                  try simp only [Act.put, List.getElem_toArray, List.getElem_cons_succ, List.getElem_cons_zero, List.setIfInBounds_toArray, List.set_cons_zero, List.set_cons_succ]
                  refine wpAnyU_take (i := 2) [4, 5, 6, 7, 8, 9, 11, 12] rfl (by as_aux_lemma => kernel_rfl) (by as_aux_lemma => kernel_rfl) (by as_aux_lemma => kernel_rfl) (by as_aux_lemma => kernel_rfl) (by as_aux_lemma => kernel_rfl) (by as_aux_lemma => kernel_rfl) (fun _ _ _ h => h) (Or.inl ⟨by rfl, (by intro W hSW; (try dsimp only at hSW); (try go_split_ands); go_simp <;> with_reducible rfl)⟩) hS ?_
                  try simp only [Act.put, List.getElem_toArray, List.getElem_cons_succ, List.getElem_cons_zero, List.setIfInBounds_toArray, List.set_cons_zero, List.set_cons_succ]
                  refine wpAnyU_take (i := 3) [4, 5, 6, 7, 8, 9, 11, 12] rfl (by as_aux_lemma => kernel_rfl) (by as_aux_lemma => kernel_rfl) (by as_aux_lemma => kernel_rfl) (by as_aux_lemma => kernel_rfl) (by as_aux_lemma => kernel_rfl) (by as_aux_lemma => kernel_rfl) (fun _ _ _ h => h) (Or.inl ⟨by rfl, (by intro W hSW; (try dsimp only at hSW); (try go_split_ands); go_simp <;> with_reducible rfl)⟩) hS ?_
                  try simp only [Act.put, List.getElem_toArray, List.getElem_cons_succ, List.getElem_cons_zero, List.setIfInBounds_toArray, List.set_cons_zero, List.set_cons_succ]
                  refine wpAnyU_take (i := 4) [5, 6, 7, 8, 9, 11, 12] rfl (by as_aux_lemma => kernel_rfl) (by as_aux_lemma => kernel_rfl) (by as_aux_lemma => kernel_rfl) (by as_aux_lemma => kernel_rfl) (by as_aux_lemma => kernel_rfl) (by as_aux_lemma => kernel_rfl) (fun _ _ _ h => h) (Or.inl ⟨by rfl, (by intro W hSW; (try dsimp only at hSW); (try go_split_ands); go_simp <;> with_reducible rfl)⟩) hS ?_
                  try simp only [Act.put, List.getElem_toArray, List.getElem_cons_succ, List.getElem_cons_zero, List.setIfInBounds_toArray, List.set_cons_zero, List.set_cons_succ]
                  refine wpAnyU_take (i := 5) [6, 7, 8, 9, 11, 12] rfl (by as_aux_lemma => kernel_rfl) (by as_aux_lemma => kernel_rfl) (by as_aux_lemma => kernel_rfl) (by as_aux_lemma => kernel_rfl) (by as_aux_lemma => kernel_rfl) (by as_aux_lemma => kernel_rfl) (fun _ _ _ h => h) (yieldsIf_load_mid (by rfl) _ _ rfl lg (lo + j * 3) rfl [.int .i64 dop, .int .i64 dn, .slice ba bn bc] _ (fun W hS => hS.2) Tryz.underlying43 rfl infoDd) hS ?_
                  try simp only [Act.put, List.getElem_toArray, List.getElem_cons_succ, List.getElem_cons_zero, List.setIfInBounds_toArray, List.set_cons_zero, List.set_cons_succ]
                  refine wpAnyU_two (i := 6) (j := 10) (by kernel_rfl) rfl rfl (fun K hK => ?_) (fun K hK => ?_)
                  · go_simp
                    go_at_call 11
                    (with_reducible refine (HPY.out _ _ HLS.out).mono ?_)
                    rintro e wv ⟨p2, xr2, fine, s2, s2z, rfl, hm2, ⟨hcg2, hz2⟩, hres2⟩
                    have hk2 := HLS.out.keep2 hcg2
                    replace hS : (wv.heap[Bx]? = some (.cells (bcells D L Pb) 28 (0, 0)) ∧ wv.heap[Mx]? = some (.cells csm 36 (0, 0))) ∧ wv.rangeAt lg (lo + j * 3) [.int .i64 dop, .int .i64 dn, .slice ba bn bc] := ⟨⟨hk2.1, by rw [← HCM.out]; exact hk2.2.1⟩, HRG.out _ hm2.below⟩
                    (try (have HPD := Lib.hid (LS.played2 HLS.out hcg2 hz2 hm2 hres2 HKN.out.1 HKN.out.2.1 HKN.out.2.2.1 HKN.out.2.2.2.1 HKN.out.2.2.2.2)))
                    (first | (have HCG := Lib.hid ((Chg.of_below HBA.out (xz.tf Pb L)).trans hcg2)) | (have HCG := Lib.hid ((Chg.of_below (below_drewN (Below.refl _ _) 1) (xz.tf Pb L)).trans hcg2)))
                    have HZC : Hid (s2z.Z Cr) := Lib.hid (by first | exact hz2 _ HCZ.out | exact hz2 _ (.inl HCZ.out))
                    have HPQ := Lib.hid (And.intro HLS.out (And.intro hcg2 (And.intro hz2 (And.intro hm2 hres2))))
                    clear hm2 hcg2 hz2 hres2 hk2
                    refine hK.out _ _ (fun _ => hS) (fun _ => ?_)
                    clear hK K
                    try simp only [Act.put, List.getElem_toArray, List.getElem_cons_succ, List.getElem_cons_zero, List.setIfInBounds_toArray, List.set_cons_zero, List.set_cons_succ]
                    refine wpAnyU_take (i := 7) [8, 9, 11, 12] rfl (by as_aux_lemma => kernel_rfl) (by as_aux_lemma => kernel_rfl) (by as_aux_lemma => kernel_rfl) (by as_aux_lemma => kernel_rfl) (by as_aux_lemma => kernel_rfl) (by as_aux_lemma => kernel_rfl) (fun _ _ _ h => h) (Or.inl ⟨by rfl, (by intro W hSW; (try dsimp only at hSW); (try go_split_ands); go_simp <;> with_reducible rfl)⟩) hS ?_
                    try simp only [Act.put, List.getElem_toArray, List.getElem_cons_succ, List.getElem_cons_zero, List.setIfInBounds_toArray, List.set_cons_zero, List.set_cons_succ]
                    refine wpAnyU_take (i := 8) [11, 12] rfl (by as_aux_lemma => kernel_rfl) (by as_aux_lemma => kernel_rfl) (by as_aux_lemma => kernel_rfl) (by as_aux_lemma => kernel_rfl) (by as_aux_lemma => kernel_rfl) (by as_aux_lemma => kernel_rfl) (fun _ _ _ h => h) (Or.inl ⟨by rfl, (by intro W hSW; (try dsimp only at hSW); (try go_split_ands); go_simp <;> with_reducible rfl)⟩) hS ?_
                    try simp only [Act.put, List.getElem_toArray, List.getElem_cons_succ, List.getElem_cons_zero, List.setIfInBounds_toArray, List.set_cons_zero, List.set_cons_succ]
                    refine wpAnyU_take (i := 9) [12] rfl (by as_aux_lemma => kernel_rfl) (by as_aux_lemma => kernel_rfl) (by as_aux_lemma => kernel_rfl) (by as_aux_lemma => kernel_rfl) (by as_aux_lemma => kernel_rfl) (by as_aux_lemma => kernel_rfl) (fun _ _ _ h => h) (Or.inl ⟨by rfl, (by intro W hSW; (try dsimp only at hSW); (try go_split_ands); go_simp <;> with_reducible rfl)⟩) hS ?_
                    try simp only [Act.put, List.getElem_toArray, List.getElem_cons_succ, List.getElem_cons_zero, List.setIfInBounds_toArray, List.set_cons_zero, List.set_cons_succ]
                    refine wpAnyU_one (i := 10) (by kernel_rfl) rfl (fun K hK => ?_)
                    go_simp
                    obtain ⟨Nx, wv, eN, eV, kN, hbv⟩ := alloc_z6 _ hS.1.1
                    (first | rw [eV, eN] | (rw [show (wq.alloc (.cells #[.slice none 0 0, .int .i64 0, .slice none 0 0, .slice none 0 0, .int .u64 0, .int .u64 0] 36)).drew = wv from eV, show wq.heap.size = Nx from eN]))
                    replace hS : (wv.heap[Bx]? = some (.cells (bcells D L Pb) 28 (0, 0)) ∧ wv.heap[Mx]? = some (.cells csm 36 (0, 0))) ∧ wv.rangeAt lg (lo + j * 3) [.int .i64 dop, .int .i64 dn, .slice ba bn bc] := ⟨⟨(hbv.block _ (Array.getElem?_eq_some_iff.1 hS.1.1).1).trans hS.1.1, (hbv.block _ (Array.getElem?_eq_some_iff.1 hS.1.2).1).trans hS.1.2⟩, rangeAt_below hS.2 hbv⟩
                    have HNl : Hid (wq.heap.size ≤ Nx) := Lib.hid (by first | (have h9 := HCG.out.size; omega) | (have h9 : wq.heap.size = Nx := eN; omega))
                    (first | (replace HCG := Lib.hid (HCG.out.trans (Chg.of_below hbv _))) | (have HBA : Hid (Below wq.heap.size wq wv) := Lib.hid ((below_drewN (Below.refl _ _) 1).trans hbv)))
                    (first | (have HPD := Lib.hid (LS.played1 HPQ.out.1 HPQ.out.2.1 HPQ.out.2.2.1 HPQ.out.2.2.2.1 HPQ.out.2.2.2.2 hbv kN (by omega)); clear HPQ) | (have hla := LS.addN HLS.out hbv Nx ⟨by omega, kN.lt⟩; have HKN := Lib.hid (And.intro kN (And.intro (show PZ.Z { xz with Z := fun k => xz.Z k ∨ k = Nx } Nx from .inr rfl) (And.intro hla.2.1 (And.intro hla.2.2.1 (show w1.heap.size ≤ Nx by have := HLS.out.pm.below.size; omega))))); replace HLS := Lib.hid hla.1; clear hla))
                    clear eN eV kN hbv
                    refine hK.out _ _ (fun _ => hS) (fun _ => ?_)
                    clear hK K
                    try simp only [Act.put, List.getElem_toArray, List.getElem_cons_succ, List.getElem_cons_zero, List.setIfInBounds_toArray, List.set_cons_zero, List.set_cons_succ]
                    refine wpAnyU_one (i := 11) (by kernel_rfl) rfl (fun K hK => ?_)
                    have HNS := Lib.hid HPD.out.store
                    have HCN := Lib.hid (HCG.out.setRow HNl.out (rpcells p2 xr2))
                    have HSN := Lib.hid (rp_size p2 xr2)
                    have HON := Lib.hid HPD.out.pm.ra.one
                    have HKX := Lib.hid HPD.out.nx
                    obtain ⟨w9, hw9⟩ : ∃ w9, wv.setRow Nx (rpcells p2 xr2) = w9 := ⟨_, rfl⟩
                    rw [hw9] at HNS HCN
                    replace hS : (w9.heap[Bx]? = some (.cells (bcells D L Pb) 28 (0, 0)) ∧ w9.heap[Mx]? = some (.cells csm 36 (0, 0))) ∧ w9.rangeAt lg (lo + j * 3) [.int .i64 dop, .int .i64 dn, .slice ba bn bc] := ⟨⟨HNS.out.bx, by rw [← HCM.out]; exact HNS.out.mx⟩, HRG.out _ HNS.out.pm.below⟩
                    obtain ⟨csn, hcsn⟩ : ∃ csn, rpcells p2 xr2 = csn := ⟨_, rfl⟩
                    rw [hcsn] at HSN HON hw9 ⊢
                    refine step_store_is rfl _ _ _ rfl Nx csn (by rfl) (by rfl) _ _ HKX.out HSN.out (by have := HSN.out; rw [info6] at this; injection this) HON.out ?_
                    rw [hw9]
                    clear HPD HKX
                    refine hK.out _ _ (fun _ => hS) (fun _ => ?_)
                    clear hK K
                    try simp only [Act.put, List.getElem_toArray, List.getElem_cons_succ, List.getElem_cons_zero, List.setIfInBounds_toArray, List.set_cons_zero, List.set_cons_succ]
                    refine wpAnyU_take (i := 12) [] rfl (by as_aux_lemma => kernel_rfl) (by as_aux_lemma => kernel_rfl) (by as_aux_lemma => kernel_rfl) (by as_aux_lemma => kernel_rfl) (by as_aux_lemma => kernel_rfl) (by as_aux_lemma => kernel_rfl) (fun _ _ _ h => h) (Or.inl ⟨by rfl, (by intro W hSW; (try dsimp only at hSW); (try go_split_ands); go_simp <;> with_reducible rfl)⟩) hS ?_
                    try simp only [Act.put, List.getElem_toArray, List.getElem_cons_succ, List.getElem_cons_zero, List.setIfInBounds_toArray, List.set_cons_zero, List.set_cons_succ]
                    refine wpAnyU_done (by kernel_rfl) ?_ _
                    clear hS
                    go_wp2
                    go_meet
                    exact ⟨Nx, _, _, _, _, fine, rfl, rfl, HNS.out, HCN.out, by first | exact HZC.out | exact .inl HZC.out⟩
                  · go_simp
                    obtain ⟨Nx, wv, eN, eV, kN, hbv⟩ := alloc_z6 _ hS.1.1
                    (first | rw [eV, eN] | (rw [show (wq.alloc (.cells #[.slice none 0 0, .int .i64 0, .slice none 0 0, .slice none 0 0, .int .u64 0, .int .u64 0] 36)).drew = wv from eV, show wq.heap.size = Nx from eN]))
                    replace hS : (wv.heap[Bx]? = some (.cells (bcells D L Pb) 28 (0, 0)) ∧ wv.heap[Mx]? = some (.cells csm 36 (0, 0))) ∧ wv.rangeAt lg (lo + j * 3) [.int .i64 dop, .int .i64 dn, .slice ba bn bc] := ⟨⟨(hbv.block _ (Array.getElem?_eq_some_iff.1 hS.1.1).1).trans hS.1.1, (hbv.block _ (Array.getElem?_eq_some_iff.1 hS.1.2).1).trans hS.1.2⟩, rangeAt_below hS.2 hbv⟩
                    have HNl : Hid (wq.heap.size ≤ Nx) := Lib.hid (by first | (have h9 := HCG.out.size; omega) | (have h9 : wq.heap.size = Nx := eN; omega))
                    (first | (replace HCG := Lib.hid (HCG.out.trans (Chg.of_below hbv _))) | (have HBA : Hid (Below wq.heap.size wq wv) := Lib.hid ((below_drewN (Below.refl _ _) 1).trans hbv)))
                    (first | (have HPD := Lib.hid (LS.played1 HPQ.out.1 HPQ.out.2.1 HPQ.out.2.2.1 HPQ.out.2.2.2.1 HPQ.out.2.2.2.2 hbv kN (by omega)); clear HPQ) | (have hla := LS.addN HLS.out hbv Nx ⟨by omega, kN.lt⟩; have HKN := Lib.hid (And.intro kN (And.intro (show PZ.Z { xz with Z := fun k => xz.Z k ∨ k = Nx } Nx from .inr rfl) (And.intro hla.2.1 (And.intro hla.2.2.1 (show w1.heap.size ≤ Nx by have := HLS.out.pm.below.size; omega))))); replace HLS := Lib.hid hla.1; clear hla))
                    clear eN eV kN hbv
                    refine hK.out _ _ (fun _ => hS) (fun _ => ?_)
                    clear hK K
                    try simp only [Act.put, List.getElem_toArray, List.getElem_cons_succ, List.getElem_cons_zero, List.setIfInBounds_toArray, List.set_cons_zero, List.set_cons_succ]
                    refine wpAnyU_one (i := 6) (by kernel_rfl) rfl (fun K hK => ?_)
                    go_simp
                    go_at_call 11
                    (with_reducible refine (HPY.out _ _ HLS.out).mono ?_)
                    rintro e wv ⟨p2, xr2, fine, s2, s2z, rfl, hm2, ⟨hcg2, hz2⟩, hres2⟩
                    have hk2 := HLS.out.keep2 hcg2
                    replace hS : (wv.heap[Bx]? = some (.cells (bcells D L Pb) 28 (0, 0)) ∧ wv.heap[Mx]? = some (.cells csm 36 (0, 0))) ∧ wv.rangeAt lg (lo + j * 3) [.int .i64 dop, .int .i64 dn, .slice ba bn bc] := ⟨⟨hk2.1, by rw [← HCM.out]; exact hk2.2.1⟩, HRG.out _ hm2.below⟩
                    (try (have HPD := Lib.hid (LS.played2 HLS.out hcg2 hz2 hm2 hres2 HKN.out.1 HKN.out.2.1 HKN.out.2.2.1 HKN.out.2.2.2.1 HKN.out.2.2.2.2)))
                    (first | (have HCG := Lib.hid ((Chg.of_below HBA.out (xz.tf Pb L)).trans hcg2)) | (have HCG := Lib.hid ((Chg.of_below (below_drewN (Below.refl _ _) 1) (xz.tf Pb L)).trans hcg2)))
                    have HZC : Hid (s2z.Z Cr) := Lib.hid (by first | exact hz2 _ HCZ.out | exact hz2 _ (.inl HCZ.out))
                    have HPQ := Lib.hid (And.intro HLS.out (And.intro hcg2 (And.intro hz2 (And.intro hm2 hres2))))
                    clear hm2 hcg2 hz2 hres2 hk2
                    refine hK.out _ _ (fun _ => hS) (fun _ => ?_)
                    clear hK K
                    try simp only [Act.put, List.getElem_toArray, List.getElem_cons_succ, List.getElem_cons_zero, List.setIfInBounds_toArray, List.set_cons_zero, List.set_cons_succ]
                    refine wpAnyU_take (i := 7) [8, 9, 11, 12] rfl (by as_aux_lemma => kernel_rfl) (by as_aux_lemma => kernel_rfl) (by as_aux_lemma => kernel_rfl) (by as_aux_lemma => kernel_rfl) (by as_aux_lemma => kernel_rfl) (by as_aux_lemma => kernel_rfl) (fun _ _ _ h => h) (Or.inl ⟨by rfl, (by intro W hSW; (try dsimp only at hSW); (try go_split_ands); go_simp <;> with_reducible rfl)⟩) hS ?_
                    try simp only [Act.put, List.getElem_toArray, List.getElem_cons_succ, List.getElem_cons_zero, List.setIfInBounds_toArray, List.set_cons_zero, List.set_cons_succ]
                    refine wpAnyU_take (i := 8) [11, 12] rfl (by as_aux_lemma => kernel_rfl) (by as_aux_lemma => kernel_rfl) (by as_aux_lemma => kernel_rfl) (by as_aux_lemma => kernel_rfl) (by as_aux_lemma => kernel_rfl) (by as_aux_lemma => kernel_rfl) (fun _ _ _ h => h) (Or.inl ⟨by rfl, (by intro W hSW; (try dsimp only at hSW); (try go_split_ands); go_simp <;> with_reducible rfl)⟩) hS ?_
                    try simp only [Act.put, List.getElem_toArray, List.getElem_cons_succ, List.getElem_cons_zero, List.setIfInBounds_toArray, List.set_cons_zero, List.set_cons_succ]
                    refine wpAnyU_take (i := 9) [12] rfl (by as_aux_lemma => kernel_rfl) (by as_aux_lemma => kernel_rfl) (by as_aux_lemma => kernel_rfl) (by as_aux_lemma => kernel_rfl) (by as_aux_lemma => kernel_rfl) (by as_aux_lemma => kernel_rfl) (fun _ _ _ h => h) (Or.inl ⟨by rfl, (by intro W hSW; (try dsimp only at hSW); (try go_split_ands); go_simp <;> with_reducible rfl)⟩) hS ?_
                    try simp only [Act.put, List.getElem_toArray, List.getElem_cons_succ, List.getElem_cons_zero, List.setIfInBounds_toArray, List.set_cons_zero, List.set_cons_succ]
                    refine wpAnyU_one (i := 11) (by kernel_rfl) rfl (fun K hK => ?_)
                    have HNS := Lib.hid HPD.out.store
                    have HCN := Lib.hid (HCG.out.setRow HNl.out (rpcells p2 xr2))
                    have HSN := Lib.hid (rp_size p2 xr2)
                    have HON := Lib.hid HPD.out.pm.ra.one
                    have HKX := Lib.hid HPD.out.nx
                    obtain ⟨w9, hw9⟩ : ∃ w9, wv.setRow Nx (rpcells p2 xr2) = w9 := ⟨_, rfl⟩
                    rw [hw9] at HNS HCN
                    replace hS : (w9.heap[Bx]? = some (.cells (bcells D L Pb) 28 (0, 0)) ∧ w9.heap[Mx]? = some (.cells csm 36 (0, 0))) ∧ w9.rangeAt lg (lo + j * 3) [.int .i64 dop, .int .i64 dn, .slice ba bn bc] := ⟨⟨HNS.out.bx, by rw [← HCM.out]; exact HNS.out.mx⟩, HRG.out _ HNS.out.pm.below⟩
                    obtain ⟨csn, hcsn⟩ : ∃ csn, rpcells p2 xr2 = csn := ⟨_, rfl⟩
                    rw [hcsn] at HSN HON hw9 ⊢
                    refine step_store_is rfl _ _ _ rfl Nx csn (by rfl) (by rfl) _ _ HKX.out HSN.out (by have := HSN.out; rw [info6] at this; injection this) HON.out ?_
                    rw [hw9]
                    clear HPD HKX
                    refine hK.out _ _ (fun _ => hS) (fun _ => ?_)
                    clear hK K
                    try simp only [Act.put, List.getElem_toArray, List.getElem_cons_succ, List.getElem_cons_zero, List.setIfInBounds_toArray, List.set_cons_zero, List.set_cons_succ]
                    refine wpAnyU_take (i := 12) [] rfl (by as_aux_lemma => kernel_rfl) (by as_aux_lemma => kernel_rfl) (by as_aux_lemma => kernel_rfl) (by as_aux_lemma => kernel_rfl) (by as_aux_lemma => kernel_rfl) (by as_aux_lemma => kernel_rfl) (fun _ _ _ h => h) (Or.inl ⟨by rfl, (by intro W hSW; (try dsimp only at hSW); (try go_split_ands); go_simp <;> with_reducible rfl)⟩) hS ?_
                    try simp only [Act.put, List.getElem_toArray, List.getElem_cons_succ, List.getElem_cons_zero, List.setIfInBounds_toArray, List.set_cons_zero, List.set_cons_succ]
                    refine wpAnyU_done (by kernel_rfl) ?_ _
                    clear hS
                    go_wp2
                    go_meet
                    exact ⟨Nx, _, _, _, _, fine, rfl, rfl, HNS.out, HCN.out, by first | exact HZC.out | exact .inl HZC.out⟩
                case rest =>
                  obtain ⟨Nx, s2, x2, p2, xr2, fine, ha12, hf13, hns, hcg, hzc⟩ := hcut
                  subst ha12
                  subst hf13

                  have hdd := d_dead wc D x2.Fd s2.dm hns.pm.pl.disk
                  have cB : wc.cell? ⟨Bx, 0, none⟩ = some (.pointer (some ⟨D, 0, none⟩)) := cell_of_row _ _ 0 _ _ _ hns.bx
                  have HDD := Lib.hid hdd
                  have HNS := Lib.hid (And.intro hns (And.intro hcg hzc))
                  clear hdd hns hcg hzc HPY HRG HCZ
                  go_wp2_with fail
                  refine HDD.out.mono ?_
                  rintro e w5 ⟨rfl, hw5⟩
                  subst hw5
                  obtain ⟨hns, hcg, hzc⟩ := HNS.out
                  obtain ⟨hjl, hpi, hco, hcr, hjs⟩ := HJ.out
                  have hls := HLQ.out
                  have hcrc := hcr.chg hcg hzc
                  cases hde : s2.dm.dead with
                  | true =>
                    have hh : Hurt s s2 := by
                      rcases hns.res with ⟨-, -, l9, a⟩ | ⟨-, a⟩
                      · have := a.alive; rw [hde] at this; cases this
                      · exact a
                    have hAL : AL w1 wc D L Pb Bx Mx Cr n s2 x2 p xr vals cert := ⟨⟨_, _, hns.pm⟩, hls.pm.ra.keep (fun i hi hn => hcg.block i hi (fun e => hn (xz.tf_af Pb L i e))) (fun i hi e => xz.tf_af Pb L i ((hcg.foot i e).resolve_right (by omega))), hns.bx, hns.mx, hns.nB, hns.nM, hcrc⟩
                    have hE : Endd n s s2 last p cert := ⟨⟨j, hpi⟩, torn_live hls.pm.pl.disk.wf hpi.alive, hpi.opsb hls.pm, .inr ⟨hh, hpi.dead hls.pm hh⟩, hco⟩
                    have HM := Lib.hid (And.intro hAL hE)
                    clear hns hcg hzc hjl hpi hco hcr hjs hls hcrc hh hAL hE HNS HJ HLQ HDD cB
                    go_wp2
                    go_meet
                    exact ⟨s, s2, x2, p, xr, vals, cert, last, HM.out.1, HM.out.2⟩
                  | false =>
                    have hres : fine = true ∧ ∃ last', PI n (j + 1) s2 last' p2 := by
                      rcases hns.res with ⟨a1, -, a3⟩ | ⟨-, a⟩
                      · exact ⟨a1, a3⟩
                      · have := a.dead; rw [hde] at this; cases this
                    obtain ⟨rfl, last2, hpi2⟩ := hres
                    have hl8 := hns.next
                    have hcr8 := hcrc.setM (rpcells p2 xr2)
                    have hsn := rp_size p2 xr2
                    have hon := hns.pm.ra.one
                    have hnx := hns.nx
                    have hmx := hns.mx
                    obtain ⟨w8, hw8⟩ : ∃ w8, wc.setRow Mx (rpcells p2 xr2) = w8 := ⟨_, rfl⟩
                    rw [hw8] at hl8 hcr8
                    obtain ⟨csn, hcsn⟩ : ∃ csn, rpcells p2 xr2 = csn := ⟨_, rfl⟩
                    rw [hcsn] at hw8 hsn hon hnx
                    have HSN := Lib.hid hsn
                    have HON := Lib.hid hon
                    have HKN := Lib.hid hnx
                    have HKM := Lib.hid hmx
                    have H8 := Lib.hid (And.intro hl8 (And.intro hcr8 hpi2))
                    have HJ2 := Lib.hid (And.intro hjl hjs)
                    clear hns hcg hzc hjl hpi hco hcr hjs hls hcrc hpi2 hl8 hcr8 hsn hon hnx hmx hcsn hde HNS HJ HLQ HDD cB HSM HCM
                    go_wp2_with (first | (refine wpList_load_row rfl _ _ rfl Nx rfl _ _ (0, 0) _ HKN.out Tryz.underlying36 rfl HSN.out ?_) | (refine wpList_store_row rfl _ _ _ rfl Mx _ rfl rfl _ _ HKM.out HSN.out (by have := HSN.out; rw [info6] at this; injection this) HON.out ?_; rw [hw8]))
                    go_loopw [20, 21, 22] (fun i0 _ _ wr => ∃ (q : Nat) (vals' : List Value) (cert' : List Bytes), q ≤ n ∧ i0 = .int .i64 (q : Int) ∧ LS w1 wr D L Pb Bx Mx s2 x2 p2 xr2 ∧ CR w1 wr Pb L Cr Mx n x2 vals' cert' ∧ ∀ i, i < q → dlook p2.dt (i : Int) = none → cert'[i]? = some (s2.dm.base.getD i page0)) (fun i0 _ _ _ => n - (RowKit.intOf i0).toNat)
                    case atStart => exact ⟨0, vals, cert, Nat.zero_le _, rfl, H8.out.1, H8.out.2.1, fun i hi => absurd hi (by omega)⟩
                    case round =>
                      obtain ⟨q, vals', cert', hq, rfl, hl, hc, hok⟩ := hrel
                      obtain ⟨wt, rfl⟩ : ∃ wt : World, wt = wr := ⟨_, rfl⟩
                      have hq0 : (0 : Int) ≤ (q : Int) := by omega
                      rcases Nat.lt_or_eq_of_le hq with hql | hqe
                      · have hpi2 := H8.out.2.2
                        obtain ⟨da, dc, edv, -, -⟩ := hl.pm.ra.ds.form
                        obtain ⟨dm, hdm⟩ : ∃ dm, p2.dt.length = dm := ⟨_, rfl⟩
                        rw [hdm] at edv
                        have a2 : wt.cell? ⟨Mx, 2, none⟩ = some (.slice da dm dc) := hl.mx.cell 2 (by simp [rpcells, edv])
                        have hds := hl.pm.ra.ds
                        rw [hdm] at hds
                        have hdts : DtS p2.dt := by have e : p2.dt = s2.pm.dt := hpi2.lk.dt; rw [e]; exact hpi2.ti.dts
                        have hdm8 : (dm : Int) ≤ 8 := by have e : p2.dt = s2.pm.dt := hpi2.lk.dt; have := hpi2.dtl; have := hpi2.n8; rw [e] at hdm; omega
                        have hdm0 : (0 : Int) ≤ (dm : Int) := by omega
                        have hqn : (q : Int) < (n : Int) := by omega
                        have HDT := Lib.hid (And.intro hds (And.intro hdm edv))
                        have HRD := Lib.hid (And.intro hl (And.intro hc (And.intro hok (And.intro hql (And.intro hdts hpi2)))))
                        clear hpi2 edv hdm hds hdts hl hc hok hql hq
                        go_wp2_with fail
                        go_loopw [21, 22] (fun b hh wr => ∃ z : Nat, z ≤ dm ∧ b = .bool ((p2.dt.take z).any (·.1 == ((q : Nat) : Int))) ∧ hh = .int .i64 (z : Int) ∧ wr = wt) (fun _ hh _ => dm - (RowKit.intOf hh).toNat)
                        case atStart => exact ⟨0, Nat.zero_le _, by simp, rfl, rfl⟩
                        case round =>
                          obtain ⟨z, hz, rfl, rfl, hwr⟩ := hrel
                          subst hwr
                          obtain ⟨tb, htb⟩ : ∃ tb, (p2.dt.take z).any (·.1 == ((q : Nat) : Int)) = tb := ⟨_, rfl⟩
                          rw [htb]
                          have hz0 : (0 : Int) ≤ (z : Int) := by omega
                          rcases Nat.lt_or_eq_of_le hz with hzl | hze
                          · obtain ⟨y, hy⟩ : ∃ y, p2.dt[z]? = some y := ⟨_, List.getElem?_eq_getElem (by have := HDT.out.2.1; omega)⟩
                            obtain ⟨dg, doff, dcc, edv', -, -, -, -, hdcl⟩ := (HDT.out.1).at_ (by omega)
                            rw [HDT.out.2.2] at edv'
                            injection edv' with e1 e2 e3
                            subst e1 e3
                            have cd0 := hdcl (z * 3 + 0) _ (by rw [mkc_get p2.dt z 0 y hy (by decide)]; rfl)
                            rw [Nat.add_zero] at cd0
                            have htk := take_any (fun d : Int × (Nat × Bool) => d.1 == ((q : Nat) : Int)) p2.dt hy
                            rw [htb] at htk
                            have z1 : (z : Int) < (dm : Int) := by omega
                            obtain ⟨yp, hyp⟩ : ∃ yp, y.1 = yp := ⟨_, rfl⟩
                            rw [hyp] at cd0 htk
                            have HT := Lib.hid (And.intro htk hzl)
                            clear htk hzl htb hz hy hdcl e2 hyp
                            cases tb with
                            | true =>
                              go_wp2
                              go_roundw
                              case rel => exact ⟨z + 1, by have := HT.out.2; omega, by rw [HT.out.1]; rfl, rfl, by trivial⟩
                              case measure => have := HT.out.2; simp [RowKit.intOf]; omega
                            | false =>
                              by_cases hyn : yp = ((q : Nat) : Int)
                              · subst hyn
                                go_wp2
                                go_roundw
                                case rel => exact ⟨z + 1, by have := HT.out.2; omega, by rw [HT.out.1]; simp, rfl, by trivial⟩
                                case measure => have := HT.out.2; simp [RowKit.intOf]; omega
                              · have hyb : (yp == ((q : Nat) : Int)) = false := by simpa using hyn
                                go_wp2
                                go_roundw
                                case rel => exact ⟨z + 1, by have := HT.out.2; omega, by rw [HT.out.1, hyb]; rfl, rfl, by trivial⟩
                                case measure => have := HT.out.2; simp [RowKit.intOf]; omega
                          · subst hze
                            rw [List.take_of_length_le (by rw [HDT.out.2.1]; exact Nat.le_refl _)] at htb
                            cases tb with
                            | true =>
                              have hok' : ∀ i, i < q + 1 → dlook p2.dt (i : Int) = none → cert'[i]? = some (s2.dm.base.getD i page0) := fun i hi hd => by
                                rcases Nat.lt_or_eq_of_le (Nat.le_of_lt_succ hi) with h9 | h9
                                · exact HRD.out.2.2.1 i h9 hd
                                · subst h9
                                  have := (dirty_any HRD.out.2.2.2.2.1 _).2 hd
                                  rw [htb] at this; cases this
                              have HF := Lib.hid hok'
                              clear hok' htb hz
                              go_wp2
                              go_roundw
                              case rel => exact ⟨q + 1, vals', cert', by have := HRD.out.2.2.2.1; omega, by go_num, HRD.out.1, HRD.out.2.1, HF.out⟩
                              case measure => have := HRD.out.2.2.2.1; simp [RowKit.intOf]; omega
                            | false =>
                              obtain ⟨hl, hc, hok, hql, hdts, hpi2⟩ := HRD.out
                              have hno : dlook p2.dt (q : Int) = none := (dirty_any hdts _).1 htb
                              have hct := hpi2.cert hql hno
                              obtain ⟨ka, kc, ekv, -, -⟩ := hl.pm.ra.ks.form
                              obtain ⟨km, hkm⟩ : ∃ km, xr2.ks.length = km := ⟨_, rfl⟩
                              rw [hkm] at ekv
                              have hkl : km = p2.dk.length := by rw [← hkm, ← hl.pm.ra.kps, List.length_map]
                              have hqk : q < km := by rw [hkl]; exact (List.getElem?_eq_some_iff.1 hct).1
                              obtain ⟨qk, hqke⟩ : ∃ qk, xr2.ks[q]? = some qk := ⟨_, List.getElem?_eq_getElem (by omega)⟩
                              obtain ⟨kg, koff, kcc, ekv', -, -, -, -, hkcl⟩ := hl.pm.ra.ks.at_ (by omega)
                              rw [ekv, hkm] at ekv'
                              injection ekv' with e1 e2 e3
                              subst e1 e3
                              have ck := hkcl q qk.2 (by rw [List.getElem?_map, hqke]; rfl)
                              have hqb : qk.1 = s2.dm.base.getD q page0 := by
                                have h8 : p2.dk[q]? = some qk.1 := by rw [← hl.pm.ra.kps, List.getElem?_map, hqke]; rfl
                                rw [hct] at h8
                                injection h8 with h8
                                exact h8.symm
                              have hrq := hl.pm.ra.kb qk (List.mem_of_getElem? hqke)
                              obtain ⟨qa, qn, qc, eqv, -⟩ := hrq.formN
                              have a3 : wr.cell? ⟨Mx, 3, none⟩ = some (.slice (some ⟨kg, koff, none⟩) km kc) := hl.mx.cell 3 (by simp [rpcells, ekv])
                              obtain ⟨u0, hu0⟩ : ∃ u0, vals'[q]? = some u0 := ⟨_, List.getElem?_eq_getElem (by rw [hc.vlen]; exact hql)⟩
                              have cC := hc.cell hu0
                              have zC : wr.frozen? ⟨Cr, q, none⟩ = false := by have := hc.row; simp [World.frozen?, this]
                              obtain ⟨w9, hw9⟩ : ∃ w9, wr.setCell ⟨Cr, q, none⟩ qk.2 = w9 := ⟨_, rfl⟩
                              have hl9 := hl.setC hc.zC hc.nC hc.lC (blk_ne hl.bx hc.row (by decide)) (fun e => hc.ne e.symm) q qk.2
                              have hc9 := hc.set hql (RdB.mono hrq (fun i _ hi => by
                                rcases hi with hi | hi | hi
                                · exact x2.tf_af Pb L i hi
                                · rw [hi]; exact .inl (.inr (.inr hl.zM))
                                · rw [hi]; exact .inl (.inr (.inr hc.zC))))
                              rw [hw9] at hl9 hc9
                              have hok9 : ∀ i, i < q + 1 → dlook p2.dt (i : Int) = none → (cert'.set q qk.1)[i]? = some (s2.dm.base.getD i page0) := fun i hi hd => by
                                rcases Nat.lt_or_eq_of_le (Nat.le_of_lt_succ hi) with h9 | h9
                                · rw [List.getElem?_set_ne (by omega)]; exact hok i h9 hd
                                · subst h9
                                  rw [List.getElem?_set_self (by rw [hc.clen]; exact hql), hqb]
                              have hq1 : (q : Int) < (km : Int) := by omega
                              have hq2 : (q : Int) < (n : Int) := by omega
                              have hq3 : (0 : Int) ≤ (q : Int) := by omega
                              rw [eqv] at ck hw9
                              have HF := Lib.hid (And.intro hl9 (And.intro hc9 (And.intro hok9 hql)))
                              clear hl hc hok hql hdts hpi2 hno hct ekv hkm hkl hqk hqke hkcl hqb hrq eqv hu0 hl9 hc9 hok9 htb hz HRD HDT
                              go_wp2
                              go_roundw
                              case rel => exact ⟨q + 1, _, _, by have := HF.out.2.2.2; omega, by go_num, HF.out.1, HF.out.2.1, HF.out.2.2.1⟩
                              case measure => have := HF.out.2.2.2; simp [RowKit.intOf]; omega

                      · subst hqe
                        have HWJ : Hid (wrap64 ((j : Int) + 1) = (j : Int) + 1) := by show _ = _; have h9 := HJ2.out.2; unfold wrap64; omega
                        have HF := Lib.hid (And.intro hl (And.intro hc (And.intro H8.out.2.2 hok)))
                        clear hl hc hok hq H8
                        go_wp2
                        go_roundw
                        case rel => exact ⟨j + 1, _, _, _, _, _, _, _, by have := HJ2.out.1; omega, by rw [HWJ.out]; rfl, HF.out.1, HF.out.2.1, HF.out.2.2.1, HF.out.2.2.2⟩
                        case measure => have := HJ2.out.1; rw [HWJ.out]; simp [RowKit.intOf]; omega
              · have hAL : AL w1 wq D L Pb Bx Mx Cr n s xz p xr vals cert := ⟨⟨_, _, hls.pm⟩, hls.pm.ra.keep (fun _ _ _ => rfl) (fun i _ e => xz.tf_af Pb L i e), hls.bx, hls.mx, hls.nB, hls.nM, hcr⟩
                have hE : Endd n s s last p cert := ⟨⟨_, hpi⟩, torn_live hls.pm.pl.disk.wf hpi.alive, hpi.opsb hls.pm, .inl ⟨rfl, hpi.alive⟩, hco⟩
                have HM := Lib.hid (And.intro hAL hE)
                clear hls hcr hpi hco hj hAL hE
                go_wp2
                go_meet
                exact ⟨s, s, xz, p, xr, vals, cert, last, HM.out.1, HM.out.2⟩
        case rest =>
          obtain ⟨s, s2, x2, p, xr, vals, cert, last, hal, hen⟩ := hcut
          obtain ⟨wk, rfl⟩ : ∃ wk : World, wk = wc := ⟨_, rfl⟩
          obtain ⟨q9, xq9, hpm⟩ := hal.pm
          have hdd := d_dead wk D x2.Fd s2.dm hpm.pl.disk
          obtain ⟨cB0, cB2⟩ := hal.cells
          have HDD := Lib.hid hdd
          have HAL := Lib.hid (And.intro hal (And.intro hen hpm))
          clear hal hen hpm hdd HL
          go_wp2_with fail
          refine HDD.out.mono ?_
          rintro e w5 ⟨rfl, hw5⟩
          subst hw5
          go_upto_if 130 with (fail)
          go_cut [23, 24] (fun _ _ wx => ∃ s3 x3, AL w1 wx D L Pb Bx Mx Cr n s3 x3 p xr vals cert ∧ Askd n s3.dm cs p cert)
          case first =>
            as_aux_lemma =>
              obtain ⟨hal, hen, hpm⟩ := HAL.out
              have hask := hen.ask cs
              rcases hen.2.2.2.1 with ⟨-, hde⟩ | ⟨-, hw⟩
              · have HM := Lib.hid (And.intro hal hask)
                rw [hde]
                clear hal hen hpm hask hde HAL HDD
                go_wp2
                go_meet
                exact ⟨_, _, HM.out.1, HM.out.2⟩
              · have hpd := pin_dead hpm hw
                have HPD := Lib.hid hpd
                have HW := Lib.hid (And.intro hw (And.intro hal hask))
                rw [hw.dead]
                clear hal hen hpm hask hpd hw HAL HDD
                go_wp2_with fail
                refine HPD.out.mono ?_
                rintro e w6 ⟨code, bv, s6, x6, rfl, hcode, hm6, hc6, hd6, hdt6⟩
                obtain ⟨hw, hal, hask⟩ := HW.out
                have hal6 := hal.to hm6 hc6
                have hsy := sync_dead hm6 (by rw [hd6]; exact hw.dead) (by rw [hd6]; exact hw.ops) (by rw [hdt6]; exact hw.dts)
                obtain ⟨cC0, cC2⟩ := hal6.cells
                have HSY := Lib.hid hsy
                have HA6 := Lib.hid (And.intro hal6 (And.intro hd6 hask))
                clear hw hal hask hal6 hsy hm6 hc6 hd6 hdt6 HPD HW cB0 cB2
                rcases hcode with rfl | rfl | rfl
                · go_wp2_with fail
                  refine HSY.out.mono ?_
                  rintro e w7 ⟨rfl, s7, x7, hm7, hc7, hd7⟩
                  have HM := Lib.hid (And.intro (HA6.out.1.to hm7 hc7) (show Askd n s7.dm cs p cert by rw [hd7, HA6.out.2.1]; exact HA6.out.2.2))
                  clear hm7 hc7 hd7 HSY HA6
                  go_wp2
                  go_meet
                  exact ⟨_, _, HM.out.1, HM.out.2⟩
                · go_wp2_with fail
                  refine HSY.out.mono ?_
                  rintro e w7 ⟨rfl, s7, x7, hm7, hc7, hd7⟩
                  have HM := Lib.hid (And.intro (HA6.out.1.to hm7 hc7) (show Askd n s7.dm cs p cert by rw [hd7, HA6.out.2.1]; exact HA6.out.2.2))
                  clear hm7 hc7 hd7 HSY HA6
                  go_wp2
                  go_meet
                  exact ⟨_, _, HM.out.1, HM.out.2⟩
                · go_wp2_with fail
                  refine HSY.out.mono ?_
                  rintro e w7 ⟨rfl, s7, x7, hm7, hc7, hd7⟩
                  have HM := Lib.hid (And.intro (HA6.out.1.to hm7 hc7) (show Askd n s7.dm cs p cert by rw [hd7, HA6.out.2.1]; exact HA6.out.2.2))
                  clear hm7 hc7 hd7 HSY HA6
                  go_wp2
                  go_meet
                  exact ⟨_, _, HM.out.1, HM.out.2⟩
          case rest =>
            obtain ⟨s3, x3, hal, hask⟩ := hcut
            obtain ⟨wm, rfl⟩ : ∃ wm : World, wm = wc := ⟨_, rfl⟩
            obtain ⟨q9, xq9, hpm⟩ := hal.pm
            have hbw : Below w.heap.size w wm := HB1.out.trans (hpm.below.mono HB1.out.size)
            have hcv : RdB x3.Fd wm (.slice ca cn cc) cs := RdV.keep HCV.out (fun i hi _ => hbw.block i hi) (fun i hi hF => by have := hpm.af0 i (.inr hF); have := HB1.out.size; omega)
            have hcr := d_crash wm D x3.Fd s3.dm hpm.pl.disk (by have := hask.1; omega) _ cs hcv
            obtain ⟨cD0, cD2⟩ := hal.cells
            have HCR := Lib.hid hcr
            have HA3 := Lib.hid (And.intro hal (And.intro hask (And.intro hpm hbw)))
            clear hal hask hpm hbw hcv hcr HAL cB0 cB2 HDD
            go_wp2_with fail
            refine HCR.out.mono ?_
            rintro e w20 ⟨rfl, Fc, hdc, hb20, hFc⟩
            obtain ⟨hal, hask, hpm, hbw⟩ := HA3.out
            have hal20 : AL w1 w20 D L Pb Bx Mx Cr n s3 x3 p xr vals cert := hal.to (hpm.more hb20) ⟨Chg.of_below hb20 _, rfl⟩
            obtain ⟨C, hC⟩ : ∃ C, wm.heap.size + 2 = C := ⟨_, rfl⟩
            rw [hC] at hdc ⊢
            have H20 := Lib.hid (And.intro hal20 (And.intro hdc (And.intro hask (And.intro (hpm.more hb20) (hbw.trans (hb20.mono hbw.size))))))
            clear hal hask hpm hbw hal20 hdc hb20 hFc hC HCR HA3 cD0 cD2
            go_wp2_with fail
            go_loopw [26, 27, 28, 29, 30] (fun i0 _ _ _ _ wr => ∃ q : Nat, q ≤ n ∧ i0 = .int .i64 (q : Int) ∧ Below w20.heap.size w20 wr) (fun i0 _ _ _ _ _ => n - (RowKit.intOf i0).toNat)
            case atStart => exact ⟨0, Nat.zero_le _, rfl, Below.refl _ _⟩
            case round =>
              obtain ⟨q, hq, rfl, hbq⟩ := hrel
              obtain ⟨wt, rfl⟩ : ∃ wt : World, wt = wr := ⟨_, rfl⟩
              have hq0 : (0 : Int) ≤ (q : Int) := by omega
              obtain ⟨hal20, hdc20, hask, hpm20, hbw20⟩ := H20.out
              rcases Nat.lt_or_eq_of_le hq with hql | hqe
              · have hdct := hdc20.below hbq
                have hcbl : (s3.dm.crash cs).base.length = n := by
                  show (s3.dm.crashPages cs).length = n
                  rw [crashPages_length, hask.2.1]
                have hrdc := d_read _ C _ _ hdct rfl q (by rw [hcbl]; exact hql)
                have hplc : ((s3.dm.crash cs).page q).length = 512 := DM.page_length hdct.wf q (by rw [hcbl]; exact hql)
                have HRC := Lib.hid hrdc
                have HQ := Lib.hid (And.intro hbq (And.intro hql hplc))
                have hqn : (q : Int) < (n : Int) := by omega
                clear hdct hcbl hrdc hplc hal20 hdc20 hask hpm20 hbw20 hbq hql hq
                go_wp2_with fail
                refine HRC.out.mono ?_
                rintro e w33 ⟨rfl, hw33⟩
                obtain ⟨hbq, hql, hplc⟩ := HQ.out
                obtain ⟨hal20, hdc20, hask, hpm20, hbw20⟩ := H20.out
                obtain ⟨gz, hgz⟩ : ∃ gz, wt.heap.size = gz := ⟨_, rfl⟩
                have hb33 : Below wt.heap.size wt w33 := by rw [← hw33]; exact (Below.refl _ _).alloc (Nat.le_refl _) _
                have hbq33 : Below w20.heap.size w20 w33 := hbq.trans (hb33.mono hbq.size)
                have hry : RdB NoF w33 (.slice (some ⟨gz, 0, none⟩) 512 512) ((s3.dm.crash cs).page q) := by
                  have h9 := bobj_rd (F := NoF) wt ((s3.dm.crash cs).page q) 512 hplc.symm (by rw [hplc]; unfold maxLen; omega) (noF _)
                  rw [hplc, hw33, hgz] at h9
                  exact h9
                rw [hgz]
                have hal33 : AL w1 w33 D L Pb Bx Mx Cr n s3 x3 p xr vals cert := hal20.to (hpm20.more hbq33) ⟨Chg.of_below hbq33 _, rfl⟩
                obtain ⟨da, dc, edv, -, -⟩ := hal33.ra.ds.form
                obtain ⟨dm, hdm⟩ : ∃ dm, p.dt.length = dm := ⟨_, rfl⟩
                rw [hdm] at edv
                have a2 : w33.cell? ⟨Mx, 2, none⟩ = some (.slice da dm dc) := hal33.mx.cell 2 (by simp [rpcells, edv])
                have hds := hal33.ra.ds
                rw [hdm] at hds
                have hdm8 : (dm : Int) ≤ 8 := by have := hask.2.2.2.1; omega
                have hdm0 : (0 : Int) ≤ (dm : Int) := by omega
                have HDT := Lib.hid (And.intro hds (And.intro hdm edv))
                have H33 := Lib.hid (And.intro hal33 (And.intro hask (And.intro hql hry)))
                have HB33 := Lib.hid hbq33
                clear hbq hql hplc hal20 hdc20 hask hpm20 hbw20 hw33 hgz hb33 hbq33 hry hal33 edv hdm hds HRC HQ
                go_wp2_with fail
                go_loopw [29, 30] (fun b hh wr => ∃ z : Nat, z ≤ dm ∧ b = .bool ((p.dt.take z).any (·.1 == ((q : Nat) : Int))) ∧ hh = .int .i64 (z : Int) ∧ wr = w33) (fun _ hh _ => dm - (RowKit.intOf hh).toNat)
                case atStart => exact ⟨0, Nat.zero_le _, by simp, rfl, rfl⟩
                case round =>
                  obtain ⟨z, hz, rfl, rfl, hwr⟩ := hrel
                  subst hwr
                  obtain ⟨tb, htb⟩ : ∃ tb, (p.dt.take z).any (·.1 == ((q : Nat) : Int)) = tb := ⟨_, rfl⟩
                  rw [htb]
                  have hz0 : (0 : Int) ≤ (z : Int) := by omega
                  rcases Nat.lt_or_eq_of_le hz with hzl | hze
                  · obtain ⟨y, hy⟩ : ∃ y, p.dt[z]? = some y := ⟨_, List.getElem?_eq_getElem (by have := HDT.out.2.1; omega)⟩
                    obtain ⟨dg, doff, dcc, edv', -, -, -, -, hdcl⟩ := (HDT.out.1).at_ (by omega)
                    rw [HDT.out.2.2] at edv'
                    injection edv' with e1 e2 e3
                    subst e1 e3
                    have cd0 := hdcl (z * 3 + 0) _ (by rw [mkc_get p.dt z 0 y hy (by decide)]; rfl)
                    rw [Nat.add_zero] at cd0
                    have htk := take_any (fun d : Int × (Nat × Bool) => d.1 == ((q : Nat) : Int)) p.dt hy
                    rw [htb] at htk
                    have z1 : (z : Int) < (dm : Int) := by omega
                    obtain ⟨yp, hyp⟩ : ∃ yp, y.1 = yp := ⟨_, rfl⟩
                    rw [hyp] at cd0 htk
                    have HT := Lib.hid (And.intro htk hzl)
                    clear htk hzl htb hz hy hdcl e2 hyp
                    cases tb with
                    | true =>
                      go_wp2
                      go_roundw
                      case rel => exact ⟨z + 1, by have := HT.out.2; omega, by rw [HT.out.1]; rfl, rfl, by trivial⟩
                      case measure => have := HT.out.2; simp [RowKit.intOf]; omega
                    | false =>
                      by_cases hyn : yp = ((q : Nat) : Int)
                      · subst hyn
                        go_wp2
                        go_roundw
                        case rel => exact ⟨z + 1, by have := HT.out.2; omega, by rw [HT.out.1]; simp, rfl, by trivial⟩
                        case measure => have := HT.out.2; simp [RowKit.intOf]; omega
                      · have hyb : (yp == ((q : Nat) : Int)) = false := by simpa using hyn
                        go_wp2
                        go_roundw
                        case rel => exact ⟨z + 1, by have := HT.out.2; omega, by rw [HT.out.1, hyb]; rfl, rfl, by trivial⟩
                        case measure => have := HT.out.2; simp [RowKit.intOf]; omega
                  · subst hze
                    rw [List.take_of_length_le (by rw [HDT.out.2.1]; exact Nat.le_refl _)] at htb
                    obtain ⟨hal, hask, hql, hy33⟩ := H33.out
                    obtain ⟨u, hu, hru⟩ : ∃ u, vals[q]? = some u ∧ ∃ b, RdB (fun k => x3.tf Pb L k ∨ (k = Mx ∨ k = Cr)) wr u b ∧ (tb = false → b = (s3.dm.crash cs).page q) := by
                      obtain ⟨b, hb⟩ : ∃ b, cert[q]? = some b := ⟨_, List.getElem?_eq_getElem (by rw [hal.cr.clen]; exact hql)⟩
                      obtain ⟨u, h1, h2⟩ := hal.cr.rd q b hb
                      refine ⟨u, h1, b, h2, fun e => ?_⟩
                      have h3 := hask.2.2.2.2 q hql ((dirty_any hask.2.2.1 _).1 (by rw [htb, e]))
                      rw [hb] at h3
                      injection h3
                    obtain ⟨bu, hru, hbu⟩ := hru
                    obtain ⟨ua, un, uc, rfl, -⟩ := hru.formN
                    have cC := hal.cr.cell hu
                    have HF := Lib.hid (And.intro hql True.intro)
                    have hq2 : (q : Int) < (n : Int) := by omega
                    have hq3 : (0 : Int) ≤ (q : Int) := by omega
                    cases tb with
                    | true =>
                      clear hal hask hql hy33 hu hru hbu htb hz H33 HDT
                      go_upto_region 46 with (fail)
                      go_quiet (fail)
                      go_wp2
                      go_roundw
                      case rel => exact ⟨q + 1, by have := HF.out.1; omega, by go_num, below_drewN HB33.out _⟩
                      case measure => have := HF.out.1; simp [RowKit.intOf]; omega
                    | false =>
                      have hbe := hbu rfl
                      subst hbe
                      have hs1 : ∀ i, (convert 41 9 (.slice (some ⟨gz, 0, none⟩) 512 512)).run Tryz.prog (wr.drewN i) = .ok (.string (strOf ((s3.dm.crash cs).page q))) (wr.drewN i) := fun i => str_bytes (RdB.drewN hy33 i)
                      have hs2 : ∀ i, (convert 41 9 (.slice ua un uc)).run Tryz.prog (wr.drewN i) = .ok (.string (strOf ((s3.dm.crash cs).page q))) (wr.drewN i) := fun i => str_bytes (RdB.drewN hru i)
                      clear hal hask hql hy33 hu hru hbu htb hz H33 HDT
                      go_upto_region 46 with (fail)
                      go_quiet (fail)
                      go_wp2
                      go_roundw
                      case rel => exact ⟨q + 1, by have := HF.out.1; omega, by go_num, below_drewN HB33.out _⟩
                      case measure => have := HF.out.1; simp [RowKit.intOf]; omega

              · subst hqe
                have HFIN : Hid (Below w.heap.size w wt) := Lib.hid (hbw20.trans (hbq.mono hbw20.size))
                clear hal20 hdc20 hask hpm20 hbw20 hbq hq
                go_wp2
                (try go_ret)
                exact ⟨rfl, HFIN.out⟩

end Mun
