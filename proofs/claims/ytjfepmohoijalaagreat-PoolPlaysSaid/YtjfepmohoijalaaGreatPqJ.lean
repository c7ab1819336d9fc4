/- PoolPlays: whatever is done, the pool tells what the model says: the walk. -/
import Derived.Test.YtjfepmohoijalaaGreatMgQb
import Derived.Test.YtjfepmohoijalaaGreatMgQc
import Derived.Test.YtjfepmohoijalaaGreatMgN
import Derived.Test.YtjfepmohoijalaaGreatMgK
set_option maxRecDepth 100000
set_option linter.unusedVariables false
set_option linter.unusedSimpArgs false
namespace Mun
open Go Go.RowKit
open Go.Proofs

theorem load_row_g8 {P : Program} {ops : Array Oper} {rest : List Oper} {o : Oper} {a : Act} {w : World} {Q : Exit → Act → World → Prop} (hw : Region.wanted o (yielded ops a.tmps) = true) (ty : TypeId) (x : Operand) (ho : o.op = .load ty x)
    (g : Nat) (hx : a.eval x = .pointer (some ⟨g, 0, none⟩)) (t : TypeId) (cs : Array Value) (fr : Nat × Nat) (d : TypeDesc) (hg : w.heap[g]? = some (.cells cs t fr))
    (hu : P.underlying ty = some d) (hd : (match d with | .struct _ | .array _ _ => true | _ => false) = true) (hi : (P.info? ty).map (·.size) = some cs.size)
    (h : wpList P ops Q rest (a.put o.dst (.agg cs)) w) : wpList P ops Q (o :: rest) a w :=
  wpList_step fun K hK => by rw [if_pos hw]; exact wp_load_row ty x ho g hx t cs fr d hg hu hd hi (hK _ _ h)
theorem infoBn : (Tryz.prog.info? 28).map (·.size) = some 3 := by kernel_rfl
theorem infoDd : (Tryz.prog.info? 43).map (·.size) = some 3 := by kernel_rfl
theorem alloc_z6 (V : World) {b : Nat} {o : Obj} (h : V.heap[b]? = some o) : ∃ Nx V', V.heap.size = Nx ∧ V.alloc (.cells #[.slice none 0 0, .int .i64 0, .slice none 0 0, .slice none 0 0, .int .u64 0, .int .u64 0] 36) = V' ∧ PBox V' Nx Z6 ∧ Below V.heap.size V V' :=
  ⟨_, _, rfl, rfl, PBox.new V Z6, (Below.refl _ _).alloc (Nat.le_refl _) _⟩
theorem rangeAt_below {V V' : World} {b o : Nat} {cs : List Value} (h : V.rangeAt b o cs) (hb : Below V.heap.size V V') : V'.rangeAt b o cs := fun j v hv => by
  have := h j v hv
  rw [World.cell?_of_block (hb.block _ (World.block_lt_of_cell? _ _ this))]
  exact this

set_option maxHeartbeats 8000000 in
theorem plays_law8 (w : World) (pgs fr : Int) (lv : Value) (ds : List Deed) (hv : DeedsAt NoF w lv ds) (hxl : ds.length ≤ 3518437208882) :
    Calls Tryz.prog 3 #[.int .i64 pgs, .int .i64 fr, lv] w fun e w' => e = .returned (.bool true) ∧ Below w.heap.size w w' := by
  obtain ⟨la, ln, lc, rfl, hln, hlc⟩ : ∃ la ln lc, lv = .slice la ln lc ∧ ds.length = ln ∧ ln ≤ lc := by
    obtain ⟨a, c, e, h1, h2⟩ := hv.row.form
    exact ⟨a, _, c, e, rfl, h1⟩
  obtain ⟨c, hc, hc8⟩ := and_7 pgs
  obtain ⟨c', hc', hc4⟩ := and_3 fr
  have haw := awake8 w
  have HAW := Lib.hid haw
  have HV := Lib.hid (And.intro hv (And.intro hln hxl))
  clear hv haw hxl hln
  go_enter Tryz.func3, Tryz.ntmps3
  go_wp2_with fail
  refine HAW.out.mono ?_
  rintro e w1 ⟨rfl, hb1⟩
  obtain ⟨n, hn⟩ : ∃ n, 1 + c = n := ⟨_, rfl⟩
  obtain ⟨k, hk⟩ : ∃ k, 1 + c' = k := ⟨_, rfl⟩
  have hnc : 1 + (c : Int) = (n : Int) := by omega
  have hkc : 1 + (c' : Int) = (k : Int) := by omega
  have hn8 : 1 ≤ n ∧ n ≤ 8 := by omega
  have hk4 : 1 ≤ k ∧ k ≤ 4 := by omega
  have hbe : Calls Tryz.prog 7 #[.int .i64 n, .int .i64 4096, .int .i64 k] w1 (BenchL w1 n 4096 k) := bench_pl w1 n 4096 k hn8.1 (by omega) (by decide) hk4.1 (by omega)
  have HBE := Lib.hid hbe
  have HB1 := Lib.hid hb1
  have HNK := Lib.hid (And.intro hn8 hk4)
  clear hbe hb1 HAW
  go_wp2_with fail
  refine HBE.out.mono ?_
  rintro e w2 ⟨D, L, Pb, g, x, rfl, ⟨-, hz⟩, hpl, hb2, haf⟩
  obtain ⟨w3, hw3⟩ : ∃ w3, w2.alloc (.cells #[.pointer (some ⟨D, 0, none⟩), .pointer (some ⟨L, 0, none⟩), .pointer (some ⟨Pb, 0, none⟩)] 28) = w3 := ⟨_, rfl⟩
  have hb23 : Below w2.heap.size w2 w3 := by rw [← hw3]; exact (Below.refl _ _).alloc (Nat.le_refl _) _
  obtain ⟨Bx, hBx⟩ : ∃ Bx, w2.heap.size = Bx := ⟨_, rfl⟩
  have kB : w3.heap[Bx]? = some (.cells (bcells D L Pb) 28 (0, 0)) := by rw [← hw3, ← hBx]; exact heap_alloc_new w2 _
  obtain ⟨s0, hs0⟩ : ∃ s0 : PX, ⟨DM.new n 4096, lm0, PM.new k⟩ = s0 := ⟨_, rfl⟩
  have hpi0 := pq_pi_new n k hn8 hk4
  rw [hs0] at hpl hpi0
  obtain ⟨f0, hf0⟩ : ∃ f0, lm0.fin = f0 := ⟨_, rfl⟩
  obtain ⟨f1, hf1⟩ : ∃ f1, lm0.base + lm0.forced = f1 := ⟨_, rfl⟩
  rw [hf0, hf1] at hpi0
  have hlm : s0.lm = lm0 := by rw [← hs0]
  have hfz0 : s0.dm.fuse = -1 := by rw [← hs0]; rfl
  have hpl3 := hpl.below hb23
  have htf : ∀ q, x.tf Pb L q → w1.heap.size ≤ q ∧ q < w2.heap.size := fun q hq => ⟨haf q (x.tf_af Pb L q hq), hpl.lt q (x.tf_af Pb L q hq)⟩
  have hb13 : Below w1.heap.size w1 w3 := hb2.trans (hb23.mono hb2.size)
  have hB3 : Bx < w3.heap.size := (Array.getElem?_eq_some_iff.1 kB).1
  have hcB : ∀ V, Below w3.heap.size w3 V → V.cell? ⟨Bx, 1, none⟩ = some (.pointer (some ⟨L, 0, none⟩)) := fun V hb => cell_of_row _ _ 1 _ _ _ ((hb.block Bx hB3).trans kB)
  have hen : ∀ V, Below w3.heap.size w3 V → Calls Tryz.prog 9 #[.pointer (some ⟨L, 0, none⟩)] V fun e w' => e = .returned (.int .u64 (f0 : Int)) ∧ Below V.heap.size V w' := fun V hb => (end_pl (hpl3.below hb)).mono (by
    rintro e w' ⟨he, q, rfl⟩
    rw [hlm, hf0] at he
    exact ⟨he, below_drewN (Below.refl _ _) q⟩)
  have hfo : ∀ V, Below w3.heap.size w3 V → Calls Tryz.prog 10 #[.pointer (some ⟨L, 0, none⟩)] V fun e w' => e = .returned (.int .u64 (f1 : Int)) ∧ Below V.heap.size V w' := fun V hb => (forced_pl (hpl3.below hb)).mono (by
    rintro e w' ⟨he, q, rfl⟩
    rw [hlm, hf1] at he
    exact ⟨he, below_drewN (Below.refl _ _) q⟩)
  have hnw : ∀ V, Below w3.heap.size w3 V → Calls Tryz.prog 8 #[.int .i64 n, .int .i64 k, .int .u64 (f0 : Int), .int .u64 (f1 : Int)] V (REnd (OldF V.heap.size) V (RP.new n k f0 f1) id) := fun V hb => rp_new V (fun q hq => hq) n k f0 f1 (by omega) (by omega)
  have hal : ∀ V, Below w3.heap.size w3 V → ∃ Mx V', V.heap.size = Mx ∧ V.alloc (.cells #[.slice none 0 0, .int .i64 0, .slice none 0 0, .slice none 0 0, .int .u64 0, .int .u64 0] 36) = V' ∧ PBox V' Mx Z6 ∧ Below V.heap.size V V' ∧ w3.heap.size ≤ Mx := fun V hb =>
    ⟨_, _, rfl, rfl, PBox.new V Z6, (Below.refl _ _).alloc (Nat.le_refl _) _, hb.size⟩
  have hwk : IntKind.i64.wrap (k : Int) = (k : Int) := by rw [IntKind.wrap_i64]; omega
  have HEN := Lib.hid hen
  have HFO := Lib.hid hfo
  have HNW := Lib.hid hnw
  have HAL := Lib.hid hal
  have HCB := Lib.hid hcB
  have HZ := Lib.hid (And.intro hpl3 (And.intro hb13 (And.intro htf (And.intro kB (And.intro (show ¬ x.tf Pb L Bx from fun e => by have := (htf _ e).2; omega) (And.intro (show w1.heap.size ≤ Bx by have := hb2.size; omega) (And.intro hpi0 hfz0)))))))
  have c80 : w3.cell? ⟨Bx, 0, none⟩ = some (.pointer (some ⟨D, 0, none⟩)) := cell_of_row _ _ 0 _ _ _ kB
  clear hz hpl hb2 haf hb23 kB hn8 hk4 HBE hpi0 hs0 hf0 hf1 hlm hfz0 hpl3 htf hb13 hB3 hcB hen hfo hnw hal
  go_upto_region 7 with (first | rw [hBx] | rw [hw3])
  go_cut [10] (fun a wx => ∃ Mx xr xz, a = .pointer (some ⟨Mx, 0, none⟩) ∧ LS w1 wx D L Pb Bx Mx s0 xz (RP.new n k f0 f1) xr)
  case first =>
    have hS : Below w3.heap.size w3 w3.drew ∧ w3.drew.cell? ⟨Bx, 1, none⟩ = some (.pointer (some ⟨L, 0, none⟩)) := ⟨below_drewN (Below.refl _ _) 1, HCB.out _ (below_drewN (Below.refl _ _) 1)⟩
    refine wp_region_U (fun V => Below w3.heap.size w3 V ∧ V.cell? ⟨Bx, 1, none⟩ = some (.pointer (some ⟨L, 0, none⟩))) [] (by kernel_rfl) ?_
    refine wpAnyU_take (i := 0) [10, 12] rfl (by as_aux_lemma => kernel_rfl) (by as_aux_lemma => kernel_rfl) (by as_aux_lemma => kernel_rfl) (by as_aux_lemma => kernel_rfl) (by as_aux_lemma => kernel_rfl) (by as_aux_lemma => kernel_rfl) (fun _ _ _ h => h) (Or.inl ⟨by rfl, (by intro W hSW; (try dsimp only at hSW); (try go_split_ands); go_simp <;> with_reducible rfl)⟩) hS ?_
    try simp only [Act.put, List.getElem_toArray, List.getElem_cons_succ, List.getElem_cons_zero, List.setIfInBounds_toArray, List.set_cons_zero, List.set_cons_succ]
    refine wpAnyU_take (i := 1) [2, 3, 10, 12] rfl (by as_aux_lemma => kernel_rfl) (by as_aux_lemma => kernel_rfl) (by as_aux_lemma => kernel_rfl) (by as_aux_lemma => kernel_rfl) (by as_aux_lemma => kernel_rfl) (by as_aux_lemma => kernel_rfl) (fun _ _ _ h => h) (Or.inl ⟨by rfl, (by intro W hSW; (try dsimp only at hSW); (try go_split_ands); go_simp <;> with_reducible rfl)⟩) hS ?_
    try simp only [Act.put, List.getElem_toArray, List.getElem_cons_succ, List.getElem_cons_zero, List.setIfInBounds_toArray, List.set_cons_zero, List.set_cons_succ]
    refine wpAnyU_take (i := 2) [3, 10, 12] rfl (by as_aux_lemma => kernel_rfl) (by as_aux_lemma => kernel_rfl) (by as_aux_lemma => kernel_rfl) (by as_aux_lemma => kernel_rfl) (by as_aux_lemma => kernel_rfl) (by as_aux_lemma => kernel_rfl) (fun _ _ _ h => h) (Or.inl ⟨by rfl, (by intro W hSW; (try dsimp only at hSW); (try go_split_ands); go_simp <;> with_reducible rfl)⟩) hS ?_
    try simp only [Act.put, List.getElem_toArray, List.getElem_cons_succ, List.getElem_cons_zero, List.setIfInBounds_toArray, List.set_cons_zero, List.set_cons_succ]
    refine wpAnyU_take (i := 3) [10, 12] rfl (by as_aux_lemma => kernel_rfl) (by as_aux_lemma => kernel_rfl) (by as_aux_lemma => kernel_rfl) (by as_aux_lemma => kernel_rfl) (by as_aux_lemma => kernel_rfl) (by as_aux_lemma => kernel_rfl) (fun _ _ _ h => h) (Or.inl ⟨by rfl, (by intro W hSW; (try dsimp only at hSW); (try go_split_ands); go_simp <;> with_reducible rfl)⟩) hS ?_
    try simp only [Act.put, List.getElem_toArray, List.getElem_cons_succ, List.getElem_cons_zero, List.setIfInBounds_toArray, List.set_cons_zero, List.set_cons_succ]
    refine wpAnyU_take (i := 4) [5, 6, 9, 10, 12] rfl (by as_aux_lemma => kernel_rfl) (by as_aux_lemma => kernel_rfl) (by as_aux_lemma => kernel_rfl) (by as_aux_lemma => kernel_rfl) (by as_aux_lemma => kernel_rfl) (by as_aux_lemma => kernel_rfl) (fun _ _ _ h => h) (Or.inl ⟨by rfl, (by intro W hSW; (try dsimp only at hSW); (try go_split_ands); go_simp <;> with_reducible rfl)⟩) hS ?_
    try simp only [Act.put, List.getElem_toArray, List.getElem_cons_succ, List.getElem_cons_zero, List.setIfInBounds_toArray, List.set_cons_zero, List.set_cons_succ]
    refine wpAnyU_take (i := 5) [6, 9, 10, 12] rfl (by as_aux_lemma => kernel_rfl) (by as_aux_lemma => kernel_rfl) (by as_aux_lemma => kernel_rfl) (by as_aux_lemma => kernel_rfl) (by as_aux_lemma => kernel_rfl) (by as_aux_lemma => kernel_rfl) (fun _ _ _ h => h) (Or.inl ⟨by rfl, (by intro W hSW; (try dsimp only at hSW); (try go_split_ands); go_simp <;> with_reducible rfl)⟩) hS ?_
    try simp only [Act.put, List.getElem_toArray, List.getElem_cons_succ, List.getElem_cons_zero, List.setIfInBounds_toArray, List.set_cons_zero, List.set_cons_succ]
    refine wpAnyU_take (i := 7) [8, 9, 10, 12] rfl (by as_aux_lemma => kernel_rfl) (by as_aux_lemma => kernel_rfl) (by as_aux_lemma => kernel_rfl) (by as_aux_lemma => kernel_rfl) (by as_aux_lemma => kernel_rfl) (by as_aux_lemma => kernel_rfl) (fun _ _ _ h => h) (Or.inl ⟨by rfl, (by intro W hSW; (try dsimp only at hSW); (try go_split_ands); go_simp <;> with_reducible rfl)⟩) hS ?_
    try simp only [Act.put, List.getElem_toArray, List.getElem_cons_succ, List.getElem_cons_zero, List.setIfInBounds_toArray, List.set_cons_zero, List.set_cons_succ]
    refine wpAnyU_take (i := 8) [9, 10, 12] rfl (by as_aux_lemma => kernel_rfl) (by as_aux_lemma => kernel_rfl) (by as_aux_lemma => kernel_rfl) (by as_aux_lemma => kernel_rfl) (by as_aux_lemma => kernel_rfl) (by as_aux_lemma => kernel_rfl) (fun _ _ _ h => h) (Or.inl ⟨by rfl, (by intro W hSW; (try dsimp only at hSW); (try go_split_ands); go_simp <;> with_reducible rfl)⟩) hS ?_
    try simp only [Act.put, List.getElem_toArray, List.getElem_cons_succ, List.getElem_cons_zero, List.setIfInBounds_toArray, List.set_cons_zero, List.set_cons_succ]
    refine wpAnyU_two (i := 6) (j := 11) (by kernel_rfl) rfl rfl (fun K hK => ?_) (fun K hK => ?_)
    · go_simp
      go_at_call 9
      (with_reducible refine (HEN.out _ hS.1).mono ?_)
      rintro e wv ⟨rfl, hbv⟩
      (try (replace HKM := Lib.hid (PBox.below HKM.out hbv (PBox.lt HKM.out))))
      replace hS : Below w3.heap.size w3 wv ∧ wv.cell? ⟨Bx, 1, none⟩ = some (.pointer (some ⟨L, 0, none⟩)) := ⟨hS.1.trans (hbv.mono hS.1.size), HCB.out _ (hS.1.trans (hbv.mono hS.1.size))⟩
      clear hbv
      refine hK.out _ _ (fun _ => hS) (fun _ => ?_)
      clear hK K
      try simp only [Act.put, List.getElem_toArray, List.getElem_cons_succ, List.getElem_cons_zero, List.setIfInBounds_toArray, List.set_cons_zero, List.set_cons_succ]
      refine wpAnyU_two (i := 9) (j := 11) (by kernel_rfl) rfl rfl (fun K hK => ?_) (fun K hK => ?_)
      · go_simp
        go_at_call 10
        (with_reducible refine (HFO.out _ hS.1).mono ?_)
        rintro e wv ⟨rfl, hbv⟩
        (try (replace HKM := Lib.hid (PBox.below HKM.out hbv (PBox.lt HKM.out))))
        replace hS : Below w3.heap.size w3 wv ∧ wv.cell? ⟨Bx, 1, none⟩ = some (.pointer (some ⟨L, 0, none⟩)) := ⟨hS.1.trans (hbv.mono hS.1.size), HCB.out _ (hS.1.trans (hbv.mono hS.1.size))⟩
        clear hbv
        refine hK.out _ _ (fun _ => hS) (fun _ => ?_)
        clear hK K
        try simp only [Act.put, List.getElem_toArray, List.getElem_cons_succ, List.getElem_cons_zero, List.setIfInBounds_toArray, List.set_cons_zero, List.set_cons_succ]
        refine wpAnyU_two (i := 10) (j := 11) (by kernel_rfl) rfl rfl (fun K hK => ?_) (fun K hK => ?_)
        · go_simp
          (try rw [hwk])
          go_at_call 8
          (with_reducible refine (HNW.out _ hS.1).mono ?_)
          rintro e wv ⟨xN, rfl, haN, hbv⟩
          (try (have HRM := Lib.hid (RAt.keep (F' := fun q => q < w3.heap.size ∨ q = Mx) haN (fun q _ _ => rfl) (fun q _ h => h.elim (fun h => Nat.lt_of_lt_of_le h hS.1.size) (fun h => by rw [h]; exact PBox.lt HKM.out)))))
          have HRA := Lib.hid (RAt.keep (F' := fun q => q < w3.heap.size) haN (fun q _ _ => rfl) (fun q _ h => Nat.lt_of_lt_of_le h hS.1.size))
          (try (replace HKM := Lib.hid (PBox.below HKM.out hbv (PBox.lt HKM.out))))
          replace hS : Below w3.heap.size w3 wv ∧ wv.cell? ⟨Bx, 1, none⟩ = some (.pointer (some ⟨L, 0, none⟩)) := ⟨hS.1.trans (hbv.mono hS.1.size), HCB.out _ (hS.1.trans (hbv.mono hS.1.size))⟩
          clear hbv haN
          simp only [id]
          refine hK.out _ _ (fun _ => hS) (fun _ => ?_)
          clear hK K
          try simp only [Act.put, List.getElem_toArray, List.getElem_cons_succ, List.getElem_cons_zero, List.setIfInBounds_toArray, List.set_cons_zero, List.set_cons_succ]
          refine wpAnyU_one (i := 11) (by kernel_rfl) rfl (fun K hK => ?_)
          go_simp
          obtain ⟨Mx, wv, eM, eV, kM, hbv, hMl⟩ := HAL.out _ hS.1
          (first | rw [eV, eM] | (rw [show (w3.alloc (.cells #[.slice none 0 0, .int .i64 0, .slice none 0 0, .slice none 0 0, .int .u64 0, .int .u64 0] 36)).drew = wv from eV, show w3.heap.size = Mx from eM]))
          (try (have HRM := Lib.hid (RAt.keep (F' := fun q => q < w3.heap.size ∨ q = Mx) HRA.out (fun q hq _ => hbv.block q hq) (fun q hq h => h.elim id (fun h => by omega)))))
          have HKM := Lib.hid kM
          replace hS : Below w3.heap.size w3 wv ∧ wv.cell? ⟨Bx, 1, none⟩ = some (.pointer (some ⟨L, 0, none⟩)) := ⟨hS.1.trans (hbv.mono hS.1.size), HCB.out _ (hS.1.trans (hbv.mono hS.1.size))⟩
          clear eM eV kM hbv
          refine hK.out _ _ (fun _ => hS) (fun _ => ?_)
          clear hK K
          try simp only [Act.put, List.getElem_toArray, List.getElem_cons_succ, List.getElem_cons_zero, List.setIfInBounds_toArray, List.set_cons_zero, List.set_cons_succ]
          refine wpAnyU_one (i := 12) (by kernel_rfl) rfl (fun K hK => ?_)
          have HLS := Lib.hid (LS.first HZ.out.1 HZ.out.2.1 (fun q hq => (HZ.out.2.2.1 q hq).1) HZ.out.2.2.2.1 HZ.out.2.2.2.2.1 HZ.out.2.2.2.2.2.1 hS.1 HKM.out hMl HRM.out)
          have HSN := Lib.hid (rp_size (RP.new n k f0 f1) xN)
          have HON := Lib.hid HRM.out.one
          obtain ⟨csn, hcsn⟩ : ∃ csn, rpcells (RP.new n k f0 f1) xN = csn := ⟨_, rfl⟩
          have hb9 : Below w3.heap.size w3 (wv.setRow Mx (rpcells (RP.new n k f0 f1) xN)) := below_setRow hS.1 hMl _
          obtain ⟨w9, hw9⟩ : ∃ w9, wv.setRow Mx (rpcells (RP.new n k f0 f1) xN) = w9 := ⟨_, rfl⟩
          rw [hw9] at HLS hb9
          rw [hcsn] at HSN HON hw9 ⊢
          replace hS : Below w3.heap.size w3 w9 ∧ w9.cell? ⟨Bx, 1, none⟩ = some (.pointer (some ⟨L, 0, none⟩)) := ⟨hb9, HCB.out _ hb9⟩
          clear hb9 HRM HRA
          refine step_store_is rfl _ _ _ rfl Mx csn (by rfl) (by rfl) _ _ HKM.out HSN.out (by have := HSN.out; rw [info6] at this; injection this) HON.out ?_
          rw [hw9]
          refine hK.out _ _ (fun _ => hS) (fun _ => ?_)
          clear hK K
          try simp only [Act.put, List.getElem_toArray, List.getElem_cons_succ, List.getElem_cons_zero, List.setIfInBounds_toArray, List.set_cons_zero, List.set_cons_succ]
          refine wpAnyU_done (by kernel_rfl) ?_ _
          clear hS
          go_wp2
          go_meet
          exact ⟨Mx, xN, _, rfl, HLS.out⟩
        · go_simp
          obtain ⟨Mx, wv, eM, eV, kM, hbv, hMl⟩ := HAL.out _ hS.1
          (first | rw [eV, eM] | (rw [show (w3.alloc (.cells #[.slice none 0 0, .int .i64 0, .slice none 0 0, .slice none 0 0, .int .u64 0, .int .u64 0] 36)).drew = wv from eV, show w3.heap.size = Mx from eM]))
          (try (have HRM := Lib.hid (RAt.keep (F' := fun q => q < w3.heap.size ∨ q = Mx) HRA.out (fun q hq _ => hbv.block q hq) (fun q hq h => h.elim id (fun h => by omega)))))
          have HKM := Lib.hid kM
          replace hS : Below w3.heap.size w3 wv ∧ wv.cell? ⟨Bx, 1, none⟩ = some (.pointer (some ⟨L, 0, none⟩)) := ⟨hS.1.trans (hbv.mono hS.1.size), HCB.out _ (hS.1.trans (hbv.mono hS.1.size))⟩
          clear eM eV kM hbv
          refine hK.out _ _ (fun _ => hS) (fun _ => ?_)
          clear hK K
          try simp only [Act.put, List.getElem_toArray, List.getElem_cons_succ, List.getElem_cons_zero, List.setIfInBounds_toArray, List.set_cons_zero, List.set_cons_succ]
          refine wpAnyU_one (i := 10) (by kernel_rfl) rfl (fun K hK => ?_)
          go_simp
          (try rw [hwk])
          go_at_call 8
          (with_reducible refine (HNW.out _ hS.1).mono ?_)
          rintro e wv ⟨xN, rfl, haN, hbv⟩
          (try (have HRM := Lib.hid (RAt.keep (F' := fun q => q < w3.heap.size ∨ q = Mx) haN (fun q _ _ => rfl) (fun q _ h => h.elim (fun h => Nat.lt_of_lt_of_le h hS.1.size) (fun h => by rw [h]; exact PBox.lt HKM.out)))))
          have HRA := Lib.hid (RAt.keep (F' := fun q => q < w3.heap.size) haN (fun q _ _ => rfl) (fun q _ h => Nat.lt_of_lt_of_le h hS.1.size))
          (try (replace HKM := Lib.hid (PBox.below HKM.out hbv (PBox.lt HKM.out))))
          replace hS : Below w3.heap.size w3 wv ∧ wv.cell? ⟨Bx, 1, none⟩ = some (.pointer (some ⟨L, 0, none⟩)) := ⟨hS.1.trans (hbv.mono hS.1.size), HCB.out _ (hS.1.trans (hbv.mono hS.1.size))⟩
          clear hbv haN
          simp only [id]
          refine hK.out _ _ (fun _ => hS) (fun _ => ?_)
          clear hK K
          try simp only [Act.put, List.getElem_toArray, List.getElem_cons_succ, List.getElem_cons_zero, List.setIfInBounds_toArray, List.set_cons_zero, List.set_cons_succ]
          refine wpAnyU_one (i := 12) (by kernel_rfl) rfl (fun K hK => ?_)
          have HLS := Lib.hid (LS.first HZ.out.1 HZ.out.2.1 (fun q hq => (HZ.out.2.2.1 q hq).1) HZ.out.2.2.2.1 HZ.out.2.2.2.2.1 HZ.out.2.2.2.2.2.1 hS.1 HKM.out hMl HRM.out)
          have HSN := Lib.hid (rp_size (RP.new n k f0 f1) xN)
          have HON := Lib.hid HRM.out.one
          obtain ⟨csn, hcsn⟩ : ∃ csn, rpcells (RP.new n k f0 f1) xN = csn := ⟨_, rfl⟩
          have hb9 : Below w3.heap.size w3 (wv.setRow Mx (rpcells (RP.new n k f0 f1) xN)) := below_setRow hS.1 hMl _
          obtain ⟨w9, hw9⟩ : ∃ w9, wv.setRow Mx (rpcells (RP.new n k f0 f1) xN) = w9 := ⟨_, rfl⟩
          rw [hw9] at HLS hb9
          rw [hcsn] at HSN HON hw9 ⊢
          replace hS : Below w3.heap.size w3 w9 ∧ w9.cell? ⟨Bx, 1, none⟩ = some (.pointer (some ⟨L, 0, none⟩)) := ⟨hb9, HCB.out _ hb9⟩
          clear hb9 HRM HRA
          refine step_store_is rfl _ _ _ rfl Mx csn (by rfl) (by rfl) _ _ HKM.out HSN.out (by have := HSN.out; rw [info6] at this; injection this) HON.out ?_
          rw [hw9]
          refine hK.out _ _ (fun _ => hS) (fun _ => ?_)
          clear hK K
          try simp only [Act.put, List.getElem_toArray, List.getElem_cons_succ, List.getElem_cons_zero, List.setIfInBounds_toArray, List.set_cons_zero, List.set_cons_succ]
          refine wpAnyU_done (by kernel_rfl) ?_ _
          clear hS
          go_wp2
          go_meet
          exact ⟨Mx, xN, _, rfl, HLS.out⟩
      · go_simp
        obtain ⟨Mx, wv, eM, eV, kM, hbv, hMl⟩ := HAL.out _ hS.1
        (first | rw [eV, eM] | (rw [show (w3.alloc (.cells #[.slice none 0 0, .int .i64 0, .slice none 0 0, .slice none 0 0, .int .u64 0, .int .u64 0] 36)).drew = wv from eV, show w3.heap.size = Mx from eM]))
        (try (have HRM := Lib.hid (RAt.keep (F' := fun q => q < w3.heap.size ∨ q = Mx) HRA.out (fun q hq _ => hbv.block q hq) (fun q hq h => h.elim id (fun h => by omega)))))
        have HKM := Lib.hid kM
        replace hS : Below w3.heap.size w3 wv ∧ wv.cell? ⟨Bx, 1, none⟩ = some (.pointer (some ⟨L, 0, none⟩)) := ⟨hS.1.trans (hbv.mono hS.1.size), HCB.out _ (hS.1.trans (hbv.mono hS.1.size))⟩
        clear eM eV kM hbv
        refine hK.out _ _ (fun _ => hS) (fun _ => ?_)
        clear hK K
        try simp only [Act.put, List.getElem_toArray, List.getElem_cons_succ, List.getElem_cons_zero, List.setIfInBounds_toArray, List.set_cons_zero, List.set_cons_succ]
        refine wpAnyU_one (i := 9) (by kernel_rfl) rfl (fun K hK => ?_)
        go_simp
        go_at_call 10
        (with_reducible refine (HFO.out _ hS.1).mono ?_)
        rintro e wv ⟨rfl, hbv⟩
        (try (replace HKM := Lib.hid (PBox.below HKM.out hbv (PBox.lt HKM.out))))
        replace hS : Below w3.heap.size w3 wv ∧ wv.cell? ⟨Bx, 1, none⟩ = some (.pointer (some ⟨L, 0, none⟩)) := ⟨hS.1.trans (hbv.mono hS.1.size), HCB.out _ (hS.1.trans (hbv.mono hS.1.size))⟩
        clear hbv
        refine hK.out _ _ (fun _ => hS) (fun _ => ?_)
        clear hK K
        try simp only [Act.put, List.getElem_toArray, List.getElem_cons_succ, List.getElem_cons_zero, List.setIfInBounds_toArray, List.set_cons_zero, List.set_cons_succ]
        refine wpAnyU_one (i := 10) (by kernel_rfl) rfl (fun K hK => ?_)
        go_simp
        (try rw [hwk])
        go_at_call 8
        (with_reducible refine (HNW.out _ hS.1).mono ?_)
        rintro e wv ⟨xN, rfl, haN, hbv⟩
        (try (have HRM := Lib.hid (RAt.keep (F' := fun q => q < w3.heap.size ∨ q = Mx) haN (fun q _ _ => rfl) (fun q _ h => h.elim (fun h => Nat.lt_of_lt_of_le h hS.1.size) (fun h => by rw [h]; exact PBox.lt HKM.out)))))
        have HRA := Lib.hid (RAt.keep (F' := fun q => q < w3.heap.size) haN (fun q _ _ => rfl) (fun q _ h => Nat.lt_of_lt_of_le h hS.1.size))
        (try (replace HKM := Lib.hid (PBox.below HKM.out hbv (PBox.lt HKM.out))))
        replace hS : Below w3.heap.size w3 wv ∧ wv.cell? ⟨Bx, 1, none⟩ = some (.pointer (some ⟨L, 0, none⟩)) := ⟨hS.1.trans (hbv.mono hS.1.size), HCB.out _ (hS.1.trans (hbv.mono hS.1.size))⟩
        clear hbv haN
        simp only [id]
        refine hK.out _ _ (fun _ => hS) (fun _ => ?_)
        clear hK K
        try simp only [Act.put, List.getElem_toArray, List.getElem_cons_succ, List.getElem_cons_zero, List.setIfInBounds_toArray, List.set_cons_zero, List.set_cons_succ]
        refine wpAnyU_one (i := 12) (by kernel_rfl) rfl (fun K hK => ?_)
        have HLS := Lib.hid (LS.first HZ.out.1 HZ.out.2.1 (fun q hq => (HZ.out.2.2.1 q hq).1) HZ.out.2.2.2.1 HZ.out.2.2.2.2.1 HZ.out.2.2.2.2.2.1 hS.1 HKM.out hMl HRM.out)
        have HSN := Lib.hid (rp_size (RP.new n k f0 f1) xN)
        have HON := Lib.hid HRM.out.one
        obtain ⟨csn, hcsn⟩ : ∃ csn, rpcells (RP.new n k f0 f1) xN = csn := ⟨_, rfl⟩
        have hb9 : Below w3.heap.size w3 (wv.setRow Mx (rpcells (RP.new n k f0 f1) xN)) := below_setRow hS.1 hMl _
        obtain ⟨w9, hw9⟩ : ∃ w9, wv.setRow Mx (rpcells (RP.new n k f0 f1) xN) = w9 := ⟨_, rfl⟩
        rw [hw9] at HLS hb9
        rw [hcsn] at HSN HON hw9 ⊢
        replace hS : Below w3.heap.size w3 w9 ∧ w9.cell? ⟨Bx, 1, none⟩ = some (.pointer (some ⟨L, 0, none⟩)) := ⟨hb9, HCB.out _ hb9⟩
        clear hb9 HRM HRA
        refine step_store_is rfl _ _ _ rfl Mx csn (by rfl) (by rfl) _ _ HKM.out HSN.out (by have := HSN.out; rw [info6] at this; injection this) HON.out ?_
        rw [hw9]
        refine hK.out _ _ (fun _ => hS) (fun _ => ?_)
        clear hK K
        try simp only [Act.put, List.getElem_toArray, List.getElem_cons_succ, List.getElem_cons_zero, List.setIfInBounds_toArray, List.set_cons_zero, List.set_cons_succ]
        refine wpAnyU_done (by kernel_rfl) ?_ _
        clear hS
        go_wp2
        go_meet
        exact ⟨Mx, xN, _, rfl, HLS.out⟩
    · go_simp
      obtain ⟨Mx, wv, eM, eV, kM, hbv, hMl⟩ := HAL.out _ hS.1
      (first | rw [eV, eM] | (rw [show (w3.alloc (.cells #[.slice none 0 0, .int .i64 0, .slice none 0 0, .slice none 0 0, .int .u64 0, .int .u64 0] 36)).drew = wv from eV, show w3.heap.size = Mx from eM]))
      (try (have HRM := Lib.hid (RAt.keep (F' := fun q => q < w3.heap.size ∨ q = Mx) HRA.out (fun q hq _ => hbv.block q hq) (fun q hq h => h.elim id (fun h => by omega)))))
      have HKM := Lib.hid kM
      replace hS : Below w3.heap.size w3 wv ∧ wv.cell? ⟨Bx, 1, none⟩ = some (.pointer (some ⟨L, 0, none⟩)) := ⟨hS.1.trans (hbv.mono hS.1.size), HCB.out _ (hS.1.trans (hbv.mono hS.1.size))⟩
      clear eM eV kM hbv
      refine hK.out _ _ (fun _ => hS) (fun _ => ?_)
      clear hK K
      try simp only [Act.put, List.getElem_toArray, List.getElem_cons_succ, List.getElem_cons_zero, List.setIfInBounds_toArray, List.set_cons_zero, List.set_cons_succ]
      refine wpAnyU_one (i := 6) (by kernel_rfl) rfl (fun K hK => ?_)
      go_simp
      go_at_call 9
      (with_reducible refine (HEN.out _ hS.1).mono ?_)
      rintro e wv ⟨rfl, hbv⟩
      (try (replace HKM := Lib.hid (PBox.below HKM.out hbv (PBox.lt HKM.out))))
      replace hS : Below w3.heap.size w3 wv ∧ wv.cell? ⟨Bx, 1, none⟩ = some (.pointer (some ⟨L, 0, none⟩)) := ⟨hS.1.trans (hbv.mono hS.1.size), HCB.out _ (hS.1.trans (hbv.mono hS.1.size))⟩
      clear hbv
      refine hK.out _ _ (fun _ => hS) (fun _ => ?_)
      clear hK K
      try simp only [Act.put, List.getElem_toArray, List.getElem_cons_succ, List.getElem_cons_zero, List.setIfInBounds_toArray, List.set_cons_zero, List.set_cons_succ]
      refine wpAnyU_one (i := 9) (by kernel_rfl) rfl (fun K hK => ?_)
      go_simp
      go_at_call 10
      (with_reducible refine (HFO.out _ hS.1).mono ?_)
      rintro e wv ⟨rfl, hbv⟩
      (try (replace HKM := Lib.hid (PBox.below HKM.out hbv (PBox.lt HKM.out))))
      replace hS : Below w3.heap.size w3 wv ∧ wv.cell? ⟨Bx, 1, none⟩ = some (.pointer (some ⟨L, 0, none⟩)) := ⟨hS.1.trans (hbv.mono hS.1.size), HCB.out _ (hS.1.trans (hbv.mono hS.1.size))⟩
      clear hbv
      refine hK.out _ _ (fun _ => hS) (fun _ => ?_)
      clear hK K
      try simp only [Act.put, List.getElem_toArray, List.getElem_cons_succ, List.getElem_cons_zero, List.setIfInBounds_toArray, List.set_cons_zero, List.set_cons_succ]
      refine wpAnyU_one (i := 10) (by kernel_rfl) rfl (fun K hK => ?_)
      go_simp
      (try rw [hwk])
      go_at_call 8
      (with_reducible refine (HNW.out _ hS.1).mono ?_)
      rintro e wv ⟨xN, rfl, haN, hbv⟩
      (try (have HRM := Lib.hid (RAt.keep (F' := fun q => q < w3.heap.size ∨ q = Mx) haN (fun q _ _ => rfl) (fun q _ h => h.elim (fun h => Nat.lt_of_lt_of_le h hS.1.size) (fun h => by rw [h]; exact PBox.lt HKM.out)))))
      have HRA := Lib.hid (RAt.keep (F' := fun q => q < w3.heap.size) haN (fun q _ _ => rfl) (fun q _ h => Nat.lt_of_lt_of_le h hS.1.size))
      (try (replace HKM := Lib.hid (PBox.below HKM.out hbv (PBox.lt HKM.out))))
      replace hS : Below w3.heap.size w3 wv ∧ wv.cell? ⟨Bx, 1, none⟩ = some (.pointer (some ⟨L, 0, none⟩)) := ⟨hS.1.trans (hbv.mono hS.1.size), HCB.out _ (hS.1.trans (hbv.mono hS.1.size))⟩
      clear hbv haN
      simp only [id]
      refine hK.out _ _ (fun _ => hS) (fun _ => ?_)
      clear hK K
      try simp only [Act.put, List.getElem_toArray, List.getElem_cons_succ, List.getElem_cons_zero, List.setIfInBounds_toArray, List.set_cons_zero, List.set_cons_succ]
      refine wpAnyU_one (i := 12) (by kernel_rfl) rfl (fun K hK => ?_)
      have HLS := Lib.hid (LS.first HZ.out.1 HZ.out.2.1 (fun q hq => (HZ.out.2.2.1 q hq).1) HZ.out.2.2.2.1 HZ.out.2.2.2.2.1 HZ.out.2.2.2.2.2.1 hS.1 HKM.out hMl HRM.out)
      have HSN := Lib.hid (rp_size (RP.new n k f0 f1) xN)
      have HON := Lib.hid HRM.out.one
      obtain ⟨csn, hcsn⟩ : ∃ csn, rpcells (RP.new n k f0 f1) xN = csn := ⟨_, rfl⟩
      have hb9 : Below w3.heap.size w3 (wv.setRow Mx (rpcells (RP.new n k f0 f1) xN)) := below_setRow hS.1 hMl _
      obtain ⟨w9, hw9⟩ : ∃ w9, wv.setRow Mx (rpcells (RP.new n k f0 f1) xN) = w9 := ⟨_, rfl⟩
      rw [hw9] at HLS hb9
      rw [hcsn] at HSN HON hw9 ⊢
      replace hS : Below w3.heap.size w3 w9 ∧ w9.cell? ⟨Bx, 1, none⟩ = some (.pointer (some ⟨L, 0, none⟩)) := ⟨hb9, HCB.out _ hb9⟩
      clear hb9 HRM HRA
      refine step_store_is rfl _ _ _ rfl Mx csn (by rfl) (by rfl) _ _ HKM.out HSN.out (by have := HSN.out; rw [info6] at this; injection this) HON.out ?_
      rw [hw9]
      refine hK.out _ _ (fun _ => hS) (fun _ => ?_)
      clear hK K
      try simp only [Act.put, List.getElem_toArray, List.getElem_cons_succ, List.getElem_cons_zero, List.setIfInBounds_toArray, List.set_cons_zero, List.set_cons_succ]
      refine wpAnyU_done (by kernel_rfl) ?_ _
      clear hS
      go_wp2
      go_meet
      exact ⟨Mx, xN, _, rfl, HLS.out⟩
  case rest =>
    obtain ⟨Mx, xr0, xz0, ha10, hls0⟩ := hcut
    subst ha10
    have HL0 := Lib.hid (And.intro hls0 (And.intro HZ.out.2.2.2.2.2.2.1 HZ.out.2.2.2.2.2.2.2))
    clear hls0 HZ HEN HFO HNW HAL HCB c80
    go_wp2_with fail
    go_loopw [11, 12, 13] (fun i0 _ _ wr => ∃ (j : Nat) (s : PX) (xz : PZ) (last : List Bytes) (p : RP) (xr : RPV), j ≤ ln ∧ i0 = .int .i64 (j : Int) ∧ LS w1 wr D L Pb Bx Mx s xz p xr ∧ PI n j s last p ∧ s.dm.fuse = -1)
      (fun i0 _ _ _ => ln - (RowKit.intOf i0).toNat)
    case atStart => exact ⟨0, _, _, _, _, _, Nat.zero_le _, rfl, HL0.out.1, HL0.out.2.1, HL0.out.2.2⟩
    case round =>
      obtain ⟨j, s, xz, last, p, xr, hj, rfl, hls, hpi, hfz⟩ := hrel
      obtain ⟨wq, rfl⟩ : ∃ wq : World, wq = wr := ⟨_, rfl⟩
      have hj0 : (0 : Int) ≤ (j : Int) := by omega
      rcases Nat.lt_or_eq_of_le hj with hjl | rfl
      · have hji : (j : Int) < (ln : Int) := by omega
        obtain ⟨hdv, hdl, hxl⟩ := HV.out
        obtain ⟨dd, hdd⟩ : ∃ dd, ds[j]? = some dd := ⟨_, List.getElem?_eq_getElem (by omega)⟩
        have hdm := List.mem_of_getElem? hdd
        have hdj : ds[j]'(by omega) = dd := by
          have h9 := List.getElem?_eq_getElem (l := ds) (i := j) (by omega)
          rw [hdd] at h9
          injection h9 with h9
          exact h9.symm
        have hbw : ∀ V, Below w1.heap.size w1 V → Below w.heap.size w V := fun V hb => HB1.out.trans (hb.mono HB1.out.size)
        obtain ⟨lg, lo, lc', e, -, -, -⟩ := hdv.at_ j (by omega)
        injection e with e1 e2 e3
        subst e1 e3
        clear e2
        obtain ⟨ba, bn, bc, hbv, -⟩ := (hdv.rd dd hdm).formN
        obtain ⟨dop, hdop⟩ : ∃ dop, dd.op = dop := ⟨_, rfl⟩
        obtain ⟨dn, hdn⟩ : ∃ dn, dd.n = dn := ⟨_, rfl⟩
        have hrg : ∀ V, Below w1.heap.size w1 V → V.rangeAt lg (lo + j * 3) [.int .i64 dop, .int .i64 dn, .slice ba bn bc] := fun V hb => by
          obtain ⟨lg', lo', lc9, e, -, -, ce0, ce1, ce2⟩ := (hdv.keep (fun k hk _ => (hbw V hb).block k hk) (fun _ _ h => h)).at_ j (by omega)
          injection e with e1 e2 e3
          injection e1 with e1
          injection e1 with e1 e4
          subst e1 e4
          rw [hdj, hdop] at ce0
          rw [hdj, hdn] at ce1
          rw [hdj, hbv] at ce2
          intro i u hu
          match i, hu with
          | 0, hu => injection hu with hu; rw [← hu]; exact ce0
          | 1, hu => injection hu with hu; rw [← hu]; exact ce1
          | 2, hu => injection hu with hu; rw [← hu]; exact ce2
        have hrb : ∀ V (xx : PZ), Below w1.heap.size w1 V → (∀ q, xx.tf Pb L q → w1.heap.size ≤ q) → RdB (xx.tf Pb L) V (.slice ba bn bc) dd.b := fun V xx hb htf => by
          rw [← hbv]
          exact RdV.keep (hdv.rd dd hdm) (fun q hq _ => (hbw V hb).block q hq) (fun q hq e => by have := htf q e; have := HB1.out.size; omega)
        have hpy : ∀ V xx, LS w1 V D L Pb Bx Mx s xx p xr → Calls Tryz.prog 11 #[.agg (bcells D L Pb), .agg (rpcells p xr), .agg #[.int .i64 dop, .int .i64 dn, .slice ba bn bc]] V (PlayQ w1 V D L Pb n (j + 1) s xx) := fun V xx h =>
          pq_play h.pm hpi (by omega) dop dn (.slice ba bn bc) dd.b (hrb V xx h.pm.below h.pm.af0)
        have hsm := rp_size p xr
        obtain ⟨csm, hcsm⟩ : ∃ csm, rpcells p xr = csm := ⟨_, rfl⟩
        rw [hcsm] at hpy hsm
        have HCM := Lib.hid hcsm
        have HSM := Lib.hid hsm
        have HPY := Lib.hid hpy
        have HRG := Lib.hid hrg
        have HLQ := Lib.hid hls
        have HJ := Lib.hid (And.intro hjl (And.intro hfz (show j + 1 ≤ 3518437208882 by omega)))
        clear hdv hdl hxl hdd hdm hdj hbw hbv hdop hdn hrg hrb hpy hsm hcsm hls hpi hfz hjl hj
        go_upto_region 11 with (fail)
        go_cut [12, 13] (fun a f wx => ∃ Nx s' x' p' xr' fine, a = .pointer (some ⟨Nx, 0, none⟩) ∧ f = .bool fine ∧ NS w1 wx D L Pb Bx Mx Nx n (j + 1) s s' x' p xr p' xr' fine)
        case first =>
          have HLS : Hid (LS w1 wq.drew D L Pb Bx Mx s xz p xr) := Lib.hid (HLQ.out.more (below_drewN (Below.refl _ _) 1))
          have hS : (wq.drew.heap[Bx]? = some (.cells (bcells D L Pb) 28 (0, 0)) ∧ wq.drew.heap[Mx]? = some (.cells csm 36 (0, 0))) ∧ wq.drew.rangeAt lg (lo + j * 3) [.int .i64 dop, .int .i64 dn, .slice ba bn bc] := ⟨⟨HLS.out.bx, by rw [← HCM.out]; exact HLS.out.mx⟩, HRG.out _ HLS.out.pm.below⟩
          refine wp_region_U (fun V => (V.heap[Bx]? = some (.cells (bcells D L Pb) 28 (0, 0)) ∧ V.heap[Mx]? = some (.cells csm 36 (0, 0))) ∧ V.rangeAt lg (lo + j * 3) [.int .i64 dop, .int .i64 dn, .slice ba bn bc]) [] (by kernel_rfl) ?_
          refine wpAnyU_take (i := 0) [6, 7, 8, 9, 11, 12] rfl (by as_aux_lemma => kernel_rfl) (by as_aux_lemma => kernel_rfl) (by as_aux_lemma => kernel_rfl) (by as_aux_lemma => kernel_rfl) (by as_aux_lemma => kernel_rfl) (by as_aux_lemma => kernel_rfl) (fun _ _ _ h => h) (yields_load_row (by rfl) _ _ rfl Bx rfl _ _ (0, 0) _ (fun W hS => hS.1.1) Tryz.underlying28 rfl infoBn) hS ?_
          try simp only [Act.put, List.getElem_toArray, List.getElem_cons_succ, List.getElem_cons_zero, List.setIfInBounds_toArray, List.set_cons_zero, List.set_cons_succ]
          refine wpAnyU_take (i := 1) [6, 7, 8, 9, 11, 12] rfl (by as_aux_lemma => kernel_rfl) (by as_aux_lemma => kernel_rfl) (by as_aux_lemma => kernel_rfl) (by as_aux_lemma => kernel_rfl) (by as_aux_lemma => kernel_rfl) (by as_aux_lemma => kernel_rfl) (fun _ _ _ h => h) (yields_load_row (by rfl) _ _ rfl Mx rfl _ _ (0, 0) _ (fun W hS => hS.1.2) Tryz.underlying36 rfl HSM.out) hS ?_
          try simp only [Act.put, List.getElem_toArray, List.getElem_cons_succ, List.getElem_cons_zero, List.setIfInBounds_toArray, List.set_cons_zero, List.set_cons_succ]
          refine wpAnyU_take (i := 2) [4, 5, 6, 7, 8, 9, 11, 12] rfl (by as_aux_lemma => kernel_rfl) (by as_aux_lemma => kernel_rfl) (by as_aux_lemma => kernel_rfl) (by as_aux_lemma => kernel_rfl) (by as_aux_lemma => kernel_rfl) (by as_aux_lemma => kernel_rfl) (fun _ _ _ h => h) (Or.inl ⟨by rfl, (by intro W hSW; (try dsimp only at hSW); (try go_split_ands); go_simp <;> with_reducible rfl)⟩) hS ?_
          try simp only [Act.put, List.getElem_toArray, List.getElem_cons_succ, List.getElem_cons_zero, List.setIfInBounds_toArray, List.set_cons_zero, List.set_cons_succ]
          refine wpAnyU_take (i := 3) [4, 5, 6, 7, 8, 9, 11, 12] rfl (by as_aux_lemma => kernel_rfl) (by as_aux_lemma => kernel_rfl) (by as_aux_lemma => kernel_rfl) (by as_aux_lemma => kernel_rfl) (by as_aux_lemma => kernel_rfl) (by as_aux_lemma => kernel_rfl) (fun _ _ _ h => h) (Or.inl ⟨by rfl, (by intro W hSW; (try dsimp only at hSW); (try go_split_ands); go_simp <;> with_reducible rfl)⟩) hS ?_
          try simp only [Act.put, List.getElem_toArray, List.getElem_cons_succ, List.getElem_cons_zero, List.setIfInBounds_toArray, List.set_cons_zero, List.set_cons_succ]
          refine wpAnyU_take (i := 4) [5, 6, 7, 8, 9, 11, 12] rfl (by as_aux_lemma => kernel_rfl) (by as_aux_lemma => kernel_rfl) (by as_aux_lemma => kernel_rfl) (by as_aux_lemma => kernel_rfl) (by as_aux_lemma => kernel_rfl) (by as_aux_lemma => kernel_rfl) (fun _ _ _ h => h) (Or.inl ⟨by rfl, (by intro W hSW; (try dsimp only at hSW); (try go_split_ands); go_simp <;> with_reducible rfl)⟩) hS ?_
          try simp only [Act.put, List.getElem_toArray, List.getElem_cons_succ, List.getElem_cons_zero, List.setIfInBounds_toArray, List.set_cons_zero, List.set_cons_succ]
          refine wpAnyU_take (i := 5) [6, 7, 8, 9, 11, 12] rfl (by as_aux_lemma => kernel_rfl) (by as_aux_lemma => kernel_rfl) (by as_aux_lemma => kernel_rfl) (by as_aux_lemma => kernel_rfl) (by as_aux_lemma => kernel_rfl) (by as_aux_lemma => kernel_rfl) (fun _ _ _ h => h) (yieldsIf_load_mid (by rfl) _ _ rfl lg (lo + j * 3) rfl [.int .i64 dop, .int .i64 dn, .slice ba bn bc] _ (fun W hS => hS.2) Tryz.underlying43 rfl infoDd) hS ?_
          try simp only [Act.put, List.getElem_toArray, List.getElem_cons_succ, List.getElem_cons_zero, List.setIfInBounds_toArray, List.set_cons_zero, List.set_cons_succ]
          refine wpAnyU_two (i := 6) (j := 10) (by kernel_rfl) rfl rfl (fun K hK => ?_) (fun K hK => ?_)
          · go_simp
            go_at_call 11
            (with_reducible refine (HPY.out _ _ HLS.out).mono ?_)
            rintro e wv ⟨p2, xr2, fine, s2, x2, rfl, hm2, ⟨hcg2, hz2⟩, hres2⟩
            have hk2 := HLS.out.keep2 hcg2
            replace hS : (wv.heap[Bx]? = some (.cells (bcells D L Pb) 28 (0, 0)) ∧ wv.heap[Mx]? = some (.cells csm 36 (0, 0))) ∧ wv.rangeAt lg (lo + j * 3) [.int .i64 dop, .int .i64 dn, .slice ba bn bc] := ⟨⟨hk2.1, by rw [← HCM.out]; exact hk2.2.1⟩, HRG.out _ hm2.below⟩
            (try (have HPD := Lib.hid (LS.played2 HLS.out hcg2 hz2 hm2 hres2 HKN.out.1 HKN.out.2.1 HKN.out.2.2.1 HKN.out.2.2.2.1 HKN.out.2.2.2.2)))
            have HPQ := Lib.hid (And.intro HLS.out (And.intro hcg2 (And.intro hz2 (And.intro hm2 hres2))))
            clear hm2 hcg2 hz2 hres2 hk2
            refine hK.out _ _ (fun _ => hS) (fun _ => ?_)
            clear hK K
            try simp only [Act.put, List.getElem_toArray, List.getElem_cons_succ, List.getElem_cons_zero, List.setIfInBounds_toArray, List.set_cons_zero, List.set_cons_succ]
            refine wpAnyU_take (i := 7) [8, 9, 11, 12] rfl (by as_aux_lemma => kernel_rfl) (by as_aux_lemma => kernel_rfl) (by as_aux_lemma => kernel_rfl) (by as_aux_lemma => kernel_rfl) (by as_aux_lemma => kernel_rfl) (by as_aux_lemma => kernel_rfl) (fun _ _ _ h => h) (Or.inl ⟨by rfl, (by intro W hSW; (try dsimp only at hSW); (try go_split_ands); go_simp <;> with_reducible rfl)⟩) hS ?_
            try simp only [Act.put, List.getElem_toArray, List.getElem_cons_succ, List.getElem_cons_zero, List.setIfInBounds_toArray, List.set_cons_zero, List.set_cons_succ]
            refine wpAnyU_take (i := 8) [11, 12] rfl (by as_aux_lemma => kernel_rfl) (by as_aux_lemma => kernel_rfl) (by as_aux_lemma => kernel_rfl) (by as_aux_lemma => kernel_rfl) (by as_aux_lemma => kernel_rfl) (by as_aux_lemma => kernel_rfl) (fun _ _ _ h => h) (Or.inl ⟨by rfl, (by intro W hSW; (try dsimp only at hSW); (try go_split_ands); go_simp <;> with_reducible rfl)⟩) hS ?_
            try simp only [Act.put, List.getElem_toArray, List.getElem_cons_succ, List.getElem_cons_zero, List.setIfInBounds_toArray, List.set_cons_zero, List.set_cons_succ]
            refine wpAnyU_take (i := 9) [12] rfl (by as_aux_lemma => kernel_rfl) (by as_aux_lemma => kernel_rfl) (by as_aux_lemma => kernel_rfl) (by as_aux_lemma => kernel_rfl) (by as_aux_lemma => kernel_rfl) (by as_aux_lemma => kernel_rfl) (fun _ _ _ h => h) (Or.inl ⟨by rfl, (by intro W hSW; (try dsimp only at hSW); (try go_split_ands); go_simp <;> with_reducible rfl)⟩) hS ?_
            try simp only [Act.put, List.getElem_toArray, List.getElem_cons_succ, List.getElem_cons_zero, List.setIfInBounds_toArray, List.set_cons_zero, List.set_cons_succ]
            refine wpAnyU_one (i := 10) (by kernel_rfl) rfl (fun K hK => ?_)
            go_simp
            obtain ⟨Nx, wv, eN, eV, kN, hbv⟩ := alloc_z6 _ hS.1.1
            (first | rw [eV, eN] | (rw [show (wq.alloc (.cells #[.slice none 0 0, .int .i64 0, .slice none 0 0, .slice none 0 0, .int .u64 0, .int .u64 0] 36)).drew = wv from eV, show wq.heap.size = Nx from eN]))
            replace hS : (wv.heap[Bx]? = some (.cells (bcells D L Pb) 28 (0, 0)) ∧ wv.heap[Mx]? = some (.cells csm 36 (0, 0))) ∧ wv.rangeAt lg (lo + j * 3) [.int .i64 dop, .int .i64 dn, .slice ba bn bc] := ⟨⟨(hbv.block _ (Array.getElem?_eq_some_iff.1 hS.1.1).1).trans hS.1.1, (hbv.block _ (Array.getElem?_eq_some_iff.1 hS.1.2).1).trans hS.1.2⟩, rangeAt_below hS.2 hbv⟩
            (first | (have HPD := Lib.hid (LS.played1 HPQ.out.1 HPQ.out.2.1 HPQ.out.2.2.1 HPQ.out.2.2.2.1 HPQ.out.2.2.2.2 hbv kN (by omega)); clear HPQ) | (have hla := LS.addN HLS.out hbv Nx ⟨by omega, kN.lt⟩; have HKN := Lib.hid (And.intro kN (And.intro (show PZ.Z { xz with Z := fun k => xz.Z k ∨ k = Nx } Nx from .inr rfl) (And.intro hla.2.1 (And.intro hla.2.2.1 (show w1.heap.size ≤ Nx by have := HLS.out.pm.below.size; omega))))); replace HLS := Lib.hid hla.1; clear hla))
            clear eN eV kN hbv
            refine hK.out _ _ (fun _ => hS) (fun _ => ?_)
            clear hK K
            try simp only [Act.put, List.getElem_toArray, List.getElem_cons_succ, List.getElem_cons_zero, List.setIfInBounds_toArray, List.set_cons_zero, List.set_cons_succ]
            refine wpAnyU_one (i := 11) (by kernel_rfl) rfl (fun K hK => ?_)
            have HNS := Lib.hid HPD.out.store
            have HSN := Lib.hid (rp_size p2 xr2)
            have HON := Lib.hid HPD.out.pm.ra.one
            have HKX := Lib.hid HPD.out.nx
            obtain ⟨w9, hw9⟩ : ∃ w9, wv.setRow Nx (rpcells p2 xr2) = w9 := ⟨_, rfl⟩
            rw [hw9] at HNS
            replace hS : (w9.heap[Bx]? = some (.cells (bcells D L Pb) 28 (0, 0)) ∧ w9.heap[Mx]? = some (.cells csm 36 (0, 0))) ∧ w9.rangeAt lg (lo + j * 3) [.int .i64 dop, .int .i64 dn, .slice ba bn bc] := ⟨⟨HNS.out.bx, by rw [← HCM.out]; exact HNS.out.mx⟩, HRG.out _ HNS.out.pm.below⟩
            obtain ⟨csn, hcsn⟩ : ∃ csn, rpcells p2 xr2 = csn := ⟨_, rfl⟩
            rw [hcsn] at HSN HON hw9 ⊢
            refine step_store_is rfl _ _ _ rfl Nx csn (by rfl) (by rfl) _ _ HKX.out HSN.out (by have := HSN.out; rw [info6] at this; injection this) HON.out ?_
            rw [hw9]
            clear HPD HKX
            refine hK.out _ _ (fun _ => hS) (fun _ => ?_)
            clear hK K
            try simp only [Act.put, List.getElem_toArray, List.getElem_cons_succ, List.getElem_cons_zero, List.setIfInBounds_toArray, List.set_cons_zero, List.set_cons_succ]
            refine wpAnyU_take (i := 12) [] rfl (by as_aux_lemma => kernel_rfl) (by as_aux_lemma => kernel_rfl) (by as_aux_lemma => kernel_rfl) (by as_aux_lemma => kernel_rfl) (by as_aux_lemma => kernel_rfl) (by as_aux_lemma => kernel_rfl) (fun _ _ _ h => h) (Or.inl ⟨by rfl, (by intro W hSW; (try dsimp only at hSW); (try go_split_ands); go_simp <;> with_reducible rfl)⟩) hS ?_
            try simp only [Act.put, List.getElem_toArray, List.getElem_cons_succ, List.getElem_cons_zero, List.setIfInBounds_toArray, List.set_cons_zero, List.set_cons_succ]
            refine wpAnyU_done (by kernel_rfl) ?_ _
            clear hS
            go_wp2
            go_meet
            exact ⟨Nx, _, _, _, _, fine, rfl, rfl, HNS.out⟩
          · go_simp
            obtain ⟨Nx, wv, eN, eV, kN, hbv⟩ := alloc_z6 _ hS.1.1
            (first | rw [eV, eN] | (rw [show (wq.alloc (.cells #[.slice none 0 0, .int .i64 0, .slice none 0 0, .slice none 0 0, .int .u64 0, .int .u64 0] 36)).drew = wv from eV, show wq.heap.size = Nx from eN]))
            replace hS : (wv.heap[Bx]? = some (.cells (bcells D L Pb) 28 (0, 0)) ∧ wv.heap[Mx]? = some (.cells csm 36 (0, 0))) ∧ wv.rangeAt lg (lo + j * 3) [.int .i64 dop, .int .i64 dn, .slice ba bn bc] := ⟨⟨(hbv.block _ (Array.getElem?_eq_some_iff.1 hS.1.1).1).trans hS.1.1, (hbv.block _ (Array.getElem?_eq_some_iff.1 hS.1.2).1).trans hS.1.2⟩, rangeAt_below hS.2 hbv⟩
            (first | (have HPD := Lib.hid (LS.played1 HPQ.out.1 HPQ.out.2.1 HPQ.out.2.2.1 HPQ.out.2.2.2.1 HPQ.out.2.2.2.2 hbv kN (by omega)); clear HPQ) | (have hla := LS.addN HLS.out hbv Nx ⟨by omega, kN.lt⟩; have HKN := Lib.hid (And.intro kN (And.intro (show PZ.Z { xz with Z := fun k => xz.Z k ∨ k = Nx } Nx from .inr rfl) (And.intro hla.2.1 (And.intro hla.2.2.1 (show w1.heap.size ≤ Nx by have := HLS.out.pm.below.size; omega))))); replace HLS := Lib.hid hla.1; clear hla))
            clear eN eV kN hbv
            refine hK.out _ _ (fun _ => hS) (fun _ => ?_)
            clear hK K
            try simp only [Act.put, List.getElem_toArray, List.getElem_cons_succ, List.getElem_cons_zero, List.setIfInBounds_toArray, List.set_cons_zero, List.set_cons_succ]
            refine wpAnyU_one (i := 6) (by kernel_rfl) rfl (fun K hK => ?_)
            go_simp
            go_at_call 11
            (with_reducible refine (HPY.out _ _ HLS.out).mono ?_)
            rintro e wv ⟨p2, xr2, fine, s2, x2, rfl, hm2, ⟨hcg2, hz2⟩, hres2⟩
            have hk2 := HLS.out.keep2 hcg2
            replace hS : (wv.heap[Bx]? = some (.cells (bcells D L Pb) 28 (0, 0)) ∧ wv.heap[Mx]? = some (.cells csm 36 (0, 0))) ∧ wv.rangeAt lg (lo + j * 3) [.int .i64 dop, .int .i64 dn, .slice ba bn bc] := ⟨⟨hk2.1, by rw [← HCM.out]; exact hk2.2.1⟩, HRG.out _ hm2.below⟩
            (try (have HPD := Lib.hid (LS.played2 HLS.out hcg2 hz2 hm2 hres2 HKN.out.1 HKN.out.2.1 HKN.out.2.2.1 HKN.out.2.2.2.1 HKN.out.2.2.2.2)))
            have HPQ := Lib.hid (And.intro HLS.out (And.intro hcg2 (And.intro hz2 (And.intro hm2 hres2))))
            clear hm2 hcg2 hz2 hres2 hk2
            refine hK.out _ _ (fun _ => hS) (fun _ => ?_)
            clear hK K
            try simp only [Act.put, List.getElem_toArray, List.getElem_cons_succ, List.getElem_cons_zero, List.setIfInBounds_toArray, List.set_cons_zero, List.set_cons_succ]
            refine wpAnyU_take (i := 7) [8, 9, 11, 12] rfl (by as_aux_lemma => kernel_rfl) (by as_aux_lemma => kernel_rfl) (by as_aux_lemma => kernel_rfl) (by as_aux_lemma => kernel_rfl) (by as_aux_lemma => kernel_rfl) (by as_aux_lemma => kernel_rfl) (fun _ _ _ h => h) (Or.inl ⟨by rfl, (by intro W hSW; (try dsimp only at hSW); (try go_split_ands); go_simp <;> with_reducible rfl)⟩) hS ?_
            try simp only [Act.put, List.getElem_toArray, List.getElem_cons_succ, List.getElem_cons_zero, List.setIfInBounds_toArray, List.set_cons_zero, List.set_cons_succ]
            refine wpAnyU_take (i := 8) [11, 12] rfl (by as_aux_lemma => kernel_rfl) (by as_aux_lemma => kernel_rfl) (by as_aux_lemma => kernel_rfl) (by as_aux_lemma => kernel_rfl) (by as_aux_lemma => kernel_rfl) (by as_aux_lemma => kernel_rfl) (fun _ _ _ h => h) (Or.inl ⟨by rfl, (by intro W hSW; (try dsimp only at hSW); (try go_split_ands); go_simp <;> with_reducible rfl)⟩) hS ?_
            try simp only [Act.put, List.getElem_toArray, List.getElem_cons_succ, List.getElem_cons_zero, List.setIfInBounds_toArray, List.set_cons_zero, List.set_cons_succ]
            refine wpAnyU_take (i := 9) [12] rfl (by as_aux_lemma => kernel_rfl) (by as_aux_lemma => kernel_rfl) (by as_aux_lemma => kernel_rfl) (by as_aux_lemma => kernel_rfl) (by as_aux_lemma => kernel_rfl) (by as_aux_lemma => kernel_rfl) (fun _ _ _ h => h) (Or.inl ⟨by rfl, (by intro W hSW; (try dsimp only at hSW); (try go_split_ands); go_simp <;> with_reducible rfl)⟩) hS ?_
            try simp only [Act.put, List.getElem_toArray, List.getElem_cons_succ, List.getElem_cons_zero, List.setIfInBounds_toArray, List.set_cons_zero, List.set_cons_succ]
            refine wpAnyU_one (i := 11) (by kernel_rfl) rfl (fun K hK => ?_)
            have HNS := Lib.hid HPD.out.store
            have HSN := Lib.hid (rp_size p2 xr2)
            have HON := Lib.hid HPD.out.pm.ra.one
            have HKX := Lib.hid HPD.out.nx
            obtain ⟨w9, hw9⟩ : ∃ w9, wv.setRow Nx (rpcells p2 xr2) = w9 := ⟨_, rfl⟩
            rw [hw9] at HNS
            replace hS : (w9.heap[Bx]? = some (.cells (bcells D L Pb) 28 (0, 0)) ∧ w9.heap[Mx]? = some (.cells csm 36 (0, 0))) ∧ w9.rangeAt lg (lo + j * 3) [.int .i64 dop, .int .i64 dn, .slice ba bn bc] := ⟨⟨HNS.out.bx, by rw [← HCM.out]; exact HNS.out.mx⟩, HRG.out _ HNS.out.pm.below⟩
            obtain ⟨csn, hcsn⟩ : ∃ csn, rpcells p2 xr2 = csn := ⟨_, rfl⟩
            rw [hcsn] at HSN HON hw9 ⊢
            refine step_store_is rfl _ _ _ rfl Nx csn (by rfl) (by rfl) _ _ HKX.out HSN.out (by have := HSN.out; rw [info6] at this; injection this) HON.out ?_
            rw [hw9]
            clear HPD HKX
            refine hK.out _ _ (fun _ => hS) (fun _ => ?_)
            clear hK K
            try simp only [Act.put, List.getElem_toArray, List.getElem_cons_succ, List.getElem_cons_zero, List.setIfInBounds_toArray, List.set_cons_zero, List.set_cons_succ]
            refine wpAnyU_take (i := 12) [] rfl (by as_aux_lemma => kernel_rfl) (by as_aux_lemma => kernel_rfl) (by as_aux_lemma => kernel_rfl) (by as_aux_lemma => kernel_rfl) (by as_aux_lemma => kernel_rfl) (by as_aux_lemma => kernel_rfl) (fun _ _ _ h => h) (Or.inl ⟨by rfl, (by intro W hSW; (try dsimp only at hSW); (try go_split_ands); go_simp <;> with_reducible rfl)⟩) hS ?_
            try simp only [Act.put, List.getElem_toArray, List.getElem_cons_succ, List.getElem_cons_zero, List.setIfInBounds_toArray, List.set_cons_zero, List.set_cons_succ]
            refine wpAnyU_done (by kernel_rfl) ?_ _
            clear hS
            go_wp2
            go_meet
            exact ⟨Nx, _, _, _, _, fine, rfl, rfl, HNS.out⟩
        case rest =>
          obtain ⟨Nx, s2, x2, p2, xr2, fine, ha12, hf13, hns⟩ := hcut
          subst ha12
          subst hf13

          have hres : fine = true ∧ s2.dm.fuse = -1 ∧ ∃ last', PI n (j + 1) s2 last' p2 := by
            rcases hns.res with ⟨a1, a2, a3⟩ | ⟨a1, -⟩
            · exact ⟨a1, a2 HJ.out.2.1, a3⟩
            · exact absurd HJ.out.2.1 a1
          obtain ⟨rfl, hfz2, last2, hpi2⟩ := hres
          have hlk := pq_looks hns.pm hpi2
          have hsn := rp_size p2 xr2
          have hon := hns.pm.ra.one
          have hnx := hns.nx
          have hbx := hns.bx
          obtain ⟨csn, hcsn⟩ : ∃ csn, rpcells p2 xr2 = csn := ⟨_, rfl⟩
          rw [hcsn] at hlk hsn hon hnx
          have HLK := Lib.hid hlk
          have HSN := Lib.hid hsn
          have HON := Lib.hid hon
          have HKN := Lib.hid hnx
          have HKB := Lib.hid hbx
          have HNS := Lib.hid (And.intro hns (And.intro hfz2 (And.intro hpi2 hcsn)))
          clear hns hfz2 hpi2 hlk hsn hon hnx hbx hcsn HPY HRG HLQ HSM HCM
          go_wp2_with (first | (refine load_row_g8 (by rfl) _ _ rfl Bx rfl _ _ (0, 0) _ HKB.out Tryz.underlying28 rfl infoBn ?_) | (refine load_row_g8 (by rfl) _ _ rfl Nx rfl _ _ (0, 0) _ HKN.out Tryz.underlying36 rfl HSN.out ?_))
          refine HLK.out.mono ?_
          rintro e w5 ⟨rfl, hb5⟩
          obtain ⟨hns, hfz2, hpi2, hcsn⟩ := HNS.out
          have hns5 := hns.more hb5
          have hl6 := hns5.next
          have hnx5 := hns5.nx
          have hmx5 := hns5.mx
          obtain ⟨w8, hw8⟩ : ∃ w8, w5.setRow Mx (rpcells p2 xr2) = w8 := ⟨_, rfl⟩
          rw [hw8] at hl6
          rw [hcsn] at hw8 hnx5
          have HKN := Lib.hid hnx5
          have HKM := Lib.hid hmx5
          have HF := Lib.hid (And.intro hl6 (And.intro hpi2 hfz2))
          clear hns hfz2 hpi2 hcsn hns5 hl6 hnx5 hmx5 hb5 HNS HLK HKB
          have HWJ : Hid (wrap64 ((j : Int) + 1) = (j : Int) + 1) := by show _ = _; have h9 := HJ.out.2.2; unfold wrap64; omega
          go_wp2_with (first | (refine wpList_load_row rfl _ _ rfl Nx rfl _ _ (0, 0) _ HKN.out Tryz.underlying36 rfl HSN.out ?_) | (refine wpList_store_row rfl _ _ _ rfl Mx _ rfl rfl _ _ HKM.out HSN.out (by have := HSN.out; rw [info6] at this; injection this) HON.out ?_; rw [hw8]))
          go_roundw
          case rel => exact ⟨j + 1, _, _, _, _, _, by have := HJ.out.1; omega, by rw [HWJ.out]; rfl, HF.out.1, HF.out.2.1, HF.out.2.2⟩
          case measure => have := HJ.out.1; rw [HWJ.out]; simp [RowKit.intOf]; omega
      · have hfin : Hid (Below w.heap.size w wq) := HB1.out.trans (hls.pm.below.mono HB1.out.size)
        clear hls hpi hfz hj
        go_wp2
        (try go_ret)
        exact ⟨rfl, hfin.out⟩
end Mun
