/- The walk of LockApart. -/
import Derived.Test.YtbdkhegfmnladaaMgM
import Derived.Test.YtbdkhegfmnladaaApP
import Derived.Test.YtbdkhegfmnladaaLockG
import Derived.Test.YtbdkhegfmnladaaMgA
set_option maxRecDepth 100000
set_option linter.unusedVariables false
set_option linter.unusedSimpArgs false
namespace Mun
open Go Go.RowKit
open Go.Proofs

/-- two tables apart -/
structure ApI (W1 w : World) (T U : Nat) (t u : TV) (A B : AS) (c d : Nat) : Prop where
  st : Sd W1 w T t A c
  su : Sd W1 w U u B d
  dj : ∀ k, tfoot t k → ¬ tfoot u k
section
variable {W1 w w' : World} {T U : Nat} {t t' u u' : TV} {A A' B B' : AS} {c c' d d' : Nat}
theorem ApI.below (h : ApI W1 w T U t u A B c d) (hb : Below w.heap.size w w') : ApI W1 w' T U t u A B c d := ⟨h.st.below hb, h.su.below hb, h.dj⟩
theorem ApI.stepT (h : ApI W1 w T U t u A B c d) (k : Stp w t w' t') (h2 : Sd W1 w' T t' A' c') : ApI W1 w' T U t' u A' B c' d := by
  obtain ⟨h8, h9⟩ := h.su.beside k (fun j hj e => by have := h.st.lo j e; omega) h.dj
  exact ⟨h2, h8, h9⟩
theorem ApI.stepU (h : ApI W1 w T U t u A B c d) (k : Stp w u w' u') (h2 : Sd W1 w' U u' B' d') : ApI W1 w' T U t u' A B' c d' := by
  obtain ⟨h8, h9⟩ := h.st.beside k (fun j hj e => by have := h.su.lo j e; omega) (fun j h1 h2 => h.dj j h2 h1)
  exact ⟨h8, h2, fun j h1 h2 => h9 j h2 h1⟩
theorem ApI.mono (h : ApI W1 w T U t u A B c d) (h1 : c ≤ c') (h2 : d ≤ d') : ApI W1 w T U t u A B c' d' := ⟨h.st.mono h1, h.su.mono h2, h.dj⟩
end
/-- the law's own copy of a deed -/
structure BxAt (w : World) (D : Nat) (op o : Int) (s : ByteArray) (m : Int) (t u : TV) : Prop where
  blk : w.heap[D]? = some (.cells #[.int .i64 op, .int .u64 o, .string s, .int .i64 m] 42 (0, 0))
  nt : ¬ tfoot t D
  nu : ¬ tfoot u D
section
variable {w w' : World} {D : Nat} {op o m : Int} {s : ByteArray} {t t' u u' : TV}
theorem BxAt.below (h : BxAt w D op o s m t u) (hb : Below w.heap.size w w') : BxAt w' D op o s m t u := ⟨(hb.block D (lt_of_block h.blk)).trans h.blk, h.nt, h.nu⟩
theorem BxAt.stepT (h : BxAt w D op o s m t u) (k : Stp w t w' t') : BxAt w' D op o s m t' u := ⟨k.block h.blk h.nt, k.nfoot (lt_of_block h.blk) h.nt, h.nu⟩
theorem BxAt.stepU (h : BxAt w D op o s m t u) (k : Stp w u w' u') : BxAt w' D op o s m t u' := ⟨k.block h.blk h.nu, h.nt, k.nfoot (lt_of_block h.blk) h.nu⟩
theorem BxAt.c0 (h : BxAt w D op o s m t u) : w.cell? ⟨D, 0, none⟩ = some (.int .i64 op) := cell_of_row w D 0 _ _ _ h.blk
theorem BxAt.c1 (h : BxAt w D op o s m t u) : w.cell? ⟨D, 1, none⟩ = some (.int .u64 o) := cell_of_row w D 1 _ _ _ h.blk
theorem BxAt.c2 (h : BxAt w D op o s m t u) : w.cell? ⟨D, 2, none⟩ = some (.string s) := cell_of_row w D 2 _ _ _ h.blk
theorem BxAt.c3 (h : BxAt w D op o s m t u) : w.cell? ⟨D, 3, none⟩ = some (.int .i64 m) := cell_of_row w D 3 _ _ _ h.blk
end

set_option maxHeartbeats 4000000 in
theorem apart_any (w : World) (v : Value) (l : List LDeed) (hv : LDeedsAt NoF w v l) (hl : l.length ≤ 3518437208882) :
    Calls Try.prog 6 #[v] w fun e w' => e = .returned (.bool true) ∧ Below w.heap.size w w' := by
  obtain ⟨va, vc, rfl, -, -⟩ := hv.row.form
  have haw := awake14 w
  have HV := Lib.hid (And.intro hv hl)
  obtain ⟨n, HN⟩ : ∃ n, Hid (l.length = n) := ⟨_, rfl⟩
  rw [HN.out]
  clear hv hl
  go_enter Try.func6, Try.ntmps6
  go_wp2_with fail
  refine haw.mono ?_
  rintro e w1 ⟨rfl, hb1⟩
  have HB1 := Lib.hid hb1
  have hnew := sd_new w1
  have HNEW := Lib.hid hnew
  clear hb1 hnew haw
  go_wp2_with fail
  refine HNEW.out.mono ?_
  rintro e w2 ⟨t, rfl, hb2, ht⟩
  have hnew := sd_new w2
  have HNEW2 := Lib.hid hnew
  obtain ⟨T, hT⟩ : ∃ T, t.T = T := ⟨_, rfl⟩
  rw [hT] at ht ⊢
  have HT := Lib.hid (And.intro hb2 ht)
  clear hnew HNEW hT hb2 ht
  go_wp2_with fail
  refine HNEW2.out.mono ?_
  rintro e w3 ⟨u, rfl, hb3, hu⟩
  obtain ⟨U, hU⟩ : ∃ U, u.T = U := ⟨_, rfl⟩
  rw [hU] at hu ⊢
  have HST : Hid (ApI w1 w3 T U t u AS.none AS.none 0 0) := ⟨HT.out.2.below hb3, hu.base HT.out.1, fun k h1 h2 => by have := HT.out.2.tab.foot_lt h1; have := hu.lo k h2; omega⟩
  clear hb3 hu hU HT HNEW2
  go_wp2_with fail
  go_loopw [5] (fun iv wr => ∃ (i : Nat) (t u : TV) (A B : AS), iv = .int .i64 i ∧ i ≤ n ∧ ApI w1 wr T U t u A B (2 * i) (2 * i) ∧ Ap A B) (fun iv _ => n - (Go.RowKit.intOf iv).toNat)
  case atStart => exact ⟨0, t, u, _, _, rfl, Nat.zero_le _, HST.out, Ap.empty⟩
  case round =>
    obtain ⟨i, t, u, A, B, rfl, hin, hat, hap⟩ := hrel
    have hb : Below w.heap.size w wr := HB1.out.trans (hat.st.bl.mono HB1.out.size)
    by_cases hlt : i < n
    · have hil : i < l.length := by rw [HN.out]; exact hlt
      obtain ⟨g, off, c', hvv, k0, k1, k2, k3⟩ := (HV.out.1.below hb).at_ i hil
      rw [HN.out] at hvv
      injection hvv with e1 e2 e3
      subst e1
      have hdk := HV.out.1.ok _ (List.getElem_mem hil)
      obtain ⟨x, hx⟩ : ∃ x, l[i] = x := ⟨_, rfl⟩
      rw [hx] at k0 k1 k2 k3 hdk
      obtain ⟨xop, xo, xs, xm⟩ := x
      obtain ⟨-, ⟨hxo1, hxo2⟩, hxs, -⟩ := hdk
      simp only at k0 k1 k2 k3 hxo1 hxo2 hxs
      obtain ⟨o1, ho1⟩ : ∃ o1, IntKind.u64.wrap (xo * 2) = o1 := ⟨_, rfl⟩
      obtain ⟨o2, ho2⟩ : ∃ o2, IntKind.u64.wrap (o1 + 2) = o2 := ⟨_, rfl⟩
      have hev : o2 % 2 = 0 := by rw [IntKind.wrap_u64] at ho1 ho2; omega
      have ho3 : IntKind.u64.wrap (o2 + 1) = o2 + 1 := by rw [IntKind.wrap_u64] at ho1 ho2 ⊢; omega
      have hii : (i : Int) < (n : Int) := by omega
      have hi0 : (0 : Int) ≤ (i : Int) := by omega
      have hcx : ∀ W : World, (Op.stringOp .add ⟨#[120]⟩ xs).run Try.prog W = .ok (.string (sX xs)) W := fun W => run_string_add_sum _ _ _ (by show 1 + xs.size ≤ _; omega)
      have hcy : ∀ W : World, (Op.stringOp .add ⟨#[121]⟩ xs).run Try.prog W = .ok (.string (sY xs)) W := fun W => run_string_add_sum _ _ _ (by show 1 + xs.size ≤ _; omega)
      obtain ⟨D, hD⟩ : ∃ D, wr.heap.size = D := ⟨_, rfl⟩
      obtain ⟨wA, hwA⟩ : ∃ wA, wr.alloc (.cells #[.int .i64 xop, .int .u64 xo, .string xs, .int .i64 xm] 42) = wA := ⟨_, rfl⟩
      obtain ⟨wB, hwB⟩ : ∃ wB, wA.setCell ⟨D, 1, none⟩ (.int .u64 o2) = wB := ⟨_, rfl⟩
      have hbA : Below wr.heap.size wr wA := by rw [← hwA]; exact (Below.refl _ _).alloc (Nat.le_refl _) _
      have kA : wA.heap[D]? = some (.cells #[.int .i64 xop, .int .u64 xo, .string xs, .int .i64 xm] 42 (0, 0)) := by rw [← hwA, ← hD]; exact heap_alloc_new wr _
      have kB : wB.heap[D]? = some (.cells #[.int .i64 xop, .int .u64 o2, .string xs, .int .i64 xm] 42 (0, 0)) := by rw [← hwB]; exact setCell_blkL kA _
      have hbB : Below wr.heap.size wr wB := by
        rw [← hwB]
        exact ⟨by unfold World.setCell; split <;> exact hbA.os, by unfold World.setCell; split <;> exact hbA.tape, by unfold World.setCell; split <;> exact hbA.output, by rw [setCell_sizeL]; exact hbA.size, fun k hk => by rw [setCell_heapL _ _ _ _ (by show k ≠ D; omega)]; exact hbA.block k hk⟩
      have hatB := hat.below hbB
      have hbxB : BxAt wB D xop o2 xs xm t u := ⟨kB, hat.st.tab.nfoot_new (by omega), hat.su.tab.nfoot_new (by omega)⟩
      have hfz : wA.frozen? ⟨D, 1, none⟩ = false := by simp [World.frozen?, kA]
      have y0 := cell_of_row wA D 0 _ _ _ kA
      have y1 := cell_of_row wA D 1 _ _ _ kA
      have z0 := hbxB.c0
      have z1 := hbxB.c1
      have z2 := hbxB.c2
      have z3 := hbxB.c3
      have HWJ : Hid (wrap64 ((i : Int) + 1) = ((i + 1 : Nat) : Int)) := by show _ = _; have := HV.out.2; have := HN.out; unfold wrap64; omega
      have HSX : Hid ((sX xs).size ≤ maxLen ∧ (sY xs).size ≤ maxLen) := by
        have h1 : (sX xs).size = 1 + xs.size := by unfold sX; rw [ByteArray.size_append]; rfl
        have h2 : (sY xs).size = 1 + xs.size := by unfold sY; rw [ByteArray.size_append]; rfl
        show _ ∧ _
        rw [h1, h2]; unfold maxLen; omega
      have HBD : Hid (Below wB.heap.size wB wB.drew) := below_drewN (Below.refl _ _) 1
      have HX := Lib.hid (And.intro hatB (And.intro hbxB (And.intro hap (And.intro hlt (And.intro hxs hev)))))
      clear kA kB hbA hbB hatB hbxB hap hlt hin hxs hxo1 hxo2 hx hil hb hat e2 e3 hev
      by_cases h4 : xop > 4
      · have hfr := (HX.out.1.below HBD.out).st.free (by have := HX.out.2.2.2.1; have := HV.out.2; have := HN.out; omega) o2
        have HF1 := Lib.hid hfr
        have hS0 : wB.drew.cell? ⟨D, 1, none⟩ = some (.int .u64 o2) := z1
        clear hfr hcx hcy
        go_upto_region 11 with (fail)
        clear hwA hwB hfz y0 y1 k0 k1 k2 k3 z0 z1 z2 z3
        refine wp_region_U (fun W => W.cell? ⟨D, 1, none⟩ = some (.int .u64 o2)) [] (by kernel_rfl) ?_
        refine wpAnyU_take (i := 0) [3, 7, 8] rfl (by as_aux_lemma => kernel_rfl) (by as_aux_lemma => kernel_rfl) (by as_aux_lemma => kernel_rfl) (by as_aux_lemma => kernel_rfl) (by as_aux_lemma => kernel_rfl) (by as_aux_lemma => kernel_rfl) (fun _ _ _ h => h) (Or.inl ⟨by rfl, (by intro W hSW; (try dsimp only at hSW); (try go_split_ands); go_simp <;> with_reducible rfl)⟩) hS0 ?_
        try simp only [Act.put, List.getElem_toArray, List.getElem_cons_succ, List.getElem_cons_zero, List.setIfInBounds_toArray, List.set_cons_zero, List.set_cons_succ]
        refine wpAnyU_take (i := 1) [2, 3, 7, 8] rfl (by as_aux_lemma => kernel_rfl) (by as_aux_lemma => kernel_rfl) (by as_aux_lemma => kernel_rfl) (by as_aux_lemma => kernel_rfl) (by as_aux_lemma => kernel_rfl) (by as_aux_lemma => kernel_rfl) (fun _ _ _ h => h) (Or.inl ⟨by rfl, (by intro W hSW; (try dsimp only at hSW); (try go_split_ands); go_simp <;> with_reducible rfl)⟩) hS0 ?_
        try simp only [Act.put, List.getElem_toArray, List.getElem_cons_succ, List.getElem_cons_zero, List.setIfInBounds_toArray, List.set_cons_zero, List.set_cons_succ]
        refine wpAnyU_take (i := 2) [3, 7, 8] rfl (by as_aux_lemma => kernel_rfl) (by as_aux_lemma => kernel_rfl) (by as_aux_lemma => kernel_rfl) (by as_aux_lemma => kernel_rfl) (by as_aux_lemma => kernel_rfl) (by as_aux_lemma => kernel_rfl) (fun _ _ _ h => h) (Or.inl ⟨by rfl, (by intro W hSW; (try dsimp only at hSW); (try go_split_ands); go_simp <;> with_reducible rfl)⟩) hS0 ?_
        try simp only [Act.put, List.getElem_toArray, List.getElem_cons_succ, List.getElem_cons_zero, List.setIfInBounds_toArray, List.set_cons_zero, List.set_cons_succ]
        refine wpAnyU_take (i := 4) [7, 8] rfl (by as_aux_lemma => kernel_rfl) (by as_aux_lemma => kernel_rfl) (by as_aux_lemma => kernel_rfl) (by as_aux_lemma => kernel_rfl) (by as_aux_lemma => kernel_rfl) (by as_aux_lemma => kernel_rfl) (fun _ _ _ h => h) (Or.inl ⟨by rfl, (by intro W hSW; (try dsimp only at hSW); (try go_split_ands); go_simp <;> with_reducible rfl)⟩) hS0 ?_
        try simp only [Act.put, List.getElem_toArray, List.getElem_cons_succ, List.getElem_cons_zero, List.setIfInBounds_toArray, List.set_cons_zero, List.set_cons_succ]
        refine wpAnyU_take (i := 5) [6, 7, 8] rfl (by as_aux_lemma => kernel_rfl) (by as_aux_lemma => kernel_rfl) (by as_aux_lemma => kernel_rfl) (by as_aux_lemma => kernel_rfl) (by as_aux_lemma => kernel_rfl) (by as_aux_lemma => kernel_rfl) (fun _ _ _ h => h) (Or.inl ⟨by rfl, (by intro W hSW; (try dsimp only at hSW); (try go_split_ands); go_simp <;> with_reducible rfl)⟩) hS0 ?_
        try simp only [Act.put, List.getElem_toArray, List.getElem_cons_succ, List.getElem_cons_zero, List.setIfInBounds_toArray, List.set_cons_zero, List.set_cons_succ]
        refine wpAnyU_take (i := 6) [7, 8] rfl (by as_aux_lemma => kernel_rfl) (by as_aux_lemma => kernel_rfl) (by as_aux_lemma => kernel_rfl) (by as_aux_lemma => kernel_rfl) (by as_aux_lemma => kernel_rfl) (by as_aux_lemma => kernel_rfl) (fun _ _ _ h => h) (Or.inl ⟨by rfl, (by intro W hSW; (try dsimp only at hSW); (try go_split_ands); go_simp <;> with_reducible rfl)⟩) hS0 ?_
        try simp only [Act.put, List.getElem_toArray, List.getElem_cons_succ, List.getElem_cons_zero, List.setIfInBounds_toArray, List.set_cons_zero, List.set_cons_succ]
        refine wpAnyU_one (i := 3) (by kernel_rfl) rfl (fun K hK => ?_)
        go_simp
        go_at_call 19
        (with_reducible refine HF1.out.mono ?_)
        rintro e w4 ⟨va1, ns1, t', rfl, hp1, hnd1, hm1, hst1, hsd1, hrow1, hnf1, hln1⟩
        have hat4 := (HX.out.1.below HBD.out).stepT hst1 hsd1
        have hbx4 := (HX.out.2.1.below HBD.out).stepT hst1
        have hS4 : w4.cell? ⟨D, 1, none⟩ = some (.int .u64 o2) := hbx4.c1
        have hf2 := hat4.su.free (by have := HX.out.2.2.2.1; have := HV.out.2; have := HN.out; omega) o2
        have HF2 := Lib.hid hf2
        have H4 := Lib.hid (And.intro hat4 (And.intro hbx4 (And.intro hp1 (And.intro hnd1 (And.intro hm1 (And.intro hrow1 (And.intro hnf1 hln1)))))))
        have H4u : Hid (∀ k, tfoot u k → k < wB.drew.heap.size) := fun k hk => (HX.out.1.below HBD.out).su.tab.foot_lt hk
        clear hp1 hnd1 hm1 hst1 hsd1 hrow1 hnf1 hln1 hat4 hbx4 hf2 HF1
        refine hK.out _ _ (fun _ => hS4) (fun _ => ?_)
        clear hK K
        try simp only [Act.put, List.getElem_toArray, List.getElem_cons_succ, List.getElem_cons_zero, List.setIfInBounds_toArray, List.set_cons_zero, List.set_cons_succ]
        refine wpAnyU_one (i := 7) (by kernel_rfl) rfl (fun K hK => ?_)
        go_simp
        go_at_call 19
        (with_reducible refine HF2.out.mono ?_)
        rintro e w5 ⟨va2, ns2, u', rfl, hp2, hnd2, hm2, hst2, hsd2, hrow2, hnf2, hln2⟩
        have hat5 := H4.out.1.stepU hst2 hsd2
        have hbx5 := H4.out.2.1.stepU hst2
        have hS5 : w5.cell? ⟨D, 1, none⟩ = some (.int .u64 o2) := hbx5.c1
        have hns : ns1 = ns2 := sorted_uniq H4.out.2.2.1 hp2 H4.out.2.2.2.1 hnd2 (fun s => (H4.out.2.2.2.2.1 s).trans (((HX.out.2.2.1.touched HX.out.2.2.2.2.2 s).1).trans (hm2 s).symm))
        have hpp : popped A o2 ns1 = popped B o2 ns2 := by rw [← hns]; exact HX.out.2.2.1.popped (fun s hs => (HX.out.2.2.1.touched HX.out.2.2.2.2.2 s).2 ((H4.out.2.2.2.2.1 s).1 hs))
        rw [← hpp] at hrow2
        have hrow1 := rowU_keep H4.out.2.2.2.2.2.1 (fun k hk => hst2.chg.block k (H4.out.2.2.2.2.2.1.lt k hk).2 (fun e => by have h1 := H4u.out k e; have h2 := (H4.out.2.2.2.2.2.1.lt k hk).1; omega))
        have hnum := numbers_rows hrow1 hrow2 (by have := H4.out.2.2.2.2.2.2.2; have := HX.out.2.2.2.1; have := HV.out.2; have := HN.out; omega)
        have HNUM := Lib.hid hnum
        have H5 := Lib.hid hat5
        clear hp2 hnd2 hm2 hst2 hsd2 hrow2 hnf2 hln2 hat5 hbx5 hns hpp hrow1 hnum H4 H4u HF2
        refine hK.out _ _ (fun _ => hS5) (fun _ => ?_)
        clear hK K
        try simp only [Act.put, List.getElem_toArray, List.getElem_cons_succ, List.getElem_cons_zero, List.setIfInBounds_toArray, List.set_cons_zero, List.set_cons_succ]
        refine wpAnyU_one (i := 8) (by kernel_rfl) rfl (fun K hK => ?_)
        go_simp
        go_at_call 20
        (with_reducible refine HNUM.out.mono ?_)
        rintro e w6 ⟨rfl, hb6⟩
        have hS6 : w6.cell? ⟨D, 1, none⟩ = some (.int .u64 o2) := (World.cell?_of_block (hb6.block D (World.block_lt_of_cell? _ _ hS5))).trans hS5
        have H6 : Hid (ApI w1 w6 T U t' u' (A.freed o2) (B.freed o2) (2 * (i + 1)) (2 * (i + 1))) := (H5.out.below hb6).mono (by omega) (by omega)
        clear hb6 HNUM H5
        refine hK.out _ _ (fun _ => hS6) (fun _ => ?_)
        clear hK K
        try simp only [Act.put, List.getElem_toArray, List.getElem_cons_succ, List.getElem_cons_zero, List.setIfInBounds_toArray, List.set_cons_zero, List.set_cons_succ]
        refine wpAnyU_done (by kernel_rfl) ?_ _
        clear hS0 hS4 hS5 hS6
        go_wp2
        go_roundw
        case rel => exact ⟨i + 1, t', u', _, _, by rw [HWJ.out], HX.out.2.2.2.1, H6.out, HX.out.2.2.1.freed HX.out.2.2.2.2.2⟩
        case measure => exact meas_up HWJ.out HX.out.2.2.2.1
      · have hc1 : 2 * i + 2 ≤ 8796093022199 := by have := HX.out.2.2.2.1; have := HV.out.2; have := HN.out; omega
        have hea := HX.out.2.2.1.ask HX.out.2.2.2.2.2 xs xm
        obtain ⟨ea, hea1⟩ : ∃ ea, (A.ask o2 (sX xs) xm).2 = ea := ⟨_, rfl⟩
        obtain ⟨A1, hA1⟩ : ∃ A1, (A.ask o2 (sX xs) xm).1 = A1 := ⟨_, rfl⟩
        obtain ⟨B1, hB1'⟩ : ∃ B1, (B.ask o2 (sX xs) xm).1 = B1 := ⟨_, rfl⟩
        have hf1 := HX.out.1.st.ask (by omega) o2 (sX xs) xm HSX.out.1
        have heb : (B.ask o2 (sX xs) xm).2 = ea := by rw [← hea.1, hea1]
        rw [hea1, hA1] at hf1
        have hap1 : Ap A1 B1 := by rw [← hA1, ← hB1']; exact hea.2
        have hap2 := hap1.askY (o := o2 + 1) (by have := HX.out.2.2.2.2.2; omega) xs xm
        obtain ⟨A2, hA2⟩ : ∃ A2, (A1.ask (o2 + 1) (sY xs) xm).1 = A2 := ⟨_, rfl⟩
        rw [hA2] at hap2
        have HF1 := Lib.hid hf1
        have HEB := Lib.hid (And.intro heb (And.intro hB1' (And.intro hA2 (And.intro hap2 hc1))))
        have hee : (ea != ea) = false := by simp
        clear hea hea1 hA1 hf1 heb hap1 hap2 hA2 hB1' hc1
        go_wp2_with fail
        clear hwA hwB hfz y0 y1 k0 k1 k2 k3 z0 z1 z2 z3
        refine HF1.out.mono ?_
        rintro e w4 ⟨rfl, t', hst1, hsd1⟩
        have hat4 := HX.out.1.stepT hst1 hsd1
        have hbx4 := HX.out.2.1.stepT hst1
        have z1 := hbx4.c1
        have z2 := hbx4.c2
        have z3 := hbx4.c3
        have hf2 := hat4.su.ask (by have := HEB.out.2.2.2.2; omega) o2 (sX xs) xm HSX.out.1
        rw [HEB.out.1, HEB.out.2.1] at hf2
        have HF2 := Lib.hid hf2
        have H4 := Lib.hid (And.intro hat4 hbx4)
        clear hat4 hbx4 hf2 hst1 hsd1 HF1
        go_wp2_with fail
        clear z1 z2 z3
        refine HF2.out.mono ?_
        rintro e w5 ⟨rfl, u', hst2, hsd2⟩
        have hat5 := H4.out.1.stepU hst2 hsd2
        have hbx5 := H4.out.2.stepU hst2
        have z1 := hbx5.c1
        have z2 := hbx5.c2
        have z3 := hbx5.c3
        have hf3 := hat5.st.ask (by have := HEB.out.2.2.2.2; omega) (o2 + 1) (sY xs) xm HSX.out.2
        rw [HEB.out.2.2.1] at hf3
        obtain ⟨ec, hec⟩ : ∃ ec, (A1.ask (o2 + 1) (sY xs) xm).2 = ec := ⟨_, rfl⟩
        rw [hec] at hf3
        have HF3 := Lib.hid hf3
        have H5 := Lib.hid (And.intro hat5 hbx5)
        clear hat5 hbx5 hf3 hst2 hsd2 HF2 hec H4
        go_wp2_with fail
        clear z1 z2 z3
        refine HF3.out.mono ?_
        rintro e w6 ⟨rfl, t2, hst3, hsd3⟩
        have hat6 := (H5.out.1.stepT hst3 hsd3).mono (c' := 2 * (i + 1)) (d' := 2 * (i + 1)) (by omega) (by omega)
        have hbx6 := H5.out.2.stepT hst3
        have HBD6 : Hid (Below w6.heap.size w6 w6.drew) := below_drewN (Below.refl _ _) 1
        have hS0 : w6.drew.cell? ⟨D, 2, none⟩ = some (.string xs) := hbx6.c2
        have hqA := (hat6.below HBD6.out).st.queue (by have := HEB.out.2.2.2.2; omega) (sX xs)
        have HQA := Lib.hid hqA
        have H6 := Lib.hid (And.intro (hat6.below HBD6.out) (hbx6.below HBD6.out))
        clear hat6 hbx6 hst3 hsd3 HF3 H5 hqA
        go_upto_region 16 with (fail)
        refine wp_region_U (fun W => W.cell? ⟨D, 2, none⟩ = some (.string xs)) [] (by kernel_rfl) ?_
        refine wpAnyU_take (i := 0) [2, 3, 4, 5, 6, 7, 8, 9, 10, 11, 12, 13, 14, 15, 16] rfl (by as_aux_lemma => kernel_rfl) (by as_aux_lemma => kernel_rfl) (by as_aux_lemma => kernel_rfl) (by as_aux_lemma => kernel_rfl) (by as_aux_lemma => kernel_rfl) (by as_aux_lemma => kernel_rfl) (fun _ _ _ h => h) (Or.inl ⟨by rfl, (by intro W hSW; (try dsimp only at hSW); (try go_split_ands); go_simp <;> with_reducible rfl)⟩) hS0 ?_
        try simp only [Act.put, List.getElem_toArray, List.getElem_cons_succ, List.getElem_cons_zero, List.setIfInBounds_toArray, List.set_cons_zero, List.set_cons_succ]
        refine wpAnyU_take (i := 1) [2, 3, 4, 5, 6, 7, 8, 9, 10, 11, 12, 13, 14, 15, 16] rfl (by as_aux_lemma => kernel_rfl) (by as_aux_lemma => kernel_rfl) (by as_aux_lemma => kernel_rfl) (by as_aux_lemma => kernel_rfl) (by as_aux_lemma => kernel_rfl) (by as_aux_lemma => kernel_rfl) (fun _ _ _ h => h) (Or.inl ⟨by rfl, (by intro W hSW; (try dsimp only at hSW); (try go_split_ands); go_simp <;> with_reducible rfl)⟩) hS0 ?_
        try simp only [Act.put, List.getElem_toArray, List.getElem_cons_succ, List.getElem_cons_zero, List.setIfInBounds_toArray, List.set_cons_zero, List.set_cons_succ]
        refine wpAnyU_take (i := 2) [3, 4, 5, 6, 7, 8, 9, 10, 11, 12, 13, 14, 15, 16] rfl (by as_aux_lemma => kernel_rfl) (by as_aux_lemma => kernel_rfl) (by as_aux_lemma => kernel_rfl) (by as_aux_lemma => kernel_rfl) (by as_aux_lemma => kernel_rfl) (by as_aux_lemma => kernel_rfl) (fun _ _ _ h => h) (Or.inl ⟨by rfl, (by intro W hSW; (try dsimp only at hSW); (try go_split_ands); go_simp <;> with_reducible rfl)⟩) hS0 ?_
        try simp only [Act.put, List.getElem_toArray, List.getElem_cons_succ, List.getElem_cons_zero, List.setIfInBounds_toArray, List.set_cons_zero, List.set_cons_succ]
        refine wpAnyU_take (i := 3) [4, 5, 6, 7, 8, 9, 10, 11, 12, 13, 14, 15, 16] rfl (by as_aux_lemma => kernel_rfl) (by as_aux_lemma => kernel_rfl) (by as_aux_lemma => kernel_rfl) (by as_aux_lemma => kernel_rfl) (by as_aux_lemma => kernel_rfl) (by as_aux_lemma => kernel_rfl) (fun _ _ _ h => h) (Or.inl ⟨by rfl, (by intro W hSW; (try dsimp only at hSW); (try go_split_ands); go_simp <;> with_reducible rfl)⟩) hS0 ?_
        try simp only [Act.put, List.getElem_toArray, List.getElem_cons_succ, List.getElem_cons_zero, List.setIfInBounds_toArray, List.set_cons_zero, List.set_cons_succ]
        refine wpAnyU_take (i := 4) [8, 13, 14, 15, 16] rfl (by as_aux_lemma => kernel_rfl) (by as_aux_lemma => kernel_rfl) (by as_aux_lemma => kernel_rfl) (by as_aux_lemma => kernel_rfl) (by as_aux_lemma => kernel_rfl) (by as_aux_lemma => kernel_rfl) (fun _ _ _ h => h) (by first | exact Or.inl ⟨by rfl, (by intro W hSW; (try dsimp only at hSW); (try go_split_ands); go_simp <;> with_reducible rfl)⟩ | exact Or.inr ⟨by rfl, rfl⟩) hS0 ?_
        try simp only [Act.put, List.getElem_toArray, List.getElem_cons_succ, List.getElem_cons_zero, List.setIfInBounds_toArray, List.set_cons_zero, List.set_cons_succ]
        refine wpAnyU_take (i := 5) [6, 7, 8, 13, 14, 15, 16] rfl (by as_aux_lemma => kernel_rfl) (by as_aux_lemma => kernel_rfl) (by as_aux_lemma => kernel_rfl) (by as_aux_lemma => kernel_rfl) (by as_aux_lemma => kernel_rfl) (by as_aux_lemma => kernel_rfl) (fun _ _ _ h => h) (by first | exact Or.inl ⟨by rfl, (by intro W hSW; (try dsimp only at hSW); (try go_split_ands); go_simp <;> with_reducible rfl)⟩ | exact Or.inr ⟨by rfl, rfl⟩) hS0 ?_
        try simp only [Act.put, List.getElem_toArray, List.getElem_cons_succ, List.getElem_cons_zero, List.setIfInBounds_toArray, List.set_cons_zero, List.set_cons_succ]
        refine wpAnyU_take (i := 6) [7, 8, 13, 14, 15, 16] rfl (by as_aux_lemma => kernel_rfl) (by as_aux_lemma => kernel_rfl) (by as_aux_lemma => kernel_rfl) (by as_aux_lemma => kernel_rfl) (by as_aux_lemma => kernel_rfl) (by as_aux_lemma => kernel_rfl) (fun _ _ _ h => h) (by first | exact Or.inl ⟨by rfl, (by intro W hSW; (try dsimp only at hSW); (try go_split_ands); go_simp <;> with_reducible rfl)⟩ | exact Or.inr ⟨by rfl, rfl⟩) hS0 ?_
        try simp only [Act.put, List.getElem_toArray, List.getElem_cons_succ, List.getElem_cons_zero, List.setIfInBounds_toArray, List.set_cons_zero, List.set_cons_succ]
        refine wpAnyU_take (i := 7) [8, 13, 14, 15, 16] rfl (by as_aux_lemma => kernel_rfl) (by as_aux_lemma => kernel_rfl) (by as_aux_lemma => kernel_rfl) (by as_aux_lemma => kernel_rfl) (by as_aux_lemma => kernel_rfl) (by as_aux_lemma => kernel_rfl) (fun _ _ _ h => h) (by first | exact Or.inl ⟨by rfl, (by intro W hSW; (try dsimp only at hSW); (try go_split_ands); go_simp <;> with_reducible rfl)⟩ | exact Or.inr ⟨by rfl, rfl⟩) hS0 ?_
        try simp only [Act.put, List.getElem_toArray, List.getElem_cons_succ, List.getElem_cons_zero, List.setIfInBounds_toArray, List.set_cons_zero, List.set_cons_succ]
        refine wpAnyU_take (i := 9) [13, 14, 15, 16] rfl (by as_aux_lemma => kernel_rfl) (by as_aux_lemma => kernel_rfl) (by as_aux_lemma => kernel_rfl) (by as_aux_lemma => kernel_rfl) (by as_aux_lemma => kernel_rfl) (by as_aux_lemma => kernel_rfl) (fun _ _ _ h => h) (by first | exact Or.inl ⟨by rfl, (by intro W hSW; (try dsimp only at hSW); (try go_split_ands); go_simp <;> with_reducible rfl)⟩ | exact Or.inr ⟨by rfl, rfl⟩) hS0 ?_
        try simp only [Act.put, List.getElem_toArray, List.getElem_cons_succ, List.getElem_cons_zero, List.setIfInBounds_toArray, List.set_cons_zero, List.set_cons_succ]
        refine wpAnyU_take (i := 10) [11, 12, 13, 14, 15, 16] rfl (by as_aux_lemma => kernel_rfl) (by as_aux_lemma => kernel_rfl) (by as_aux_lemma => kernel_rfl) (by as_aux_lemma => kernel_rfl) (by as_aux_lemma => kernel_rfl) (by as_aux_lemma => kernel_rfl) (fun _ _ _ h => h) (by first | exact Or.inl ⟨by rfl, (by intro W hSW; (try dsimp only at hSW); (try go_split_ands); go_simp <;> with_reducible rfl)⟩ | exact Or.inr ⟨by rfl, rfl⟩) hS0 ?_
        try simp only [Act.put, List.getElem_toArray, List.getElem_cons_succ, List.getElem_cons_zero, List.setIfInBounds_toArray, List.set_cons_zero, List.set_cons_succ]
        refine wpAnyU_take (i := 11) [12, 13, 14, 15, 16] rfl (by as_aux_lemma => kernel_rfl) (by as_aux_lemma => kernel_rfl) (by as_aux_lemma => kernel_rfl) (by as_aux_lemma => kernel_rfl) (by as_aux_lemma => kernel_rfl) (by as_aux_lemma => kernel_rfl) (fun _ _ _ h => h) (by first | exact Or.inl ⟨by rfl, (by intro W hSW; (try dsimp only at hSW); (try go_split_ands); go_simp <;> with_reducible rfl)⟩ | exact Or.inr ⟨by rfl, rfl⟩) hS0 ?_
        try simp only [Act.put, List.getElem_toArray, List.getElem_cons_succ, List.getElem_cons_zero, List.setIfInBounds_toArray, List.set_cons_zero, List.set_cons_succ]
        refine wpAnyU_take (i := 12) [13, 14, 15, 16] rfl (by as_aux_lemma => kernel_rfl) (by as_aux_lemma => kernel_rfl) (by as_aux_lemma => kernel_rfl) (by as_aux_lemma => kernel_rfl) (by as_aux_lemma => kernel_rfl) (by as_aux_lemma => kernel_rfl) (fun _ _ _ h => h) (by first | exact Or.inl ⟨by rfl, (by intro W hSW; (try dsimp only at hSW); (try go_split_ands); go_simp <;> with_reducible rfl)⟩ | exact Or.inr ⟨by rfl, rfl⟩) hS0 ?_
        try simp only [Act.put, List.getElem_toArray, List.getElem_cons_succ, List.getElem_cons_zero, List.setIfInBounds_toArray, List.set_cons_zero, List.set_cons_succ]
        refine wpAnyU_one (i := 8) (by kernel_rfl) rfl (fun K hK => ?_)
        go_simp
        go_at_call 21
        (with_reducible refine HQA.out.mono ?_)
        rintro e w7 ⟨v7, rfl, hrow7, hb7⟩
        have hat7 := H6.out.1.below hb7
        have hbx7 := H6.out.2.below hb7
        have hS7 : w7.cell? ⟨D, 2, none⟩ = some (.string xs) := hbx7.c2
        have hqB := hat7.su.queue (by have := HEB.out.2.2.2.2; omega) (sX xs)
        have hql := hat7.st.qlen (sX xs)
        rw [← ((HEB.out.2.2.2.1).x (sX xs) ⟨xs, rfl⟩).2] at hqB
        have HQB := Lib.hid hqB
        have H7 := Lib.hid (And.intro hat7 (And.intro hbx7 (And.intro hrow7 hql)))
        clear hb7 hat7 hbx7 hrow7 hql hqB HQA H6
        refine hK.out _ _ (fun _ => hS7) (fun _ => ?_)
        clear hK K
        try simp only [Act.put, List.getElem_toArray, List.getElem_cons_succ, List.getElem_cons_zero, List.setIfInBounds_toArray, List.set_cons_zero, List.set_cons_succ]
        refine wpAnyU_one (i := 13) (by kernel_rfl) rfl (fun K hK => ?_)
        go_simp
        go_at_call 21
        (with_reducible refine HQB.out.mono ?_)
        rintro e w8 ⟨v8, rfl, hrow8, hb8⟩
        have hat8 := H7.out.1.below hb8
        have hbx8 := H7.out.2.1.below hb8
        have hS8 : w8.cell? ⟨D, 2, none⟩ = some (.string xs) := hbx8.c2
        have hnum := numbers_rows (rowU_keep H7.out.2.2.1 (fun k hk => hb8.block k (H7.out.2.2.1.lt k hk).2)) hrow8 (by have := H7.out.2.2.2; have := HEB.out.2.2.2.2; omega)
        have HNUM := Lib.hid hnum
        have H8 := Lib.hid (And.intro hat8 hbx8)
        clear hb8 hat8 hbx8 hrow8 hnum HQB H7
        refine hK.out _ _ (fun _ => hS8) (fun _ => ?_)
        clear hK K
        try simp only [Act.put, List.getElem_toArray, List.getElem_cons_succ, List.getElem_cons_zero, List.setIfInBounds_toArray, List.set_cons_zero, List.set_cons_succ]
        refine wpAnyU_one (i := 14) (by kernel_rfl) rfl (fun K hK => ?_)
        go_simp
        go_at_call 20
        (with_reducible refine HNUM.out.mono ?_)
        rintro e w9 ⟨rfl, hb9⟩
        have hat9 := H8.out.1.below hb9
        have hbx9 := H8.out.2.below hb9
        have hS9 : w9.cell? ⟨D, 2, none⟩ = some (.string xs) := hbx9.c2
        have z1 := hbx9.c1
        have hvA := hat9.st.victim (by have := HEB.out.2.2.2.2; omega) o2
        have HVA := Lib.hid hvA
        have H9 := Lib.hid (And.intro hat9 hbx9)
        clear hb9 hat9 hbx9 hvA HNUM H8
        refine hK.out _ _ (fun _ => hS9) (fun _ => ?_)
        clear hK K
        try simp only [Act.put, List.getElem_toArray, List.getElem_cons_succ, List.getElem_cons_zero, List.setIfInBounds_toArray, List.set_cons_zero, List.set_cons_succ]
        refine wpAnyU_take (i := 15) [16] rfl (by as_aux_lemma => kernel_rfl) (by as_aux_lemma => kernel_rfl) (by as_aux_lemma => kernel_rfl) (by as_aux_lemma => kernel_rfl) (by as_aux_lemma => kernel_rfl) (by as_aux_lemma => kernel_rfl) (fun _ _ _ h => h) (by first | exact Or.inl ⟨by rfl, (by intro W hSW; (try dsimp only at hSW); (try go_split_ands); go_simp <;> with_reducible rfl)⟩ | exact Or.inr ⟨by rfl, rfl⟩) hS9 ?_
        try simp only [Act.put, List.getElem_toArray, List.getElem_cons_succ, List.getElem_cons_zero, List.setIfInBounds_toArray, List.set_cons_zero, List.set_cons_succ]
        refine wpAnyU_take (i := 16) [] rfl (by as_aux_lemma => kernel_rfl) (by as_aux_lemma => kernel_rfl) (by as_aux_lemma => kernel_rfl) (by as_aux_lemma => kernel_rfl) (by as_aux_lemma => kernel_rfl) (by as_aux_lemma => kernel_rfl) (fun _ _ _ h => h) (Or.inl ⟨by rfl, (by intro W hSW; (try dsimp only at hSW); (try go_split_ands); go_simp <;> with_reducible rfl)⟩) hS9 ?_
        try simp only [Act.put, List.getElem_toArray, List.getElem_cons_succ, List.getElem_cons_zero, List.setIfInBounds_toArray, List.set_cons_zero, List.set_cons_succ]
        refine wpAnyU_done (by kernel_rfl) ?_ _
        clear hS0 hS7 hS8 hS9
        go_wp2_with fail
        clear z1
        refine HVA.out.mono ?_
        rintro e w10 ⟨va, ba, rfl, hb10, hvic1⟩
        have hat10 := H9.out.1.below hb10
        have hbx10 := H9.out.2.below hb10
        have z1 := hbx10.c1
        have hvB := hat10.su.victim (by have := HEB.out.2.2.2.2; omega) o2
        have HVB := Lib.hid hvB
        have H10 := Lib.hid (And.intro hat10 hvic1)
        clear hb10 hat10 hbx10 hvB hvic1 HVA H9
        go_wp2_with fail
        clear z1
        refine HVB.out.mono ?_
        rintro e w11 ⟨vb, bb, rfl, hb11, hvic2⟩
        obtain ⟨rfl, rfl⟩ := (HEB.out.2.2.2.1.victim HX.out.2.2.2.2.2 H10.out.2).uniq hvic2
        have H11 := Lib.hid (H10.out.1.below hb11)
        have hvv : (va != va) = false := by simp
        have hbb : (ba != ba) = false := by simp
        clear hb11 hvic2 HVB H10
        go_wp2
        go_roundw
        case rel => exact ⟨i + 1, t2, u', _, _, by rw [HWJ.out], HX.out.2.2.2.1, H11.out, HEB.out.2.2.2.1⟩
        case measure => exact meas_up HWJ.out HX.out.2.2.2.1
    · have hii : ¬ (i : Int) < (n : Int) := by omega
      have HB := Lib.hid hb
      clear hb hin hat hap hlt
      go_wp2
      go_ret
      exact ⟨rfl, HB.out⟩
end Mun
