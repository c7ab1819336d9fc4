/- Contract of a log: Cut. Printed by wip/tools/gencut.py. -/
import Derived.Test.YtoblajbffnkkiaaMgG
import Derived.Test.YtoblajbffnkkiaaMgD
import Derived.Test.YtoblajbffnkkiaaMgA
set_option maxRecDepth 100000
set_option linter.unusedVariables false
set_option linter.unusedSimpArgs false
namespace Mun
open Go Go.RowKit
open Go.Proofs

section
variable {Z : Foot} (w : World) (D L : Nat) (F : Foot) (dm : DM) (m : LM) (bv sv : Value) (i : Nat)

set_option maxHeartbeats 4000000 in
theorem l_cut_endC (h : LogAt w D L Z F dm m bv sv) (ho : dm.ops < 4398046511104) (hi : i = m.recs.length) (hf : m.off i ≤ m.forced) (hck : m.base + m.off i ≤ m.check ∧ 0 < m.check) (hbb : m.base + m.off i < 4611686018427387904) :
    Calls Try.prog 24 #[.pointer (some ⟨L, 0, none⟩), .int .u64 (m.base + m.off i : Nat)] w (CutOut w D L Z F dm m bv sv i) := by
  obtain ⟨ba, bn, bc, sa, sn, sc, rfl, rfl, HN⟩ := h.mem.forms
  have hen := l_end h.mem
  have hoff : m.off i ≤ 16777216 := Nat.le_trans (lenL_take_le _ _) h.mem.wf.len
  have hfo := fun k => l_forced (h.mem.keep (w' := w.drewN k) (fun _ _ => rfl))
  have hfl : m.forced ≤ 16777216 := Nat.le_trans h.mem.wf.forced h.mem.wf.len
  have hbs := h.mem.wf.base
  have hil : i ≤ m.recs.length := by omega
  obtain ⟨q, hq⟩ : ∃ q, m.base + m.off i = q := ⟨_, rfl⟩
  obtain ⟨fo, hfoq⟩ : ∃ fo, m.base + m.forced = fo := ⟨_, rfl⟩
  obtain ⟨o, hoq⟩ : ∃ o, m.off i = o := ⟨_, rfl⟩
  have t2 : ¬ (fo : Int) < (q : Int) := by omega
  have hfq : m.fin = q := by rw [← hq, hi]; unfold LM.fin LM.off; rw [List.take_length]
  rw [hfq] at hen
  clear hfq
  have t3 : ¬ (m.check : Int) < (q : Int) := by rw [← hq]; omega
  have z1 : ((m.check : Int) != 0) = true := by simp; omega
  have z2 : ((m.check : Int) == 0) = false := by simp; omega
  rw [hfoq] at hfo
  rw [hoq] at hoff hf hq hbb
  unfold CutOut
  rw [hoq, hq]
  have v1 : IntKind.u64.wrap ((q : Int) - (m.base : Int)) = (o : Int) := by
    have e : (q : Int) - (m.base : Int) = (o : Int) := by omega
    rw [e]
    exact wrap_u64_nat _ (by omega)
  have hoi : (o : Int) ≤ 16777216 := by omega
  have HM := Lib.hid h
  have HE := Lib.hid hen
  have HFO := Lib.hid hfo
  have HQ := Lib.hid (And.intro hq (And.intro hoq (And.intro hoff (And.intro hf (And.intro hfl (And.intro hbb hil))))))
  have HOP := Lib.hid ho

  clear h hen hfo hq hoq hoff hf hfl hbs ho hbb hil hi hck hfoq
  go_enter Try.func24, Try.ntmps24
  go_wp2_with fail
  refine HE.out.mono ?_
  rintro e w1 ⟨rfl, k1, rfl⟩
  go_wp2_with fail
  refine (HFO.out _).mono ?_
  rintro e w2 ⟨rfl, k2, hk2⟩
  have hb2 : Below w.heap.size w w2 := by rw [hk2]; exact below_drewN (below_drewN (Below.refl _ _) _) _
  have h2 := HM.out.below hb2
  have c5 : w2.cell? ⟨L, 5, none⟩ = some (.int .u64 m.check) := h2.mem.cell 5
  have c1 : w2.cell? ⟨L, 1, none⟩ = some (.int .u64 m.base) := h2.mem.cell 1
  have HB2 := Lib.hid hb2
  have HH2 := Lib.hid h2
  clear hk2 hb2 h2 HE HFO
  go_upto_region 4 with (fail)
  clear v1 t2 c1 t3 z1 z2
  have hS0 : w2.drew.cell? ⟨L, 0, none⟩ = some (.pointer (some ⟨D, 0, none⟩)) ∧ w2.drew.cell? ⟨L, 5, none⟩ = some (.int .u64 m.check) := ⟨HH2.out.mem.cell 0, c5⟩
  have hmk : Calls Try.prog 54 #[.pointer (some ⟨L, 0, none⟩), .int .u64 q, .int .u64 m.check] w2.drew (MarkOut w2.drew q m.check) := l_marked w2.drew (.pointer (some ⟨L, 0, none⟩)) q m.check
  have HMK := Lib.hid hmk
  clear hmk c5
  refine wp_region_U (fun W => W.cell? ⟨L, 0, none⟩ = some (.pointer (some ⟨D, 0, none⟩)) ∧ W.cell? ⟨L, 5, none⟩ = some (.int .u64 m.check)) [] (by kernel_rfl) ?_
  refine wpAnyU_take (i := 0) [1, 2, 3, 12, 13] rfl (by as_aux_lemma => kernel_rfl) (by as_aux_lemma => kernel_rfl) (by as_aux_lemma => kernel_rfl) (by as_aux_lemma => kernel_rfl) (by as_aux_lemma => kernel_rfl) (by as_aux_lemma => kernel_rfl) (fun _ _ _ h => h) (Or.inl ⟨by rfl, (by intro W hSW; (try dsimp only at hSW); (try go_split_ands); go_simp <;> with_reducible rfl)⟩) hS0 ?_
  try simp only [Act.put, List.getElem_toArray, List.getElem_cons_succ, List.getElem_cons_zero, List.setIfInBounds_toArray, List.set_cons_zero, List.set_cons_succ]
  refine wpAnyU_take (i := 1) [2, 3, 12, 13] rfl (by as_aux_lemma => kernel_rfl) (by as_aux_lemma => kernel_rfl) (by as_aux_lemma => kernel_rfl) (by as_aux_lemma => kernel_rfl) (by as_aux_lemma => kernel_rfl) (by as_aux_lemma => kernel_rfl) (fun _ _ _ h => h) (Or.inl ⟨by rfl, (by intro W hSW; (try dsimp only at hSW); (try go_split_ands); go_simp <;> with_reducible rfl)⟩) hS0 ?_
  try simp only [Act.put, List.getElem_toArray, List.getElem_cons_succ, List.getElem_cons_zero, List.setIfInBounds_toArray, List.set_cons_zero, List.set_cons_succ]
  refine wpAnyU_take (i := 2) [3, 12, 13] rfl (by as_aux_lemma => kernel_rfl) (by as_aux_lemma => kernel_rfl) (by as_aux_lemma => kernel_rfl) (by as_aux_lemma => kernel_rfl) (by as_aux_lemma => kernel_rfl) (by as_aux_lemma => kernel_rfl) (fun _ _ _ h => h) (Or.inl ⟨by rfl, (by intro W hSW; (try dsimp only at hSW); (try go_split_ands); go_simp <;> with_reducible rfl)⟩) hS0 ?_
  try simp only [Act.put, List.getElem_toArray, List.getElem_cons_succ, List.getElem_cons_zero, List.setIfInBounds_toArray, List.set_cons_zero, List.set_cons_succ]
  refine wpAnyU_take (i := 3) [12, 13] rfl (by as_aux_lemma => kernel_rfl) (by as_aux_lemma => kernel_rfl) (by as_aux_lemma => kernel_rfl) (by as_aux_lemma => kernel_rfl) (by as_aux_lemma => kernel_rfl) (by as_aux_lemma => kernel_rfl) (fun _ _ _ h => h) (Or.inl ⟨by rfl, (by intro W hSW; (try dsimp only at hSW); (try go_split_ands); go_simp <;> with_reducible rfl)⟩) hS0 ?_
  try simp only [Act.put, List.getElem_toArray, List.getElem_cons_succ, List.getElem_cons_zero, List.setIfInBounds_toArray, List.set_cons_zero, List.set_cons_succ]
  refine wpAnyU_take (i := 4) [12, 13] rfl (by as_aux_lemma => kernel_rfl) (by as_aux_lemma => kernel_rfl) (by as_aux_lemma => kernel_rfl) (by as_aux_lemma => kernel_rfl) (by as_aux_lemma => kernel_rfl) (by as_aux_lemma => kernel_rfl) (fun _ _ _ h => h) (Or.inl ⟨by rfl, (by intro W hSW; (try dsimp only at hSW); (try go_split_ands); go_simp <;> with_reducible rfl)⟩) hS0 ?_
  try simp only [Act.put, List.getElem_toArray, List.getElem_cons_succ, List.getElem_cons_zero, List.setIfInBounds_toArray, List.set_cons_zero, List.set_cons_succ]
  refine wpAnyU_take (i := 5) [11, 12, 13] rfl (by as_aux_lemma => kernel_rfl) (by as_aux_lemma => kernel_rfl) (by as_aux_lemma => kernel_rfl) (by as_aux_lemma => kernel_rfl) (by as_aux_lemma => kernel_rfl) (by as_aux_lemma => kernel_rfl) (fun _ _ _ h => h) (Or.inl ⟨by rfl, (by intro W hSW; (try dsimp only at hSW); (try go_split_ands); go_simp <;> with_reducible rfl)⟩) hS0 ?_
  try simp only [Act.put, List.getElem_toArray, List.getElem_cons_succ, List.getElem_cons_zero, List.setIfInBounds_toArray, List.set_cons_zero, List.set_cons_succ]
  refine wpAnyU_take (i := 6) [11, 12, 13] rfl (by as_aux_lemma => kernel_rfl) (by as_aux_lemma => kernel_rfl) (by as_aux_lemma => kernel_rfl) (by as_aux_lemma => kernel_rfl) (by as_aux_lemma => kernel_rfl) (by as_aux_lemma => kernel_rfl) (fun _ _ _ h => h) (Or.inl ⟨by rfl, (by intro W hSW; (try dsimp only at hSW); (try go_split_ands); go_simp <;> with_reducible rfl)⟩) hS0 ?_
  try simp only [Act.put, List.getElem_toArray, List.getElem_cons_succ, List.getElem_cons_zero, List.setIfInBounds_toArray, List.set_cons_zero, List.set_cons_succ]
  refine wpAnyU_take (i := 7) [8, 9, 10, 11, 12, 13] rfl (by as_aux_lemma => kernel_rfl) (by as_aux_lemma => kernel_rfl) (by as_aux_lemma => kernel_rfl) (by as_aux_lemma => kernel_rfl) (by as_aux_lemma => kernel_rfl) (by as_aux_lemma => kernel_rfl) (fun _ _ _ h => h) (Or.inl ⟨by rfl, (by intro W hSW; (try dsimp only at hSW); (try go_split_ands); go_simp <;> with_reducible rfl)⟩) hS0 ?_
  try simp only [Act.put, List.getElem_toArray, List.getElem_cons_succ, List.getElem_cons_zero, List.setIfInBounds_toArray, List.set_cons_zero, List.set_cons_succ]
  refine wpAnyU_take (i := 8) [9, 10, 11, 12, 13] rfl (by as_aux_lemma => kernel_rfl) (by as_aux_lemma => kernel_rfl) (by as_aux_lemma => kernel_rfl) (by as_aux_lemma => kernel_rfl) (by as_aux_lemma => kernel_rfl) (by as_aux_lemma => kernel_rfl) (fun _ _ _ h => h) (Or.inl ⟨by rfl, (by intro W hSW; (try dsimp only at hSW); (try go_split_ands); go_simp <;> with_reducible rfl)⟩) hS0 ?_
  try simp only [Act.put, List.getElem_toArray, List.getElem_cons_succ, List.getElem_cons_zero, List.setIfInBounds_toArray, List.set_cons_zero, List.set_cons_succ]
  refine wpAnyU_take (i := 9) [10, 11, 12, 13] rfl (by as_aux_lemma => kernel_rfl) (by as_aux_lemma => kernel_rfl) (by as_aux_lemma => kernel_rfl) (by as_aux_lemma => kernel_rfl) (by as_aux_lemma => kernel_rfl) (by as_aux_lemma => kernel_rfl) (fun _ _ _ h => h) (Or.inl ⟨by rfl, (by intro W hSW; (try dsimp only at hSW); (try go_split_ands); go_simp <;> with_reducible rfl)⟩) hS0 ?_
  try simp only [Act.put, List.getElem_toArray, List.getElem_cons_succ, List.getElem_cons_zero, List.setIfInBounds_toArray, List.set_cons_zero, List.set_cons_succ]
  refine wpAnyU_take (i := 10) [11, 12, 13] rfl (by as_aux_lemma => kernel_rfl) (by as_aux_lemma => kernel_rfl) (by as_aux_lemma => kernel_rfl) (by as_aux_lemma => kernel_rfl) (by as_aux_lemma => kernel_rfl) (by as_aux_lemma => kernel_rfl) (fun _ _ _ h => h) (Or.inl ⟨by rfl, (by intro W hSW; (try dsimp only at hSW); (try go_split_ands); go_simp <;> with_reducible rfl)⟩) hS0 ?_
  try simp only [Act.put, List.getElem_toArray, List.getElem_cons_succ, List.getElem_cons_zero, List.setIfInBounds_toArray, List.set_cons_zero, List.set_cons_succ]
  refine wpAnyU_one (i := 11) (by kernel_rfl) rfl (fun K hK => ?_)
  go_simp
  go_at_call 54
  (with_reducible refine HMK.out.mono ?_)
  rintro e w4 ⟨mv, rfl, hmo, hmb⟩
  have hb4 : Below w.heap.size w w4 := (below_drewN HB2.out 1).trans (hmb.mono HB2.out.size)
  have h4 := HM.out.below hb4
  have hS4 : w4.cell? ⟨L, 0, none⟩ = some (.pointer (some ⟨D, 0, none⟩)) ∧ w4.cell? ⟨L, 5, none⟩ = some (.int .u64 m.check) := ⟨h4.mem.cell 0, h4.mem.cell 5⟩
  have hmr : RdB F w4 mv (markB q m.check) := hmo.rd (fun k hk hF => by have := HH2.out.disk.foot_lt k hF; have e9 : w2.drew.heap.size = w2.heap.size := rfl; omega)
  have hct := d_cut w4 D F dm h4.disk HOP.out o mv (markB q m.check) hmr
  obtain ⟨ma, mn, mc, rfl, -, -, -⟩ := OwnB.formN hmo (by simp [markB, leBytes])
  have HCT := Lib.hid hct
  have HB4 := Lib.hid hb4
  have HH4 := Lib.hid h4
  clear hmo hmb hb4 h4 hmr hct HMK
  refine hK.out _ _ (fun _ => hS4) (fun _ => ?_)
  clear hK K
  try simp only [Act.put, List.getElem_toArray, List.getElem_cons_succ, List.getElem_cons_zero, List.setIfInBounds_toArray, List.set_cons_zero, List.set_cons_succ]
  refine wpAnyU_one (i := 12) (by kernel_rfl) rfl (fun K hK => ?_)
  go_simp
  go_at_call 53
  (with_reducible refine HCT.out.mono ?_)
  rintro e w5 ⟨rfl, F', hd5, hc5⟩
  obtain ⟨kk, hkk⟩ : ∃ kk, (dm.cut o (markB q m.check)).2 = kk := ⟨_, rfl⟩
  rw [hkk]
  have hm5 : LMem w5 D L m (.slice ba bn bc) (.slice sa sn sc) := HH4.out.mem.keep (fun k h1 => hc5.block k (HH4.out.mem.lt k h1) (HM.out.disk.apart k (.inl h1)))
  have hS5 : w5.cell? ⟨L, 0, none⟩ = some (.pointer (some ⟨D, 0, none⟩)) ∧ w5.cell? ⟨L, 5, none⟩ = some (.int .u64 m.check) := ⟨hm5.cell 0, hm5.cell 5⟩
  have hch5 : Chg (uf F (lfoot L (.slice ba bn bc) (.slice sa sn sc))) (uf F' (lfoot L (.slice ba bn bc) (.slice sa sn sc))) w w5 := (Chg.of_below HB4.out _).trans (chg_uf hc5)
  have HK := Lib.hid hkk
  have HX5 := Lib.hid (And.intro hd5 (And.intro hm5 hch5))
  clear hkk hd5 hc5 hm5 hch5 HCT HB4 HH4
  refine hK.out _ _ (fun _ => hS5) (fun _ => ?_)
  clear hK K
  try simp only [Act.put, List.getElem_toArray, List.getElem_cons_succ, List.getElem_cons_zero, List.setIfInBounds_toArray, List.set_cons_zero, List.set_cons_succ]
  refine wpAnyU_take (i := 13) [] rfl (by as_aux_lemma => kernel_rfl) (by as_aux_lemma => kernel_rfl) (by as_aux_lemma => kernel_rfl) (by as_aux_lemma => kernel_rfl) (by as_aux_lemma => kernel_rfl) (by as_aux_lemma => kernel_rfl) (fun _ _ _ h => h) (Or.inl ⟨by rfl, (by intro W hSW; (try dsimp only at hSW); (try go_split_ands); go_simp <;> with_reducible rfl)⟩) hS5 ?_
  try simp only [Act.put, List.getElem_toArray, List.getElem_cons_succ, List.getElem_cons_zero, List.setIfInBounds_toArray, List.set_cons_zero, List.set_cons_succ]
  refine wpAnyU_done (by kernel_rfl) ?_ _
  clear hS0 hS4 hS5
  by_cases hk0 : kk = 0
  · subst hk0
    go_wp2_with fail
    have hfd := l_find w5 D L m _ _ q HX5.out.2.1
    refine hfd.mono ?_
    rintro e w6 ⟨f, rfl, hf, k6, hk6⟩
    obtain rfl := hf.at_ HQ.out.2.2.2.2.2.2 (by rw [HQ.out.2.1]; exact HQ.out.1)
    have hm6 : LMem w6 D L m (.slice ba bn bc) (.slice sa sn sc) := by rw [hk6]; exact HX5.out.2.1.keep (fun _ _ => rfl)
    have hsn : sn = m.recs.length := HN.out.2
    have hs24 : sn ≤ 16777216 := by rw [hsn]; have := lenL_len m.recs; have := HM.out.mem.wf.len; omega
    have hfs : f ≤ sn := by rw [hsn]; exact HQ.out.2.2.2.2.2.2
    obtain ⟨n, hn⟩ : ∃ n, sn - f = n := ⟨_, rfl⟩
    have hmk := make_ints n (by omega) w6
    have hin := ints_own n (by omega) w6
    obtain ⟨w7, hw7⟩ : ∃ w7, w6.alloc (.cells (madeCells #[Value.int .i64 0] n) 3) = w7 := ⟨_, rfl⟩
    rw [hw7] at hmk hin
    have hb7 : Below w6.heap.size w6 w7 := by rw [← hw7]; exact (Below.refl _ _).alloc (Nat.le_refl _) _
    have z6 : w6.heap.size = w5.heap.size := by rw [hk6]; rfl
    have hm7 : LMem w7 D L m (.slice ba bn bc) (.slice sa sn sc) := hm6.keep (fun k hk => hb7.block k (hm6.lt k hk))
    have c3 : w6.cell? ⟨L, 3, none⟩ = some (.slice sa sn sc) := hm6.cell 3
    have c37 : w7.cell? ⟨L, 3, none⟩ = some (.slice sa sn sc) := hm7.cell 3
    have hrs : RdV NoF w6 1 (.slice sa sn sc) sn (iv (offs 0 m.recs)) := by
      have h9 := RdV.of_own (F := NoF) hm6.s (fun _ _ => noF _)
      rwa [← hsn] at h9
    obtain ⟨a1, c1, hsl, hrd⟩ := ints_from hrs f hfs
    rw [hn] at hsl hrd
    have en : (sn : Int) - (f : Int) = (n : Int) := by omega
    have hni : (n : Int) ≤ 16777216 := by omega
    have f0 : (0 : Int) ≤ (f : Int) := by omega
    have HMK := Lib.hid hmk
    have HIN := Lib.hid hin
    have HB7 := Lib.hid hb7
    have HSL := Lib.hid hsl
    have HRD := Lib.hid hrd
    have HM6 := Lib.hid hm6
    have HS := Lib.hid (And.intro hsn (And.intro hs24 (And.intro hfs (And.intro hn (And.intro z6 hk6)))))
    clear hfd hf hm6 hsn hs24 hfs hn hmk hin hb7 z6 hm7 hrs hrd hk6
    have hmk2 := HMK.out
    go_wp2_with (rw [hw7])
    go_loopw [83, 8] (fun ji v wr => ∃ (j : Nat) (va : Option Addr) (vc : Nat), ji = .int .i64 j ∧ v = .slice va j vc ∧ j ≤ n ∧ wr.ownsRow w6.heap.size 3 1 v j (iv (offs 0 ((m.recs.drop f).take j))) ∧ Below w6.heap.size w6 wr) (fun ji _ _ => n - (intOf ji).toNat)
    case atStart => exact ⟨0, _, _, rfl, rfl, Nat.zero_le _, by simpa [iv, offs] using HIN.out, HB7.out⟩
    case round =>
      obtain ⟨j, va, vc, rfl, rfl, hjn, hown, hbj⟩ := hrel
      have j0 : (0 : Int) ≤ (j : Int) := by omega
      obtain ⟨hsn, hs24, hfs, hn, z6, hk6⟩ := HS.out
      clear hmk2 hsl c3 c37
      by_cases hlt : j < n
      · obtain ⟨g, off, c', e, -, -, -, -, hcell⟩ := (RdV.below HRD.out hbj).at_ (by omega)
        injection e with e1 e2 e3
        subst e1 e3
        clear e2
        obtain ⟨x, hx⟩ : ∃ x, m.off (f + j) = x := ⟨_, rfl⟩
        obtain ⟨y, hy⟩ : ∃ y, lenL ((m.recs.drop f).take j) = y := ⟨_, rfl⟩
        have hxy : x = o + y := by rw [← hx, ← hy, ← HQ.out.2.1]; exact off_add m f j
        have hx24 : x ≤ 16777216 := by rw [← hx]; exact Nat.le_trans (lenL_take_le _ _) HM.out.mem.wf.len
        have cm := hcell j (.int .i64 x) (by
          rw [List.getElem?_drop]
          unfold iv
          rw [List.getElem?_map, offs_get _ _ _ (by omega), ← hx]
          simp [LM.off])
        have ex : (x : Int) - (o : Int) = (y : Int) := by omega
        have xi : (x : Int) ≤ 16777216 := by omega
        have j1 : (j : Int) < (n : Int) := by omega
        obtain ⟨R, cp, w9, hr9, ho9, hg9, hor9, -⟩ := push_int (w := wr) (ty := 84) y hown hbj.size (by omega)
        have h9 : Hid (w9.ownsRow w6.heap.size 3 1 (.slice (some ⟨R, 0, none⟩) (j + 1) cp) (j + 1) (iv (offs 0 ((m.recs.drop f).take (j + 1)))) ∧ Below w6.heap.size w6 w9) := by
          refine ⟨?_, (hbj.alloc hbj.size _).grown hg9 (by have := hbj.size; simp; omega) (fun k hk => (hown.lt k hk).1)⟩
          rw [take_snoc _ j (by rw [List.length_drop]; omega), offs_snoc, Nat.zero_add, hy]
          exact ho9
        have HR9 := Lib.hid hr9
        have HJ := Lib.hid (And.intro hjn hlt)
        clear hx hy hxy hx24 hown hr9 ho9 hg9 hor9 hbj hjn hlt hcell hsn hs24 hfs hn z6 hk6
        go_wp2_with (at_builtin; refine wpList_append_eq rfl rfl HR9.out rfl rfl ?_)
        go_roundw
        case rel => exact ⟨j + 1, _, _, by go_num, rfl, by have := HJ.out.2; omega, h9.out.1, h9.out.2⟩
        case measure => have := HJ.out.2; simp [intOf]; omega
      · obtain rfl : j = n := by omega
        have hmr : LMem wr D L m (.slice ba bn bc) (.slice sa sn sc) := HM6.out.keep (fun k hk => hbj.block k (HM6.out.lt k hk))
        have hbn : bn = lenL m.recs := HN.out.1
        have hol : o ≤ bn := by rw [hbn]; have := HQ.out.2.2.2.1; have := HM.out.mem.wf.forced; omega
        have hbl : m.bytes.length = bn := by rw [hbn]; exact encL_length _ _
        have hb24 : bn ≤ 16777216 := by rw [hbn]; exact HM.out.mem.wf.len
        have hrb : RdB NoF wr.drew (.slice ba bn bc) m.bytes := OwnB.rd (F := NoF) hmr.b (fun _ _ => noF _)
        obtain ⟨a2, c2, hsl2, hrd2⟩ := slice_bytes_from hrb o (by rw [hbl]; exact hol)
        obtain ⟨bl, hbl2⟩ : ∃ bl, bn - o = bl := ⟨_, rfl⟩
        rw [hbl2] at hsl2 hrd2
        have hcl := l_clone wr.drew _ _ hrd2 (by rw [List.length_drop]; omega)
        have hT0 : wr.drew.cell? ⟨L, 2, none⟩ = some (.slice ba bn bc) ∧ wr.drew.cell? ⟨L, 4, none⟩ = some (.int .i64 m.forced) := ⟨hmr.cell 2, hmr.cell 4⟩
        have o0 : (0 : Int) ≤ (o : Int) := by omega
        have o1 : (o : Int) ≤ (bn : Int) := by omega
        have b1 : (bn : Int) ≤ (bc : Int) := by
          obtain ⟨a9, c9, e9, h9, -⟩ := hrb.form
          injection e9 with e1 e2 e3
          omega
        have g1 : (o : Int) ≤ (m.forced : Int) := by have := HQ.out.2.2.2.1; omega
        have g2 : (m.forced : Int) ≤ 16777216 := by have := HQ.out.2.2.2.2.1; omega
        have g3 : IntKind.i64.wrap ((m.forced : Int) - (o : Int)) = (m.forced : Int) - (o : Int) := by rw [IntKind.wrap_i64]; omega
        have HCL := Lib.hid hcl
        have HJ := Lib.hid (And.intro hown (And.intro hbj (And.intro hmr hb24)))
        clear hcl hrd2 hrb hbl2 hb24 hbl hol hbn hmr hown hbj hjn hlt hsn hs24 hfs hn z6 hk6
        go_upto_region 14 with (fail)
        refine wp_region_V (fun b W => b = false → (fun W => W.cell? ⟨L, 2, none⟩ = some (.slice ba bn bc) ∧ W.cell? ⟨L, 4, none⟩ = some (.int .i64 m.forced)) W) 21 (by kernel_rfl) ?_
        refine wpAnyV_take (i := 0) [19, 20, 21, 22, 23, 24, 25, 26, 27, 28, 29, 30] rfl (by kernel_rfl) (by kernel_rfl) (by kernel_rfl) (by kernel_rfl) (by kernel_rfl) (by kernel_rfl) (by decide) (fun _ _ _ h => h) (Or.inl ⟨by rfl, (by intro W hSW; have hSW := hSW rfl; (try dsimp only at hSW); (try go_split_ands); go_simp <;> with_reducible rfl)⟩) (fun _ => hT0) ?_
        try simp only [Act.put, List.getElem_toArray, List.getElem_cons_succ, List.getElem_cons_zero, List.setIfInBounds_toArray, List.set_cons_zero, List.set_cons_succ]
        refine wpAnyV_pure (i := 1) rfl (by kernel_rfl) (by kernel_rfl) (by kernel_rfl) (by decide) (fun _ _ _ h => h) (Or.inl ⟨by rfl, (by intro W _; go_simp <;> with_reducible rfl)⟩) (fun _ => hT0) ?_
        try simp only [Act.put, List.getElem_toArray, List.getElem_cons_succ, List.getElem_cons_zero, List.setIfInBounds_toArray, List.set_cons_zero, List.set_cons_succ]
        refine wpAnyV_pure (i := 2) rfl (by kernel_rfl) (by kernel_rfl) (by kernel_rfl) (by decide) (fun _ _ _ h => h) (Or.inl ⟨by rfl, (by intro W _; go_simp <;> with_reducible rfl)⟩) (fun _ => hT0) ?_
        try simp only [Act.put, List.getElem_toArray, List.getElem_cons_succ, List.getElem_cons_zero, List.setIfInBounds_toArray, List.set_cons_zero, List.set_cons_succ]
        refine wpAnyV_pure (i := 3) rfl (by kernel_rfl) (by kernel_rfl) (by kernel_rfl) (by decide) (fun _ _ _ h => h) (Or.inl ⟨by rfl, (by intro W _; go_simp <;> with_reducible rfl)⟩) (fun _ => hT0) ?_
        try simp only [Act.put, List.getElem_toArray, List.getElem_cons_succ, List.getElem_cons_zero, List.setIfInBounds_toArray, List.set_cons_zero, List.set_cons_succ]
        refine wpAnyV_take (i := 4) [19, 20, 21, 22, 23, 24, 25, 26, 27, 28, 29, 30] rfl (by kernel_rfl) (by kernel_rfl) (by kernel_rfl) (by kernel_rfl) (by kernel_rfl) (by kernel_rfl) (by decide) (fun _ _ _ h => h) (Or.inl ⟨by rfl, (by intro W hSW; have hSW := hSW rfl; (try dsimp only at hSW); (try go_split_ands); go_simp <;> with_reducible rfl)⟩) (fun _ => hT0) ?_
        try simp only [Act.put, List.getElem_toArray, List.getElem_cons_succ, List.getElem_cons_zero, List.setIfInBounds_toArray, List.set_cons_zero, List.set_cons_succ]
        refine wpAnyV_take (i := 5) [6, 7, 8, 10, 11, 19, 20, 21, 22, 23, 24, 25, 26, 27, 28, 29, 30] rfl (by kernel_rfl) (by kernel_rfl) (by kernel_rfl) (by kernel_rfl) (by kernel_rfl) (by kernel_rfl) (by decide) (fun _ _ _ h => h) (Or.inl ⟨by rfl, (by intro W hSW; have hSW := hSW rfl; (try dsimp only at hSW); (try go_split_ands); go_simp <;> with_reducible rfl)⟩) (fun _ => hT0) ?_
        try simp only [Act.put, List.getElem_toArray, List.getElem_cons_succ, List.getElem_cons_zero, List.setIfInBounds_toArray, List.set_cons_zero, List.set_cons_succ]
        refine wpAnyV_take (i := 6) [7, 8, 10, 11, 19, 20, 21, 22, 23, 24, 25, 26, 27, 28, 29, 30] rfl (by kernel_rfl) (by kernel_rfl) (by kernel_rfl) (by kernel_rfl) (by kernel_rfl) (by kernel_rfl) (by decide) (fun _ _ _ h => h) (Or.inl ⟨by rfl, (by intro W hSW; have hSW := hSW rfl; (try dsimp only at hSW); (try go_split_ands); go_simp <;> with_reducible rfl)⟩) (fun _ => hT0) ?_
        try simp only [Act.put, List.getElem_toArray, List.getElem_cons_succ, List.getElem_cons_zero, List.setIfInBounds_toArray, List.set_cons_zero, List.set_cons_succ]
        refine wpAnyV_take (i := 7) [8, 10, 11, 19, 20, 21, 22, 23, 24, 25, 26, 27, 28, 29, 30] rfl (by kernel_rfl) (by kernel_rfl) (by kernel_rfl) (by kernel_rfl) (by kernel_rfl) (by kernel_rfl) (by decide) (fun _ _ _ h => h) (Or.inl ⟨by rfl, (by intro W hSW; have hSW := hSW rfl; (try dsimp only at hSW); (try go_split_ands); go_simp <;> with_reducible rfl)⟩) (fun _ => hT0) ?_
        try simp only [Act.put, List.getElem_toArray, List.getElem_cons_succ, List.getElem_cons_zero, List.setIfInBounds_toArray, List.set_cons_zero, List.set_cons_succ]
        refine wpAnyV_take (i := 8) [10, 11, 19, 20, 21, 22, 23, 24, 25, 26, 27, 28, 29, 30] rfl (by kernel_rfl) (by kernel_rfl) (by kernel_rfl) (by kernel_rfl) (by kernel_rfl) (by kernel_rfl) (by decide) (fun _ _ _ h => h) (Or.inl ⟨by rfl, (by intro W hSW; have hSW := hSW rfl; (try dsimp only at hSW); (try go_split_ands); go_simp <;> with_reducible rfl)⟩) (fun _ => hT0) ?_
        try simp only [Act.put, List.getElem_toArray, List.getElem_cons_succ, List.getElem_cons_zero, List.setIfInBounds_toArray, List.set_cons_zero, List.set_cons_succ]
        refine wpAnyV_take (i := 9) [10, 11, 19, 20, 21, 22, 23, 24, 25, 26, 27, 28, 29, 30] rfl (by kernel_rfl) (by kernel_rfl) (by kernel_rfl) (by kernel_rfl) (by kernel_rfl) (by kernel_rfl) (by decide) (fun _ _ _ h => h) (Or.inl ⟨by rfl, (by intro W hSW; have hSW := hSW rfl; (try dsimp only at hSW); (try go_split_ands); go_simp <;> with_reducible rfl)⟩) (fun _ => hT0) ?_
        try simp only [Act.put, List.getElem_toArray, List.getElem_cons_succ, List.getElem_cons_zero, List.setIfInBounds_toArray, List.set_cons_zero, List.set_cons_succ]
        refine wpAnyV_take (i := 10) [11, 19, 20, 21, 22, 23, 24, 25, 26, 27, 28, 29, 30] rfl (by kernel_rfl) (by kernel_rfl) (by kernel_rfl) (by kernel_rfl) (by kernel_rfl) (by kernel_rfl) (by decide) (fun _ _ _ h => h) (Or.inl ⟨by rfl, (by intro W hSW; have hSW := hSW rfl; (try dsimp only at hSW); (try go_split_ands); go_simp <;> with_reducible rfl)⟩) (fun _ => hT0) ?_
        try simp only [Act.put, List.getElem_toArray, List.getElem_cons_succ, List.getElem_cons_zero, List.setIfInBounds_toArray, List.set_cons_zero, List.set_cons_succ]
        refine wpAnyV_pure (i := 12) rfl (by kernel_rfl) (by kernel_rfl) (by kernel_rfl) (by decide) (fun _ _ _ h => h) (Or.inl ⟨by rfl, (by intro W _; go_simp <;> with_reducible rfl)⟩) (fun _ => hT0) ?_
        try simp only [Act.put, List.getElem_toArray, List.getElem_cons_succ, List.getElem_cons_zero, List.setIfInBounds_toArray, List.set_cons_zero, List.set_cons_succ]
        refine wpAnyV_take (i := 13) [14, 15, 16, 18, 19, 20, 21, 22, 23, 24, 25, 26, 27, 28, 29, 30] rfl (by kernel_rfl) (by kernel_rfl) (by kernel_rfl) (by kernel_rfl) (by kernel_rfl) (by kernel_rfl) (by decide) (fun _ _ _ h => h) (Or.inl ⟨by rfl, (by intro W hSW; have hSW := hSW rfl; (try dsimp only at hSW); (try go_split_ands); go_simp <;> with_reducible rfl)⟩) (fun _ => hT0) ?_
        try simp only [Act.put, List.getElem_toArray, List.getElem_cons_succ, List.getElem_cons_zero, List.setIfInBounds_toArray, List.set_cons_zero, List.set_cons_succ]
        refine wpAnyV_take (i := 14) [15, 16, 18, 19, 20, 21, 22, 23, 24, 25, 26, 27, 28, 29, 30] rfl (by kernel_rfl) (by kernel_rfl) (by kernel_rfl) (by kernel_rfl) (by kernel_rfl) (by kernel_rfl) (by decide) (fun _ _ _ h => h) (Or.inl ⟨by rfl, (by intro W hSW; have hSW := hSW rfl; (try dsimp only at hSW); (try go_split_ands); go_simp <;> with_reducible rfl)⟩) (fun _ => hT0) ?_
        try simp only [Act.put, List.getElem_toArray, List.getElem_cons_succ, List.getElem_cons_zero, List.setIfInBounds_toArray, List.set_cons_zero, List.set_cons_succ]
        refine wpAnyV_take (i := 15) [16, 18, 19, 20, 21, 22, 23, 24, 25, 26, 27, 28, 29, 30] rfl (by kernel_rfl) (by kernel_rfl) (by kernel_rfl) (by kernel_rfl) (by kernel_rfl) (by kernel_rfl) (by decide) (fun _ _ _ h => h) (Or.inl ⟨by rfl, (by intro W hSW; have hSW := hSW rfl; (try dsimp only at hSW); (try go_split_ands); go_simp <;> with_reducible rfl)⟩) (fun _ => hT0) ?_
        try simp only [Act.put, List.getElem_toArray, List.getElem_cons_succ, List.getElem_cons_zero, List.setIfInBounds_toArray, List.set_cons_zero, List.set_cons_succ]
        refine wpAnyV_take (i := 16) [18, 19, 20, 21, 22, 23, 24, 25, 26, 27, 28, 29, 30] rfl (by kernel_rfl) (by kernel_rfl) (by kernel_rfl) (by kernel_rfl) (by kernel_rfl) (by kernel_rfl) (by decide) (fun _ _ _ h => h) (Or.inl ⟨by rfl, (by intro W hSW; have hSW := hSW rfl; (try dsimp only at hSW); (try go_split_ands); go_simp <;> with_reducible rfl)⟩) (fun _ => hT0) ?_
        try simp only [Act.put, List.getElem_toArray, List.getElem_cons_succ, List.getElem_cons_zero, List.setIfInBounds_toArray, List.set_cons_zero, List.set_cons_succ]
        refine wpAnyV_pure (i := 17) rfl (by kernel_rfl) (by kernel_rfl) (by kernel_rfl) (by decide) (fun _ _ _ h => h) (Or.inl ⟨by rfl, (by intro W _; go_simp <;> with_reducible rfl)⟩) (fun _ => hT0) ?_
        try simp only [Act.put, List.getElem_toArray, List.getElem_cons_succ, List.getElem_cons_zero, List.setIfInBounds_toArray, List.set_cons_zero, List.set_cons_succ]
        refine wpAnyV_pure (i := 18) rfl (by kernel_rfl) (by kernel_rfl) (by kernel_rfl) (by decide) (fun _ _ _ h => h) (Or.inl ⟨by rfl, (by intro W _; go_simp <;> with_reducible rfl)⟩) (fun _ => hT0) ?_
        try simp only [Act.put, List.getElem_toArray, List.getElem_cons_succ, List.getElem_cons_zero, List.setIfInBounds_toArray, List.set_cons_zero, List.set_cons_succ]
        refine wpAnyV_one (i := 11) (by kernel_rfl) rfl (fun K hK => ?_)
        go_simp
        go_at_call 56
        (with_reducible refine HCL.out.mono ?_)
        rintro e w8 ⟨cv, rfl, hco, hcb⟩
        obtain ⟨ca, cn, cc, rfl, -⟩ : ∃ a k c, cv = .slice a k c ∧ True := by
          obtain ⟨a, k, c, e, -⟩ := (OwnB.rd (F := NoF) hco (fun _ _ => noF _)).formN
          exact ⟨a, k, c, e, trivial⟩
        obtain ⟨hown, hbj, hmr, hb24⟩ := HJ.out
        have hb8 : Below w6.heap.size w6 w8 := (below_drewN hbj 1).trans (hcb.mono hbj.size)
        have hm8 : LMem w8 D L m (.slice ba bn bc) (.slice sa sn sc) := HM6.out.keep (fun k hk => hb8.block k (HM6.out.lt k hk))
        have hs8 : w8.ownsRow w6.heap.size 3 1 (.slice va j vc) j (iv (offs 0 ((m.recs.drop f).take j))) := ownsRow_keep hown (fun k e => hcb.block k (hown.lt k e).2)
        have hT8 : w8.cell? ⟨L, 2, none⟩ = some (.slice ba bn bc) ∧ w8.cell? ⟨L, 4, none⟩ = some (.int .i64 m.forced) := ⟨hm8.cell 2, hm8.cell 4⟩
        have hL6 : L < w6.heap.size := lt_of_block HM6.out.blk
        have k8 : w8.heap[L]? = some (.cells #[.pointer (some ⟨D, 0, none⟩), .int .u64 m.base, .slice ba bn bc, .slice sa sn sc, .int .i64 m.forced, .int .u64 m.check] 86 (0, 0)) := hm8.blk
        obtain ⟨w9, hw9⟩ : ∃ w9, w8.setCell ⟨L, 1, none⟩ (.int .u64 q) = w9 := ⟨_, rfl⟩
        have k9 : w9.heap[L]? = some (.cells #[.pointer (some ⟨D, 0, none⟩), .int .u64 q, .slice ba bn bc, .slice sa sn sc, .int .i64 m.forced, .int .u64 m.check] 86 (0, 0)) := by rw [← hw9]; exact block_setCell k8 _
        obtain ⟨w10, hw10⟩ : ∃ w10, w9.setCell ⟨L, 2, none⟩ (.slice ca cn cc) = w10 := ⟨_, rfl⟩
        have k10 : w10.heap[L]? = some (.cells #[.pointer (some ⟨D, 0, none⟩), .int .u64 q, .slice ca cn cc, .slice sa sn sc, .int .i64 m.forced, .int .u64 m.check] 86 (0, 0)) := by rw [← hw10]; exact block_setCell k9 _
        obtain ⟨w11, hw11⟩ : ∃ w11, w10.setCell ⟨L, 3, none⟩ (.slice va j vc) = w11 := ⟨_, rfl⟩
        have k11 : w11.heap[L]? = some (.cells #[.pointer (some ⟨D, 0, none⟩), .int .u64 q, .slice ca cn cc, .slice va j vc, .int .i64 m.forced, .int .u64 m.check] 86 (0, 0)) := by rw [← hw11]; exact block_setCell k10 _
        obtain ⟨w12, hw12⟩ : ∃ w12, w11.setCell ⟨L, 4, none⟩ (.int .i64 ((m.forced : Int) - (o : Int))) = w12 := ⟨_, rfl⟩
        have k12 : w12.heap[L]? = some (.cells #[.pointer (some ⟨D, 0, none⟩), .int .u64 q, .slice ca cn cc, .slice va j vc, .int .i64 ((m.forced : Int) - (o : Int)), .int .u64 m.check] 86 (0, 0)) := by rw [← hw12]; exact block_setCell k11 _
        have d8 : w8.cell? ⟨L, 1, none⟩ = some (.int .u64 m.base) := cell_of_row _ _ 1 _ _ _ k8
        have d9 : w9.cell? ⟨L, 2, none⟩ = some (.slice ba bn bc) := cell_of_row _ _ 2 _ _ _ k9
        have d10 : w10.cell? ⟨L, 3, none⟩ = some (.slice sa sn sc) := cell_of_row _ _ 3 _ _ _ k10
        have d11 : w11.cell? ⟨L, 4, none⟩ = some (.int .i64 m.forced) := cell_of_row _ _ 4 _ _ _ k11
        have f8 : w8.frozen? ⟨L, 1, none⟩ = false := by simp [World.frozen?, k8]
        have f9 : w9.frozen? ⟨L, 2, none⟩ = false := by simp [World.frozen?, k9]
        have f10 : w10.frozen? ⟨L, 3, none⟩ = false := by simp [World.frozen?, k10]
        have f11 : w11.frozen? ⟨L, 4, none⟩ = false := by simp [World.frozen?, k11]
        have s12 : w12.heap.size = w8.heap.size := by rw [← hw12, ← hw11, ← hw10, ← hw9]; simp [World.setCell]
        have same12 : ∀ k, k ≠ L → w12.heap[k]? = w8.heap[k]? := fun k hk => by rw [← hw12, block_setCell_ne _ hk, ← hw11, block_setCell_ne _ hk, ← hw10, block_setCell_ne _ hk, ← hw9, block_setCell_ne _ hk]
        have hfin : Hid (∃ bv' sv', LogAt w12 D L Z F' (dm.cut o (markB q m.check)).1 (m.cut f) bv' sv' ∧ Chg (uf F (lfoot L (.slice ba bn bc) (.slice sa sn sc))) (uf F' (lfoot L bv' sv')) w w12) := by
          obtain ⟨hsn, hs24, hfs, hn, z6, hk6⟩ := HS.out
          obtain ⟨hqe, hof, -, hff, -, hbb, hfl⟩ := HQ.out
          have hcl : ∀ k, (Value.slice ca cn cc).ownBlock = some k → w6.heap.size ≤ k ∧ k < w8.heap.size := fun k e => by have h1 := hco.lt k e; have h2 : w6.heap.size ≤ wr.heap.size := hbj.size; have h3 : wr.drew.heap.size = wr.heap.size := rfl; omega
          have hvl : ∀ k, (Value.slice va j vc).ownBlock = some k → w6.heap.size ≤ k ∧ k < w8.heap.size := fun k e => hs8.lt k e
          have e1 : lcells D (m.cut f) (.slice ca cn cc) (.slice va j vc) = #[.pointer (some ⟨D, 0, none⟩), .int .u64 q, .slice ca cn cc, .slice va j vc, .int .i64 ((m.forced : Int) - (o : Int)), .int .u64 m.check] := by
            unfold lcells LM.cut
            dsimp only
            rw [hof, hqe, Int.ofNat_sub hff]
          have e2 : (m.recs.drop f).length = j := by rw [List.length_drop]; omega
          have ch12 : Chg (lfoot L (.slice ba bn bc) (.slice sa sn sc)) (lfoot L (.slice ca cn cc) (.slice va j vc)) w5 w12 := by
            have c8 : Chg (lfoot L (.slice ba bn bc) (.slice sa sn sc)) (lfoot L (.slice ba bn bc) (.slice sa sn sc)) w5 w8 := by
              have h1 : Below w6.heap.size w5 w8 := by rw [hk6] at hb8 ⊢; exact (below_drewN (Below.refl _ _) k6).trans hb8
              rw [z6] at h1
              exact Chg.of_below h1 _
            have c12 : Chg (lfoot L (.slice ba bn bc) (.slice sa sn sc)) (lfoot L (.slice ba bn bc) (.slice sa sn sc)) w5 w12 := by
              rw [← hw12, ← hw11, ← hw10, ← hw9]
              exact (((c8.trans (chg_setCell _ _ _ (.inl rfl))).trans (chg_setCell _ _ _ (.inl rfl))).trans (chg_setCell _ _ _ (.inl rfl))).trans (chg_setCell _ _ _ (.inl rfl))
            exact c12.weak (fun _ h => h) (fun k hk => by
              rcases hk with h1 | h1 | h1
              · exact .inr (.inl (.inl h1))
              · have := hcl k h1; exact .inr (.inr ⟨by omega, by omega⟩)
              · have := hvl k h1; exact .inr (.inr ⟨by omega, by omega⟩))
          refine ⟨.slice ca cn cc, .slice va j vc, ⟨HX5.out.1.chgE (chg_uf ch12), ?_, ?_, ?_, LM.cut_wf HM.out.mem.wf (by rw [hof]; exact hff) (by rw [hof]; exact hbb)⟩, HX5.out.2.2.trans (chg_ufE ch12)⟩
          · rw [e1]; exact k12
          · rw [LM.cut_bytes, hof]
            exact ownB_same (ownsRow_base hco (fun k _ => Nat.zero_le k)) (fun k e => same12 k (fun h => by have := hcl k e; omega))
          · rw [show (m.cut f).recs = m.recs.drop f from rfl, e2]
            have h1 := hs8
            rw [List.take_of_length_le (by omega)] at h1
            exact ownsRow_keep (ownsRow_base h1 (fun k hk => Nat.zero_le k)) (fun k e => same12 k (fun h => by have := hvl k e; omega))
        clear hco hcb hown hbj hmr hb24 hb8 hm8 hs8 hL6 k8 k9 k10 k11 k12 s12 same12 HCL
        refine hK.out _ _ (fun _ => hT8) (fun _ => ?_)
        clear hK K
        try simp only [Act.put, List.getElem_toArray, List.getElem_cons_succ, List.getElem_cons_zero, List.setIfInBounds_toArray, List.set_cons_zero, List.set_cons_succ]
        refine wpAnyV_take (i := 19) [20, 21, 22, 23, 24, 25, 26, 27, 28, 29, 30] rfl (by kernel_rfl) (by kernel_rfl) (by kernel_rfl) (by kernel_rfl) (by kernel_rfl) (by kernel_rfl) (by decide) (fun _ _ _ h => h) (Or.inl ⟨by rfl, (by intro W hSW; have hSW := hSW rfl; (try dsimp only at hSW); (try go_split_ands); go_simp <;> with_reducible rfl)⟩) (fun _ => hT8) ?_
        try simp only [Act.put, List.getElem_toArray, List.getElem_cons_succ, List.getElem_cons_zero, List.setIfInBounds_toArray, List.set_cons_zero, List.set_cons_succ]
        refine wpAnyV_take (i := 20) [21, 22, 23, 24, 25, 26, 27, 28, 29, 30] rfl (by kernel_rfl) (by kernel_rfl) (by kernel_rfl) (by kernel_rfl) (by kernel_rfl) (by kernel_rfl) (by decide) (fun _ _ _ h => h) (Or.inl ⟨by rfl, (by intro W hSW; have hSW := hSW rfl; (try dsimp only at hSW); (try go_split_ands); go_simp <;> with_reducible rfl)⟩) (fun _ => hT8) ?_
        try simp only [Act.put, List.getElem_toArray, List.getElem_cons_succ, List.getElem_cons_zero, List.setIfInBounds_toArray, List.set_cons_zero, List.set_cons_succ]
        refine wpAnyV_one (i := 21) (by kernel_rfl) rfl (fun K hK => ?_)
        go_simp
        refine hK.out _ _ (fun h => absurd h (by decide)) (fun _ => ?_)
        clear hK K
        try simp only [Act.put, List.getElem_toArray, List.getElem_cons_succ, List.getElem_cons_zero, List.setIfInBounds_toArray, List.set_cons_zero, List.set_cons_succ]
        refine wpAnyV_pure (i := 22) rfl (by kernel_rfl) (by kernel_rfl) (by kernel_rfl) (by decide) (fun _ _ _ h => h) (Or.inl ⟨by rfl, (by intro W _; go_simp <;> with_reducible rfl)⟩) (fun h => absurd h (by decide)) ?_
        try simp only [Act.put, List.getElem_toArray, List.getElem_cons_succ, List.getElem_cons_zero, List.setIfInBounds_toArray, List.set_cons_zero, List.set_cons_succ]
        refine wpAnyV_pure (i := 23) rfl (by kernel_rfl) (by kernel_rfl) (by kernel_rfl) (by decide) (fun _ _ _ h => h) (Or.inl ⟨by rfl, (by intro W _; go_simp <;> with_reducible rfl)⟩) (fun h => absurd h (by decide)) ?_
        try simp only [Act.put, List.getElem_toArray, List.getElem_cons_succ, List.getElem_cons_zero, List.setIfInBounds_toArray, List.set_cons_zero, List.set_cons_succ]
        refine wpAnyV_one (i := 24) (by kernel_rfl) rfl (fun K hK => ?_)
        go_simp
        refine hK.out _ _ (fun h => absurd h (by decide)) (fun _ => ?_)
        clear hK K
        try simp only [Act.put, List.getElem_toArray, List.getElem_cons_succ, List.getElem_cons_zero, List.setIfInBounds_toArray, List.set_cons_zero, List.set_cons_succ]
        refine wpAnyV_pure (i := 25) rfl (by kernel_rfl) (by kernel_rfl) (by kernel_rfl) (by decide) (fun _ _ _ h => h) (Or.inl ⟨by rfl, (by intro W _; go_simp <;> with_reducible rfl)⟩) (fun h => absurd h (by decide)) ?_
        try simp only [Act.put, List.getElem_toArray, List.getElem_cons_succ, List.getElem_cons_zero, List.setIfInBounds_toArray, List.set_cons_zero, List.set_cons_succ]
        refine wpAnyV_pure (i := 26) rfl (by kernel_rfl) (by kernel_rfl) (by kernel_rfl) (by decide) (fun _ _ _ h => h) (Or.inl ⟨by rfl, (by intro W _; go_simp <;> with_reducible rfl)⟩) (fun h => absurd h (by decide)) ?_
        try simp only [Act.put, List.getElem_toArray, List.getElem_cons_succ, List.getElem_cons_zero, List.setIfInBounds_toArray, List.set_cons_zero, List.set_cons_succ]
        refine wpAnyV_one (i := 27) (by kernel_rfl) rfl (fun K hK => ?_)
        go_simp
        refine hK.out _ _ (fun h => absurd h (by decide)) (fun _ => ?_)
        clear hK K
        try simp only [Act.put, List.getElem_toArray, List.getElem_cons_succ, List.getElem_cons_zero, List.setIfInBounds_toArray, List.set_cons_zero, List.set_cons_succ]
        refine wpAnyV_pure (i := 28) rfl (by kernel_rfl) (by kernel_rfl) (by kernel_rfl) (by decide) (fun _ _ _ h => h) (Or.inl ⟨by rfl, (by intro W _; go_simp <;> with_reducible rfl)⟩) (fun h => absurd h (by decide)) ?_
        try simp only [Act.put, List.getElem_toArray, List.getElem_cons_succ, List.getElem_cons_zero, List.setIfInBounds_toArray, List.set_cons_zero, List.set_cons_succ]
        refine wpAnyV_pure (i := 29) rfl (by kernel_rfl) (by kernel_rfl) (by kernel_rfl) (by decide) (fun _ _ _ h => h) (Or.inl ⟨by rfl, (by intro W _; go_simp <;> with_reducible rfl)⟩) (fun h => absurd h (by decide)) ?_
        try simp only [Act.put, List.getElem_toArray, List.getElem_cons_succ, List.getElem_cons_zero, List.setIfInBounds_toArray, List.set_cons_zero, List.set_cons_succ]
        refine wpAnyV_one (i := 30) (by kernel_rfl) rfl (fun K hK => ?_)
        go_simp
        refine hK.out _ _ (fun h => absurd h (by decide)) (fun _ => ?_)
        clear hK K
        try simp only [Act.put, List.getElem_toArray, List.getElem_cons_succ, List.getElem_cons_zero, List.setIfInBounds_toArray, List.set_cons_zero, List.set_cons_succ]
        refine wpAnyV_done (by kernel_rfl) ?_ _
        go_wp2
        go_ret
        obtain ⟨bv', sv', h1, h2⟩ := hfin.out
        exact .inr ⟨HK.out, rfl, F', bv', sv', h1, h2⟩
  · have hz : (kk != 0) = true := by simpa using hk0
    go_wp2
    go_ret
    exact .inl ⟨by rw [HK.out]; exact hk0, by rw [HK.out]; rfl, F', ⟨HX5.out.1, HX5.out.2.1⟩, HX5.out.2.2⟩
end
end Mun
