/- The reference of chapter 7: Check. -/
import Derived.Test.YtoblajbffnkkiaaR7J
set_option maxRecDepth 100000
set_option linter.unusedVariables false
set_option linter.unusedSimpArgs false
namespace Mun
open Go Go.RowKit
open Go.Proofs

set_option maxHeartbeats 2000000 in
theorem r7check {F : Foot} (w : World) (bv : Value) (m : LM) (room lsn : Nat) (h : RLv F w m bv) (hl : lsn < 18446744073709551616) :
    Calls Try.prog 29 #[.agg (rlC m bv room), .int .u64 lsn] w (RChkOut w m bv room lsn) := by
  obtain ⟨ba, bn, bc, rfl, HN⟩ := h.form
  have hrd := fun (W : World) (hW : Below w.heap.size w W) => r7read W (.slice ba bn bc) m room lsn (h.below hW) hl
  obtain ⟨wb, hwb⟩ : ∃ wb, (w.alloc (.cells (rlC m (.slice ba bn bc) room) 59)).alloc (.cells #[.int .u64 0, .int .u64 0, .slice none 0 0, .int .i64 0, .int .i64 0] 59) = wb := ⟨_, rfl⟩
  have hbb : Below w.heap.size w wb := by rw [← hwb]; exact below_more (below_more (Below.refl _ _) _) _
  have hR : CuL w wb m (.slice ba bn bc) room := by
    refine ⟨hbb, ?_, ?_⟩
    · rw [← hwb, heap_alloc_old _ _ (by rw [World.size_alloc]; omega)]; exact heap_alloc_new w _
    · rw [← hwb, show w.heap.size + 1 = (w.alloc (.cells (rlC m (.slice ba bn bc) room) 59)).heap.size by rw [World.size_alloc]]; exact heap_alloc_new _ _
  obtain ⟨fo, hfo⟩ : ∃ fo, m.base + m.forced = fo := ⟨_, rfl⟩
  have hw1 := h.wf.base
  have hw2 := h.wf.len
  have hw3 := h.wf.forced
  have hw4 := h.wf.check
  have v1 : IntKind.u64.wrap (m.forced : Int) = (m.forced : Int) := wrap_u64_nat _ (by omega)
  have v2 : IntKind.u64.wrap ((m.base : Int) + (m.forced : Int)) = (fo : Int) := by
    rw [← hfo]
    have := wrap_u64_nat (m.base + m.forced) (by omega)
    push_cast at this ⊢
    exact this
  have HRD := Lib.hid hrd
  have HR := Lib.hid hR
  have HW := Lib.hid hwb
  have HV := Lib.hid (And.intro h (And.intro hl (And.intro hfo (And.intro hw1 (And.intro hw2 hw3)))))
  clear h hrd hwb hbb hR hl hfo hw1 hw2 hw3 hw4
  go_enter Try.func29, Try.ntmps29
  go_wp2_with (first | (rw [HW.out]; refine wpList_load_row rfl _ _ rfl w.heap.size rfl _ _ (0, 0) _ HR.out.k2 Try.underlying59 rfl infoRL ?_) | fail)
  refine (HRD.out _ HR.out.bl).mono ?_
  rintro e w1 hrd1
  obtain ⟨a0, a1, a2, a3, da, dn, dc, ca, cn, cc, n, k, rfl, hb1, hk⟩ := hrd1.u
  have hR1 := HR.out.below hb1
  obtain ⟨w2, hw2⟩ : ∃ w2, w1.alloc (.cells #[.int .i64 a0, .int .u64 a1, .int .u64 a2, .int .u64 a3, .slice da dn dc, .slice ca cn cc] 26) = w2 := ⟨_, rfl⟩
  have hb2 : Below w1.heap.size w1 w2 := by rw [← hw2]; exact (Below.refl _ _).alloc (Nat.le_refl _) _
  have hR2 := hR1.below hb2
  have HW2 := Lib.hid hw2
  have HR2 := Lib.hid hR2
  have HK := Lib.hid hk
  obtain ⟨z0, z1, z2, z3, -⟩ := box5 hR2.k2
  obtain ⟨w4, hw4⟩ : ∃ w4, w2.setRow (w.heap.size + 1) (rlC m (.slice ba bn bc) room) = w4 := ⟨_, rfl⟩
  have k44 : w4.heap[w.heap.size + 1]? = some (.cells (rlC m (.slice ba bn bc) room) 59 (0, 0)) := by rw [← hw4]; exact setRow_blk hR2.k4
  have hb4 : Below w.heap.size w w4 := by
    have h1 := hR2.bl
    exact ⟨by rw [← hw4]; exact h1.os, by rw [← hw4]; exact h1.tape, by rw [← hw4]; exact h1.output, by rw [← hw4]; simpa [World.setRow] using h1.size, fun k hk => by rw [← hw4, setRow_other (by omega)]; exact h1.block k hk⟩
  have K44 := Lib.hid k44
  have HB4 := Lib.hid hb4
  have h1c := rlC_one m ba bn bc room
  have H1C := Lib.hid h1c
  clear k44 hb4 h1c hrd1 hb1 hR1 hb2 hR2 hw2 HRD HR HW hk
  go_upto_region 2 with fail
  rw [HW2.out]
  clear HW2
  by_cases hk0 : k = 0
  · have hi : ∃ i, i < m.recs.length ∧ m.base + m.off i = lsn := by
      rcases HK.out with ⟨h1, -⟩ | ⟨-, h1⟩ | ⟨h1, -⟩
      · exact absurd (hk0.symm.trans h1) (by decide)
      · exact h1
      · exact absurd (hk0.symm.trans h1) (by decide)
    subst hk0
    have HI := Lib.hid hi
    obtain ⟨hv1, hv2, hv3, hv4, hv5, hv6⟩ := HV.out
    clear hi HK
    by_cases hf : fo ≤ lsn
    · have t1 : (fo : Int) ≤ (lsn : Int) := by omega
      have t1n : decide (fo ≤ lsn) = true := decide_eq_true hf
      have hno : ¬ CanChk m lsn := fun h => by have := h.2; omega
      have HNO := Lib.hid hno
      clear hf hv1 hv2 hv3 hv4 hv5 hv6 hno
      go_upto_region 3 with fail
      go_wp2_with (first | (refine wpList_load_row rfl _ _ rfl w.heap.size rfl _ _ (0, 0) _ HR2.out.k2 Try.underlying59 rfl infoRL ?_) | (refine wpList_store_row rfl _ _ _ rfl (w.heap.size + 1) (rlC m (.slice ba bn bc) room) rfl rfl _ _ HR2.out.k4 infoRL rfl H1C.out ?_; rw [hw4]) | fail)
      obtain ⟨q0, q1, q2, q3, q4⟩ := box5 K44.out
      refine bodyPost_ret (by simp [results, Try.results29, go_sem, q0, q1, q2, q3, q4]; try rfl) rfl ?_
      exact .inl ⟨HNO.out, rfl, HB4.out⟩
    · have t1 : ¬ ((fo : Int) ≤ (lsn : Int)) := by omega
      have t1n : decide (fo ≤ lsn) = false := decide_eq_false hf
      have hcan : CanChk m lsn := ⟨HI.out, by omega⟩
      obtain ⟨w5, hw5⟩ : ∃ w5, w2.setCell ⟨w.heap.size, 1, none⟩ (.int .u64 lsn) = w5 := ⟨_, rfl⟩
      have k5 : w5.heap[w.heap.size]? = some (.cells (rlC (m.chk lsn) (.slice ba bn bc) room) 59 (0, 0)) := by rw [← hw5]; exact block_setCell HR2.out.k2 _
      have ho5 : ∀ q, q ≠ w.heap.size → w5.heap[q]? = w2.heap[q]? := fun q hq => by rw [← hw5, block_setCell_ne _ hq]
      have k54 := (ho5 (w.heap.size + 1) (by omega)).trans HR2.out.k4
      obtain ⟨w8, hw8⟩ : ∃ w8, w5.setRow (w.heap.size + 1) (rlC (m.chk lsn) (.slice ba bn bc) room) = w8 := ⟨_, rfl⟩
      have k84 : w8.heap[w.heap.size + 1]? = some (.cells (rlC (m.chk lsn) (.slice ba bn bc) room) 59 (0, 0)) := by rw [← hw8]; exact setRow_blk k54
      have hb8 : Below w.heap.size w w8 := by
        have h1 := HR2.out.bl
        refine ⟨by rw [← hw8, ← hw5]; exact h1.os, by rw [← hw8, ← hw5]; exact h1.tape, by rw [← hw8, ← hw5]; exact h1.output, by rw [← hw8, ← hw5]; simpa [World.setRow, World.setCell] using h1.size, fun q hq => ?_⟩
        rw [← hw8, setRow_other (by omega)]
        exact (ho5 q (by omega)).trans (h1.block q hq)
      have f2 : w2.frozen? ⟨w.heap.size, 1, none⟩ = false := by simp [World.frozen?, HR2.out.k2]
      have h1c := rlC_one (m.chk lsn) ba bn bc room
      have H1D := Lib.hid h1c
      have K5 := Lib.hid k5
      have K54 := Lib.hid k54
      have K84 := Lib.hid k84
      have HX8 := Lib.hid (And.intro hcan hb8)
      clear hcan k5 ho5 k54 k84 hb8 h1c hw4 hf hv1 hv2 hv3 hv4 hv5 hv6 HB4 K44 H1C
      go_upto_region 4 with fail
      go_wp2_with (first | (refine wpList_load_row rfl _ _ rfl w.heap.size rfl _ _ (0, 0) _ K5.out Try.underlying59 rfl infoRL ?_) | (refine wpList_store_row rfl _ _ _ rfl (w.heap.size + 1) (rlC (m.chk lsn) (.slice ba bn bc) room) rfl rfl _ _ K54.out infoRL rfl H1D.out ?_; rw [hw8]) | fail)
      obtain ⟨q0, q1, q2, q3, q4⟩ := box5 K84.out
      refine bodyPost_ret (by simp [results, Try.results29, go_sem, q0, q1, q2, q3, q4]; try rfl) rfl ?_
      exact .inr ⟨HX8.out.1, rfl, HX8.out.2⟩
  · have p1 : (k != 0) = true := by simpa using hk0
    have hno : ¬ CanChk m lsn := fun ⟨⟨i, hi, hie⟩, _⟩ => by
      rcases HK.out with ⟨h1, h2⟩ | ⟨h1, -⟩ | ⟨-, -, h2⟩
      · have := m.off_lt hi
        unfold LM.fin at h2
        omega
      · exact hk0 h1
      · exact h2 i hi hie
    have HNO := Lib.hid hno
    clear hno hk0 HK
    go_upto_region 3 with fail
    go_wp2_with (first | (refine wpList_load_row rfl _ _ rfl w.heap.size rfl _ _ (0, 0) _ HR2.out.k2 Try.underlying59 rfl infoRL ?_) | (refine wpList_store_row rfl _ _ _ rfl (w.heap.size + 1) (rlC m (.slice ba bn bc) room) rfl rfl _ _ HR2.out.k4 infoRL rfl H1C.out ?_; rw [hw4]) | fail)
    obtain ⟨q0, q1, q2, q3, q4⟩ := box5 K44.out
    refine bodyPost_ret (by simp [results, Try.results29, go_sem, q0, q1, q2, q3, q4]; try rfl) rfl ?_
    exact .inl ⟨HNO.out, rfl, HB4.out⟩
end Mun
