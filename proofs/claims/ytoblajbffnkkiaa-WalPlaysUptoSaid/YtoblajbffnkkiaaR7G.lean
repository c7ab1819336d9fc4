/- The reference of chapter 7: Read. -/
import Derived.Test.YtoblajbffnkkiaaR7F
set_option maxRecDepth 100000
set_option linter.unusedVariables false
set_option linter.unusedSimpArgs false
namespace Mun
open Go Go.RowKit
open Go.Proofs

/-- what Read tells of a log, as it stands -/
def RdOut (w : World) (m : LM) (lsn : Nat) (e : Ending) (w' : World) : Prop :=
  (lsn = m.fin ∧ ReadNo w 17 e w') ∨ (∃ (i : Nat) (h : i < m.recs.length), m.base + m.off i = lsn ∧ ReadYes w m.recs[i] (m.base + m.off (i + 1)) e w') ∨ (lsn ≠ m.fin ∧ NoRec m lsn ∧ ReadNo w 1 e w')

/-- within Read's loop -/
structure RdL (w wr : World) (m : LM) (bv : Value) (room lsn j : Nat) : Prop where
  bl : Below w.heap.size w wr
  k2 : wr.heap[w.heap.size]? = some (.cells (rlC m bv room) 59 (0, 0))
  k4 : wr.heap[w.heap.size + 1]? = some (.cells noCs 26 (0, 0))
  le : j ≤ m.recs.length
  no : ∀ i, i < j → m.base + m.off i ≠ lsn
theorem RdL.below {w wr w' : World} {m : LM} {bv : Value} {room lsn j : Nat} (h : RdL w wr m bv room lsn j) (hb : Below wr.heap.size wr w') : RdL w w' m bv room lsn j :=
  ⟨h.bl.trans (hb.mono h.bl.size), (hb.block _ (lt_of_block h.k2)).trans h.k2, (hb.block _ (lt_of_block h.k4)).trans h.k4, h.le, h.no⟩

theorem LM.off_len (m : LM) : m.off m.recs.length = lenL m.recs := by unfold LM.off; rw [List.take_length]
theorem LM.off_lt (m : LM) {j : Nat} (h : j < m.recs.length) : m.off j < lenL m.recs := by
  have := lenL_take_lt m.recs h h
  rwa [List.take_length] at this
theorem LM.off_succ (m : LM) {j : Nat} (h : j < m.recs.length) : m.off (j + 1) = m.off j + recLen m.recs[j] := lenL_take_succ _ _ h

set_option maxHeartbeats 8000000 in
theorem r7read {F : Foot} (w : World) (bv : Value) (m : LM) (room lsn : Nat) (h : RLv F w m bv) (hl : lsn < 18446744073709551616) :
    Calls Try.prog 26 #[.agg (rlC m bv room), .int .u64 lsn] w (RdOut w m lsn) := by
  obtain ⟨ba, bn, bc, rfl, HN⟩ := h.form
  have hb := h.wf.base
  have hl24 := h.wf.len
  have hbn := HN.out
  obtain ⟨wb, hwb⟩ : ∃ wb, (w.alloc (.cells (rlC m (.slice ba bn bc) room) 59)).alloc (.cells #[.int .i64 0, .int .u64 0, .int .u64 0, .int .u64 0, .slice none 0 0, .slice none 0 0] 26) = wb := ⟨_, rfl⟩
  have hbb : Below w.heap.size w wb := by rw [← hwb]; exact below_more (below_more (Below.refl _ _) _) _
  have k2 : wb.heap[w.heap.size]? = some (.cells (rlC m (.slice ba bn bc) room) 59 (0, 0)) := by
    rw [← hwb, heap_alloc_old _ _ (by rw [World.size_alloc]; omega)]; exact heap_alloc_new w _
  have k4 : wb.heap[w.heap.size + 1]? = some (.cells noCs 26 (0, 0)) := by
    rw [← hwb, show w.heap.size + 1 = (w.alloc (.cells (rlC m (.slice ba bn bc) room) 59)).heap.size by rw [World.size_alloc]]; exact heap_alloc_new _ _
  have he := r7end wb (.slice ba bn bc) m room (h.below hbb)
  have hR : RdL w wb m (.slice ba bn bc) room lsn 0 := ⟨hbb, k2, k4, Nat.zero_le _, fun i hi => absurd hi (Nat.not_lt_zero _)⟩
  obtain ⟨fi, hfi⟩ : ∃ fi, m.fin = fi := ⟨_, rfl⟩
  unfold EndOut at he
  rw [hfi] at he
  have HE := Lib.hid he
  have HR := Lib.hid hR
  have HW := Lib.hid hwb
  have HV := Lib.hid (And.intro h (And.intro hl hfi))
  have hbi : (bn : Int) ≤ 16777216 := by omega
  have hb0 : (0 : Int) ≤ (bn : Int) := by omega
  clear h hb hl24 hbn hbb k2 k4 he hR hwb hl hfi
  go_enter Try.func26, Try.ntmps26
  go_wp2_with (first | (rw [HW.out]; refine wpList_load_row rfl _ _ rfl w.heap.size rfl _ _ (0, 0) _ HR.out.k2 Try.underlying59 rfl infoRL ?_) | fail)
  refine HE.out.mono ?_
  rintro e w1 ⟨rfl, hb1⟩
  have hR1 := HR.out.below hb1
  have HR1 := Lib.hid hR1
  clear hb1 hR1 HE HR HW
  by_cases hq : lsn = fi
  · have q1 : ((lsn : Int) == (fi : Int)) = true := by simp; omega
    have hself := setRow_self w1 w.heap.size _ _ _ HR1.out.k2
    have hself4 := setRow_self w1 (w.heap.size + 1) _ _ _ HR1.out.k4
    have HSELF := Lib.hid hself4
    have HQ := Lib.hid hq
    clear hself hself4 hq
    go_wp2_with (first | (refine wpList_store_row rfl _ _ _ rfl (w.heap.size + 1) noCs rfl rfl _ _ HR1.out.k4 infoR rfl noCs_one ?_; rw [HSELF.out]) | fail)
    obtain ⟨q0, q2, q3, q4, q5, q6⟩ := no_cells HR1.out.k4
    refine bodyPost_ret (by simp [results, Try.results26, go_sem, q0, q2, q3, q4, q5, q6]; try rfl) rfl ?_
    exact .inl ⟨by rw [HV.out.2.2]; exact HQ.out, rfl, HR1.out.bl⟩
  · have q1 : ((lsn : Int) == (fi : Int)) = false := by simp; omega
    have HQ := Lib.hid hq
    clear hq
    go_wp2_with fail
    clear q1
    go_loopw [7, 8, 9, 10] (fun ai _ _ _ wr => ∃ (j A : Nat), ai = .int .i64 A ∧ m.off j = A ∧ RdL w wr m (.slice ba bn bc) room lsn j) (fun ai _ _ _ _ => bn - (intOf ai).toNat)
    case atStart => exact ⟨0, 0, rfl, rfl, HR1.out⟩
    case round =>
      obtain ⟨j, A, rfl, hA, hL⟩ := hrel
      obtain ⟨z0, -, z2, -, -⟩ := box5 hL.k2
      have hA0 : (0 : Int) ≤ (A : Int) := by omega
      rcases Nat.lt_or_ge j m.recs.length with hlt | hge
      · have hAl : A < lenL m.recs := by rw [← hA]; exact m.off_lt hlt
        have hbn := HN.out
        have hAn : (A : Int) < (bn : Int) := by omega
        have hok : RecOk m.recs[j] := HV.out.1.wf.recs _ (List.getElem_mem hlt)
        have hdr : m.bytes.drop A = recB m.recs[j] (m.base + A) ++ encL (m.base + m.off (j + 1)) (m.recs.drop (j + 1)) := by rw [← hA]; exact encL_drop m.recs m.base j hlt
        have hsu := m.off_succ hlt
        rw [hA] at hsu
        have hb62 := HV.out.1.wf.base
        have hl24 := HV.out.1.wf.len
        obtain ⟨ln, hln⟩ : ∃ ln, m.base + A = ln := ⟨_, rfl⟩
        have v1 : IntKind.u64.wrap (A : Int) = (A : Int) := wrap_u64_nat _ (by omega)
        have v2 : IntKind.u64.wrap ((m.base : Int) + (A : Int)) = (ln : Int) := by
          rw [← hln]
          have := wrap_u64_nat (m.base + A) (by omega)
          push_cast at this ⊢
          exact this
        obtain ⟨r, hr9⟩ : ∃ r, m.recs[j] = r := ⟨_, rfl⟩
        rw [hr9] at hok hdr hsu
        have hr : m.recs[j]? = some r := by rw [List.getElem?_eq_getElem hlt, hr9]
        clear hr9
        obtain ⟨nx, hnx⟩ : ∃ nx, A + recLen r = nx := ⟨_, rfl⟩
        have hnl : nx ≤ bn := by
          rw [hbn, ← hnx, ← hsu]; exact lenL_take_le _ _
        rw [hln] at hdr
        have hby := r7body_yes wr (.slice ba bn bc) m.bytes A r ln _ (HV.out.1.below hL.bl).rd hdr hok (by omega) (by rw [show m.bytes.length = lenL m.recs from encL_length _ _]; omega)
        rw [hnx] at hby
        have hAx : A < nx := by have := recLen_pos r; omega
        have HBY := Lib.hid hby
        have HJ := Lib.hid (And.intro hL (And.intro hlt (And.intro hA (And.intro hln (And.intro hr (And.intro hsu (And.intro hnx (And.intro hnl hAx))))))))
        clear hL hlt hA hln hr hsu hnx hnl hby hdr hok hb62 hl24 hAl hbn hAx
        go_wp2_with fail
        refine HBY.out.mono ?_
        rintro e w2 ⟨x, rfl, hrec, hb2⟩
        obtain ⟨da, dn, dc, ca, cn, cc, e1, e2, -⟩ := hrec.open
        unfold rval
        rw [e1, e2]
        have hL2 := HJ.out.1.below hb2
        obtain ⟨g, hg⟩ : ∃ g, w2.heap.size = g := ⟨_, rfl⟩
        obtain ⟨w3, hw3⟩ : ∃ w3, w2.alloc (.cells #[.int .i64 r.kind, .int .u64 r.tx, .int .u64 r.prev, .int .u64 r.next, .slice da dn dc, .slice ca cn cc] 26) = w3 := ⟨_, rfl⟩
        have hb3 : Below w2.heap.size w2 w3 := by rw [← hw3]; exact (Below.refl _ _).alloc (Nat.le_refl _) _
        have hL3 := hL2.below hb3
        have hrec3 := hrec.below hb3
        have k3 : w3.heap[g]? = some (.cells (rcs r (.slice da dn dc) (.slice ca cn cc)) 26 (0, 0)) := by rw [← hw3, ← hg]; exact heap_alloc_new w2 _
        obtain ⟨y0, -, y2, -, -⟩ := box5 hL3.k2
        have hb23 : Below wr.heap.size wr w3 := hb2.trans (hb3.mono hb2.size)
        have hgz : wr.heap.size ≤ g := by rw [← hg]; exact hb2.size
        have HG := Lib.hid hgz
        have K3 := Lib.hid k3
        have HL3 := Lib.hid hL3
        have HRC := Lib.hid (And.intro hrec3 (And.intro e1 (And.intro e2 hb23)))
        have h1c : (rcs r (.slice da dn dc) (.slice ca cn cc)).all (·.oneCell') = true := by simp [rcs, Value.oneCell']
        have H1C := Lib.hid h1c
        have hnu := HJ.out.2.2.2.2.2.2.2.1
        have hni : (nx : Int) ≤ 16777216 := by omega
        have hn0 : (0 : Int) ≤ (nx : Int) := by omega
        clear hrec hb2 e1 e2 hL2 hb3 hL3 hrec3 k3 z0 z2 hb23 h1c HBY hnu hgz
        by_cases hq2 : ln = lsn
        · have q1 : ((ln : Int) == (lsn : Int)) = true := by simp; omega
          have HQ2 := Lib.hid hq2
          have c0 : w3.drew.cell? ⟨w.heap.size, 0, none⟩ = some (.int .u64 m.base) := y0
          have c3 : w3.drew.heap[g]? = some (.cells (rcs r (.slice da dn dc) (.slice ca cn cc)) 26 (0, 0)) := K3.out
          clear hq2
          go_upto_region 8 with (fail)
          clear hw3 hg q1
          obtain ⟨w5, hw5⟩ : ∃ w5, w3.drew.setRow (w.heap.size + 1) (rcs r (.slice da dn dc) (.slice ca cn cc)) = w5 := ⟨_, rfl⟩
          have k45 : w5.heap[w.heap.size + 1]? = some (.cells (rcs r (.slice da dn dc) (.slice ca cn cc)) 26 (0, 0)) := by rw [← hw5]; exact setRow_blk (w := w3.drew) HL3.out.k4
          have ho5 : ∀ k, k ≠ w.heap.size + 1 → w5.heap[k]? = w3.heap[k]? := fun k hk => by rw [← hw5]; exact setRow_other (w := w3.drew) hk
          have hg1 : g ≠ w.heap.size + 1 := fun e => by
            have h1 := HRC.out.2.2.2.size
            have h2 := lt_of_block HJ.out.1.k4
            have h3 := HG.out
            omega
          have c05 : w5.cell? ⟨w.heap.size, 0, none⟩ = some (.int .u64 m.base) := cell_of_row w5 _ 0 _ _ _ ((ho5 _ (by omega)).trans HL3.out.k2)
          have c35 : w5.heap[g]? = some (.cells (rcs r (.slice da dn dc) (.slice ca cn cc)) 26 (0, 0)) := (ho5 _ hg1).trans K3.out
          have hb5 : Below w.heap.size w w5 := by
            have h1 := HL3.out.bl
            exact ⟨by rw [← hw5]; exact h1.os, by rw [← hw5]; exact h1.tape, by rw [← hw5]; exact h1.output, by rw [← hw5]; simpa [World.setRow] using h1.size, fun k hk => (ho5 k (by omega)).trans (h1.block k hk)⟩
          have hrec5 : RecAt (OldF w.heap.size) w5 r x := HRC.out.1.keep (fun k hk hn => ho5 k (fun e => hn (by unfold OldF; have := lt_of_block HJ.out.1.k4; omega))) (fun k hk h => by unfold OldF at *; have := HJ.out.1.bl.size; omega)
          have v3 : IntKind.u64.wrap (nx : Int) = (nx : Int) := wrap_u64_nat _ (by omega)
          have v4 : IntKind.u64.wrap ((m.base : Int) + (nx : Int)) = (m.base : Int) + (nx : Int) := by
            have h62 := HV.out.1.wf.base
            have := wrap_u64_nat (m.base + nx) (by omega)
            push_cast at this
            exact this
          have hT0 : w3.drew.cell? ⟨w.heap.size, 0, none⟩ = some (.int .u64 m.base) ∧ w3.drew.heap[g]? = some (.cells (rcs r (.slice da dn dc) (.slice ca cn cc)) 26 (0, 0)) := ⟨c0, c3⟩
          have hT5 : w5.cell? ⟨w.heap.size, 0, none⟩ = some (.int .u64 m.base) ∧ w5.heap[g]? = some (.cells (rcs r (.slice da dn dc) (.slice ca cn cc)) 26 (0, 0)) := ⟨c05, c35⟩
          have k43 : w3.drew.heap[w.heap.size + 1]? = some (.cells noCs 26 (0, 0)) := HL3.out.k4
          have K43 := Lib.hid k43
          have HW5 := Lib.hid hw5
          have K45 := Lib.hid k45
          have HX5 := Lib.hid (And.intro hrec5 hb5)
          clear c0 c3 y0 y2 hw5 k45 ho5 hg1 c05 c35 hb5 hrec5 k43 v1 v2
          refine wp_region_U (fun W => W.cell? ⟨w.heap.size, 0, none⟩ = some (.int .u64 m.base) ∧ W.heap[g]? = some (.cells (rcs r (.slice da dn dc) (.slice ca cn cc)) 26 (0, 0))) [] (by kernel_rfl) ?_
          refine wpAnyU_take (i := 0) [6, 7, 8] rfl (by as_aux_lemma => kernel_rfl) (by as_aux_lemma => kernel_rfl) (by as_aux_lemma => kernel_rfl) (by as_aux_lemma => kernel_rfl) (by as_aux_lemma => kernel_rfl) (by as_aux_lemma => kernel_rfl) (fun _ _ _ h => h) (yields_load_row (by rfl) _ _ rfl g rfl _ _ (0, 0) _ (fun W hS => hS.2) Try.underlying26 rfl infoR) hT0 ?_
          try simp only [Act.put, List.getElem_toArray, List.getElem_cons_succ, List.getElem_cons_zero, List.setIfInBounds_toArray, List.set_cons_zero, List.set_cons_succ]
          refine wpAnyU_take (i := 1) [2, 5, 7, 8] rfl (by as_aux_lemma => kernel_rfl) (by as_aux_lemma => kernel_rfl) (by as_aux_lemma => kernel_rfl) (by as_aux_lemma => kernel_rfl) (by as_aux_lemma => kernel_rfl) (by as_aux_lemma => kernel_rfl) (fun _ _ _ h => h) (Or.inl ⟨by rfl, (by intro W hSW; (try dsimp only at hSW); (try go_split_ands); go_simp <;> with_reducible rfl)⟩) hT0 ?_
          try simp only [Act.put, List.getElem_toArray, List.getElem_cons_succ, List.getElem_cons_zero, List.setIfInBounds_toArray, List.set_cons_zero, List.set_cons_succ]
          refine wpAnyU_take (i := 2) [5, 7, 8] rfl (by as_aux_lemma => kernel_rfl) (by as_aux_lemma => kernel_rfl) (by as_aux_lemma => kernel_rfl) (by as_aux_lemma => kernel_rfl) (by as_aux_lemma => kernel_rfl) (by as_aux_lemma => kernel_rfl) (fun _ _ _ h => h) (Or.inl ⟨by rfl, (by intro W hSW; (try dsimp only at hSW); (try go_split_ands); go_simp <;> with_reducible rfl)⟩) hT0 ?_
          try simp only [Act.put, List.getElem_toArray, List.getElem_cons_succ, List.getElem_cons_zero, List.setIfInBounds_toArray, List.set_cons_zero, List.set_cons_succ]
          refine wpAnyU_take (i := 3) [4, 5, 7, 8] rfl (by as_aux_lemma => kernel_rfl) (by as_aux_lemma => kernel_rfl) (by as_aux_lemma => kernel_rfl) (by as_aux_lemma => kernel_rfl) (by as_aux_lemma => kernel_rfl) (by as_aux_lemma => kernel_rfl) (fun _ _ _ h => h) (Or.inl ⟨by rfl, (by intro W hSW; (try dsimp only at hSW); (try go_split_ands); go_simp <;> with_reducible rfl)⟩) hT0 ?_
          try simp only [Act.put, List.getElem_toArray, List.getElem_cons_succ, List.getElem_cons_zero, List.setIfInBounds_toArray, List.set_cons_zero, List.set_cons_succ]
          refine wpAnyU_take (i := 4) [5, 7, 8] rfl (by as_aux_lemma => kernel_rfl) (by as_aux_lemma => kernel_rfl) (by as_aux_lemma => kernel_rfl) (by as_aux_lemma => kernel_rfl) (by as_aux_lemma => kernel_rfl) (by as_aux_lemma => kernel_rfl) (fun _ _ _ h => h) (Or.inl ⟨by rfl, (by intro W hSW; (try dsimp only at hSW); (try go_split_ands); go_simp <;> with_reducible rfl)⟩) hT0 ?_
          try simp only [Act.put, List.getElem_toArray, List.getElem_cons_succ, List.getElem_cons_zero, List.setIfInBounds_toArray, List.set_cons_zero, List.set_cons_succ]
          refine wpAnyU_take (i := 5) [7, 8] rfl (by as_aux_lemma => kernel_rfl) (by as_aux_lemma => kernel_rfl) (by as_aux_lemma => kernel_rfl) (by as_aux_lemma => kernel_rfl) (by as_aux_lemma => kernel_rfl) (by as_aux_lemma => kernel_rfl) (fun _ _ _ h => h) (Or.inl ⟨by rfl, (by intro W hSW; (try dsimp only at hSW); (try go_split_ands); go_simp <;> with_reducible rfl)⟩) hT0 ?_
          try simp only [Act.put, List.getElem_toArray, List.getElem_cons_succ, List.getElem_cons_zero, List.setIfInBounds_toArray, List.set_cons_zero, List.set_cons_succ]
          refine wpAnyU_one (i := 6) (by kernel_rfl) rfl (fun K hK => ?_)
          refine step_store_is rfl _ _ _ rfl (w.heap.size + 1) (rcs r (.slice da dn dc) (.slice ca cn cc)) rfl rfl _ _ K43.out infoR rfl H1C.out ?_
          rw [HW5.out]
          refine hK.out _ _ (fun _ => hT5) (fun _ => ?_)
          clear hK K
          try simp only [Act.put, List.getElem_toArray, List.getElem_cons_succ, List.getElem_cons_zero, List.setIfInBounds_toArray, List.set_cons_zero, List.set_cons_succ]
          refine wpAnyU_take (i := 7) [8] rfl (by as_aux_lemma => kernel_rfl) (by as_aux_lemma => kernel_rfl) (by as_aux_lemma => kernel_rfl) (by as_aux_lemma => kernel_rfl) (by as_aux_lemma => kernel_rfl) (by as_aux_lemma => kernel_rfl) (fun _ _ _ h => h) (Or.inl ⟨by rfl, (by intro W hSW; (try dsimp only at hSW); (try go_split_ands); go_simp <;> with_reducible rfl)⟩) hT5 ?_
          try simp only [Act.put, List.getElem_toArray, List.getElem_cons_succ, List.getElem_cons_zero, List.setIfInBounds_toArray, List.set_cons_zero, List.set_cons_succ]
          refine wpAnyU_take (i := 8) [] rfl (by as_aux_lemma => kernel_rfl) (by as_aux_lemma => kernel_rfl) (by as_aux_lemma => kernel_rfl) (by as_aux_lemma => kernel_rfl) (by as_aux_lemma => kernel_rfl) (by as_aux_lemma => kernel_rfl) (fun _ _ _ h => h) (Or.inl ⟨by rfl, (by intro W hSW; (try dsimp only at hSW); (try go_split_ands); go_simp <;> with_reducible rfl)⟩) hT5 ?_
          try simp only [Act.put, List.getElem_toArray, List.getElem_cons_succ, List.getElem_cons_zero, List.setIfInBounds_toArray, List.set_cons_zero, List.set_cons_succ]
          refine wpAnyU_done (by kernel_rfl) ?_ _
          obtain ⟨q0, q2, q3, q4, q5, q6⟩ := box6 (w := w) K45.out
          clear hT0 hT5 v3 v4
          go_wp2
          refine bodyPost_ret (by simp [results, Try.results26, go_sem, q0, q2, q3, q4, q5, q6]; try rfl) rfl ?_
          obtain ⟨-, hlt, hA, hln, hr, hsu, hnx, -, -⟩ := HJ.out
          refine .inr (.inl ⟨j, hlt, by rw [hA, hln, HQ2.out], ?_⟩)
          have hr2 : m.recs[j] = r := by rw [List.getElem?_eq_getElem hlt] at hr; exact Option.some.inj hr
          rw [hr2, hsu, hnx]
          exact ⟨x, by unfold rval; rw [HRC.out.2.1, HRC.out.2.2.1]; push_cast; rfl, HX5.out.1, HX5.out.2⟩
        · have q1 : ((ln : Int) == (lsn : Int)) = false := by simp; omega
          have HQ2 := Lib.hid hq2
          clear hq2
          go_wp2_with fail
          clear hw3 hg q1 y0 y2 v1 v2
          go_roundw
          case rel =>
            obtain ⟨-, hlt, hA, hln, hr, hsu, hnx, -, -⟩ := HJ.out
            refine ⟨j + 1, nx, rfl, by rw [hsu, hnx], HL3.out.bl, HL3.out.k2, HL3.out.k4, hlt, fun i hi => ?_⟩
            rcases Nat.lt_or_ge i j with h1 | h1
            · exact HL3.out.no i h1
            · obtain rfl : i = j := by omega
              rw [hA, hln]
              exact HQ2.out
          case measure => have := HJ.out.2.2.2.2.2.2.2; simp [intOf]; omega
      · have hjj : j = m.recs.length := by have := hL.le; omega
        obtain rfl : A = bn := by rw [← hA, hjj, HN.out, LM.off_len]
        have hno : NoRec m lsn := fun i hi => hL.no i (by omega)
        have hself4 := setRow_self wr (w.heap.size + 1) _ _ _ hL.k4
        have HSELF := Lib.hid hself4
        have HNO := Lib.hid hno
        have HL := Lib.hid hL
        clear hno hself4 hL hge hjj hA
        go_wp2_with (first | (refine wpList_store_row rfl _ _ _ rfl (w.heap.size + 1) noCs rfl rfl _ _ HL.out.k4 infoR rfl noCs_one ?_; rw [HSELF.out]) | fail)
        obtain ⟨q0, q2, q3, q4, q5, q6⟩ := no_cells HL.out.k4
        refine bodyPost_ret (by simp [results, Try.results26, go_sem, q0, q2, q3, q4, q5, q6]; try rfl) rfl ?_
        exact .inr (.inr ⟨by rw [HV.out.2.2]; exact HQ.out, HNO.out, rfl, HL.out.bl⟩)
end Mun
