/- The reference of chapter 7: Append. -/
import Derived.Test.YtoblajbffnkkiaaR7H
import Derived.Test.YtoblajbffnkkiaaMgH
import Derived.Test.YtoblajbffnkkiaaMgF
set_option maxRecDepth 100000
set_option linter.unusedVariables false
set_option linter.unusedSimpArgs false
namespace Mun
open Go Go.RowKit
open Go.Proofs

/-- what Bytes tells of whatever record -/
def ByOut (w : World) (r : PR) (lsn : Nat) (e : Ending) (w' : World) : Prop :=
  ∃ a n c k, e = .returned (.tuple #[.slice a n c, .int .i64 k]) ∧ Below w.heap.size w w' ∧
    (((k = 1 ∧ goodR r = false) ∨ (k = 2 ∧ goodR r = true ∧ 1048576 < (bodyR r).length)) ∨ (k = 0 ∧ RecOk r ∧ n = recLen r ∧ OwnB w' w.heap.size 5 (.slice a n c) (recB r lsn)))
theorem r7bytes_any {F : Foot} (w : World) (r : PR) (x : RV) (lsn : Nat) (hl : lsn < 18446744073709551616) (h : RecAt F w r x) (hsz : szR r ≤ 4194304) :
    Calls Try.prog 23 #[rval r x, .int .u64 lsn] w (ByOut w r lsn) := by
  cases hg : goodR r with
  | false =>
    refine (r7bytes_no w r x lsn h hg).mono ?_
    rintro e w' ⟨rfl, hb⟩
    exact ⟨none, 0, 0, 1, rfl, hb, .inl (.inl ⟨rfl, hg⟩)⟩
  | true =>
    by_cases hbig : (bodyR r).length ≤ 1048576
    · refine (r7bytes_ok w r x lsn hl h hg hsz hbig).mono ?_
      rintro e w' ⟨g, n, c, rfl, hn, ho, hb⟩
      exact ⟨_, n, c, 0, rfl, hb, .inr ⟨rfl, ⟨hg, hbig, h.tx, h.prev, h.next⟩, by rw [hn.out, recB_len], ho⟩⟩
    · refine (r7bytes_big w r x lsn h hg hsz (by omega)).mono ?_
      rintro e w' ⟨rfl, hb⟩
      exact ⟨none, 0, 0, 2, rfl, hb, .inl (.inr ⟨rfl, hg, by omega⟩)⟩

def RApOut (w : World) (m : LM) (bv : Value) (room : Nat) (r : PR) (e : Ending) (w' : World) : Prop :=
  (∃ k : Int, e = .returned (.tuple #[.agg (rlC m bv room), .int .u64 0, .int .i64 k]) ∧ Below w.heap.size w w' ∧
    ((k = 1 ∧ goodR r = false) ∨ (k = 2 ∧ goodR r = true ∧ 1048576 < (bodyR r).length) ∨ (k = 7 ∧ RecOk r ∧ room < lenL m.recs + recLen r))) ∨
  (RecOk r ∧ lenL m.recs + recLen r ≤ room ∧ ∃ bv', e = .returned (.tuple #[.agg (rlC (m.push r) bv' room), .int .u64 m.fin, .int .i64 0]) ∧ OwnB w' w.heap.size 5 bv' (m.push r).bytes ∧ Below w.heap.size w w')

/-- within Append -/
structure ApL (w wr : World) (m : LM) (bv : Value) (room : Nat) (rc : Array Value) : Prop where
  bl : Below w.heap.size w wr
  k2 : wr.heap[w.heap.size]? = some (.cells (rlC m bv room) 59 (0, 0))
  k3 : wr.heap[w.heap.size + 1]? = some (.cells rc 26 (0, 0))
  k4 : wr.heap[w.heap.size + 1 + 1]? = some (.cells #[.int .u64 0, .int .u64 0, .slice none 0 0, .int .i64 0, .int .i64 0] 59 (0, 0))
theorem ApL.below {w wr w' : World} {m : LM} {bv : Value} {room : Nat} {rc : Array Value} (h : ApL w wr m bv room rc) (hb : Below wr.heap.size wr w') : ApL w w' m bv room rc :=
  ⟨h.bl.trans (hb.mono h.bl.size), (hb.block _ (lt_of_block h.k2)).trans h.k2, (hb.block _ (lt_of_block h.k3)).trans h.k3, (hb.block _ (lt_of_block h.k4)).trans h.k4⟩

set_option maxHeartbeats 8000000 in
theorem r7append {F G : Foot} (w : World) (bv : Value) (m : LM) (room : Nat) (r : PR) (x : RV) (h : RLv F w m bv) (hr : RecAt G w r x) (hsz : szR r ≤ 4194304) (hro : room ≤ 16777216) :
    Calls Try.prog 25 #[.agg (rlC m bv room), rval r x] w (RApOut w m bv room r) := by
  obtain ⟨ba, bn, bc, rfl, HN⟩ := h.form
  obtain ⟨da, dn, dc, ca, cn, cc, e1, e2, -⟩ := hr.open
  have hb := h.wf.base
  have hl24 := h.wf.len
  have hbn := HN.out
  have hfi : m.fin < 18446744073709551616 := by unfold LM.fin; omega
  have hey := fun (W : World) (hW : Below w.heap.size w W) => r7end W (.slice ba bn bc) m room (h.below hW)
  have hby := fun (W : World) (hW : Below w.heap.size w W) => r7bytes_any W r x m.fin hfi (hr.below hW) hsz
  unfold rval at hby ⊢
  rw [e1, e2] at hby ⊢
  obtain ⟨wb, hwb⟩ : ∃ wb, ((w.alloc (.cells (rlC m (.slice ba bn bc) room) 59)).alloc (.cells #[.int .i64 r.kind, .int .u64 r.tx, .int .u64 r.prev, .int .u64 r.next, .slice da dn dc, .slice ca cn cc] 26)).alloc (.cells #[.int .u64 0, .int .u64 0, .slice none 0 0, .int .i64 0, .int .i64 0] 59) = wb := ⟨_, rfl⟩
  have hbb : Below w.heap.size w wb := by rw [← hwb]; exact below_more (below_more (below_more (Below.refl _ _) _) _) _
  have hs1 : (w.alloc (.cells (rlC m (.slice ba bn bc) room) 59)).heap.size = w.heap.size + 1 := by rw [World.size_alloc]
  have hR : ApL w wb m (.slice ba bn bc) room (rcs r (.slice da dn dc) (.slice ca cn cc)) := by
    refine ⟨hbb, ?_, ?_, ?_⟩
    · rw [← hwb, heap_alloc_old _ _ (by rw [World.size_alloc, World.size_alloc]; omega), heap_alloc_old _ _ (by rw [World.size_alloc]; omega)]
      exact heap_alloc_new w _
    · rw [← hwb, heap_alloc_old _ _ (by rw [World.size_alloc, World.size_alloc]; omega), ← hs1]
      exact heap_alloc_new _ _
    · rw [← hwb, ← hs1, ← World.size_alloc (w.alloc (.cells (rlC m (.slice ba bn bc) room) 59)) (.cells #[.int .i64 r.kind, .int .u64 r.tx, .int .u64 r.prev, .int .u64 r.next, .slice da dn dc, .slice ca cn cc] 26)]
      exact heap_alloc_new _ _
  obtain ⟨fi, hfie⟩ : ∃ fi, m.fin = fi := ⟨_, rfl⟩
  rw [hfie] at hby hfi
  unfold EndOut at hey
  rw [hfie] at hey
  have HEY := Lib.hid hey
  have HBY := Lib.hid hby
  have HR := Lib.hid hR
  have HV := Lib.hid (And.intro h (And.intro hsz (And.intro hro hfie)))
  have hbi : (bn : Int) ≤ 16777216 := by omega
  have hb0 : (0 : Int) ≤ (bn : Int) := by omega
  have hro1 : (room : Int) ≤ 16777216 := by omega
  clear h hr hb hl24 hbn hfi hey hby e1 e2 hbb hs1 hR hfie hro hsz
  go_enter Try.func25, Try.ntmps25
  go_upto_region 1 with fail
  try rw [hwb]
  clear hwb
  have hT0 : wb.drew.heap[w.heap.size]? = some (.cells (rlC m (.slice ba bn bc) room) 59 (0, 0)) ∧ wb.drew.heap[w.heap.size + 1]? = some (.cells (rcs r (.slice da dn dc) (.slice ca cn cc)) 26 (0, 0)) := ⟨HR.out.k2, HR.out.k3⟩
  have hRd : ApL w wb.drew m (.slice ba bn bc) room (rcs r (.slice da dn dc) (.slice ca cn cc)) := ⟨below_drewN HR.out.bl 1, HR.out.k2, HR.out.k3, HR.out.k4⟩
  have HRD := Lib.hid hRd
  clear hRd
  refine wp_region_U (fun W => W.heap[w.heap.size]? = some (.cells (rlC m (.slice ba bn bc) room) 59 (0, 0)) ∧ W.heap[w.heap.size + 1]? = some (.cells (rcs r (.slice da dn dc) (.slice ca cn cc)) 26 (0, 0))) [] (by kernel_rfl) ?_
  refine wpAnyU_take (i := 0) [3, 4, 5, 6, 7, 8] rfl (by as_aux_lemma => kernel_rfl) (by as_aux_lemma => kernel_rfl) (by as_aux_lemma => kernel_rfl) (by as_aux_lemma => kernel_rfl) (by as_aux_lemma => kernel_rfl) (by as_aux_lemma => kernel_rfl) (fun _ _ _ h => h) (yields_load_row (by rfl) _ _ rfl (w.heap.size + 1) rfl _ _ (0, 0) _ (fun W hS => hS.2) Try.underlying26 rfl infoR) hT0 ?_
  try simp only [Act.put, List.getElem_toArray, List.getElem_cons_succ, List.getElem_cons_zero, List.setIfInBounds_toArray, List.set_cons_zero, List.set_cons_succ]
  refine wpAnyU_take (i := 1) [2, 3, 4, 5, 6, 7, 8] rfl (by as_aux_lemma => kernel_rfl) (by as_aux_lemma => kernel_rfl) (by as_aux_lemma => kernel_rfl) (by as_aux_lemma => kernel_rfl) (by as_aux_lemma => kernel_rfl) (by as_aux_lemma => kernel_rfl) (fun _ _ _ h => h) (yields_load_row (by rfl) _ _ rfl w.heap.size rfl _ _ (0, 0) _ (fun W hS => hS.1) Try.underlying59 rfl infoRL) hT0 ?_
  try simp only [Act.put, List.getElem_toArray, List.getElem_cons_succ, List.getElem_cons_zero, List.setIfInBounds_toArray, List.set_cons_zero, List.set_cons_succ]
  refine wpAnyU_one (i := 2) (by kernel_rfl) rfl (fun K hK => ?_)
  go_simp
  go_at_call 57
  (with_reducible refine (HEY.out _ HRD.out.bl).mono ?_)
  rintro e w2 ⟨rfl, hb2⟩
  have hR2 := HRD.out.below hb2
  have hT2 : w2.heap[w.heap.size]? = some (.cells (rlC m (.slice ba bn bc) room) 59 (0, 0)) ∧ w2.heap[w.heap.size + 1]? = some (.cells (rcs r (.slice da dn dc) (.slice ca cn cc)) 26 (0, 0)) := ⟨hR2.k2, hR2.k3⟩
  have HR2 := Lib.hid hR2
  clear hb2 hR2
  refine hK.out _ _ (fun _ => hT2) (fun _ => ?_)
  clear hK K
  try simp only [Act.put, List.getElem_toArray, List.getElem_cons_succ, List.getElem_cons_zero, List.setIfInBounds_toArray, List.set_cons_zero, List.set_cons_succ]
  refine wpAnyU_one (i := 3) (by kernel_rfl) rfl (fun K hK => ?_)
  go_simp
  go_at_call 23
  (refine (HBY.out _ HR2.out.bl).mono ?_)
  rintro e w3 ⟨ya, yn, yc, k, rfl, hb3, hk3⟩
  have hR3 := HR2.out.below hb3
  have hT3 : w3.heap[w.heap.size]? = some (.cells (rlC m (.slice ba bn bc) room) 59 (0, 0)) ∧ w3.heap[w.heap.size + 1]? = some (.cells (rcs r (.slice da dn dc) (.slice ca cn cc)) 26 (0, 0)) := ⟨hR3.k2, hR3.k3⟩
  have HR3 := Lib.hid hR3
  have HK3 := Lib.hid (And.intro hb3 hk3)
  clear hb3 hR3 hk3
  refine hK.out _ _ (fun _ => hT3) (fun _ => ?_)
  clear hK K
  try simp only [Act.put, List.getElem_toArray, List.getElem_cons_succ, List.getElem_cons_zero, List.setIfInBounds_toArray, List.set_cons_zero, List.set_cons_succ]
  refine wpAnyU_take (i := 4) [5, 6, 7, 8] rfl (by as_aux_lemma => kernel_rfl) (by as_aux_lemma => kernel_rfl) (by as_aux_lemma => kernel_rfl) (by as_aux_lemma => kernel_rfl) (by as_aux_lemma => kernel_rfl) (by as_aux_lemma => kernel_rfl) (fun _ _ _ h => h) (Or.inl ⟨by rfl, (by intro W hSW; (try dsimp only at hSW); (try go_split_ands); go_simp <;> with_reducible rfl)⟩) hT3 ?_
  try simp only [Act.put, List.getElem_toArray, List.getElem_cons_succ, List.getElem_cons_zero, List.setIfInBounds_toArray, List.set_cons_zero, List.set_cons_succ]
  refine wpAnyU_take (i := 5) [7, 8] rfl (by as_aux_lemma => kernel_rfl) (by as_aux_lemma => kernel_rfl) (by as_aux_lemma => kernel_rfl) (by as_aux_lemma => kernel_rfl) (by as_aux_lemma => kernel_rfl) (by as_aux_lemma => kernel_rfl) (fun _ _ _ h => h) (Or.inl ⟨by rfl, (by intro W hSW; (try dsimp only at hSW); (try go_split_ands); go_simp <;> with_reducible rfl)⟩) hT3 ?_
  try simp only [Act.put, List.getElem_toArray, List.getElem_cons_succ, List.getElem_cons_zero, List.setIfInBounds_toArray, List.set_cons_zero, List.set_cons_succ]
  refine wpAnyU_take (i := 6) [8] rfl (by as_aux_lemma => kernel_rfl) (by as_aux_lemma => kernel_rfl) (by as_aux_lemma => kernel_rfl) (by as_aux_lemma => kernel_rfl) (by as_aux_lemma => kernel_rfl) (by as_aux_lemma => kernel_rfl) (fun _ _ _ h => h) (Or.inl ⟨by rfl, (by intro W hSW; (try dsimp only at hSW); (try go_split_ands); go_simp <;> with_reducible rfl)⟩) hT3 ?_
  try simp only [Act.put, List.getElem_toArray, List.getElem_cons_succ, List.getElem_cons_zero, List.setIfInBounds_toArray, List.set_cons_zero, List.set_cons_succ]
  refine wpAnyU_take (i := 7) [8] rfl (by as_aux_lemma => kernel_rfl) (by as_aux_lemma => kernel_rfl) (by as_aux_lemma => kernel_rfl) (by as_aux_lemma => kernel_rfl) (by as_aux_lemma => kernel_rfl) (by as_aux_lemma => kernel_rfl) (fun _ _ _ h => h) (Or.inl ⟨by rfl, (by intro W hSW; (try dsimp only at hSW); (try go_split_ands); go_simp <;> with_reducible rfl)⟩) hT3 ?_
  try simp only [Act.put, List.getElem_toArray, List.getElem_cons_succ, List.getElem_cons_zero, List.setIfInBounds_toArray, List.set_cons_zero, List.set_cons_succ]
  refine wpAnyU_take (i := 8) [] rfl (by as_aux_lemma => kernel_rfl) (by as_aux_lemma => kernel_rfl) (by as_aux_lemma => kernel_rfl) (by as_aux_lemma => kernel_rfl) (by as_aux_lemma => kernel_rfl) (by as_aux_lemma => kernel_rfl) (fun _ _ _ h => h) (Or.inl ⟨by rfl, (by intro W hSW; (try dsimp only at hSW); (try go_split_ands); go_simp <;> with_reducible rfl)⟩) hT3 ?_
  try simp only [Act.put, List.getElem_toArray, List.getElem_cons_succ, List.getElem_cons_zero, List.setIfInBounds_toArray, List.set_cons_zero, List.set_cons_succ]
  refine wpAnyU_done (by kernel_rfl) ?_ _
  clear hT0 hT2 hT3 HRD HBY HR
  rename_i hx1 hx2
  clear hx1 hx2
  obtain ⟨z0, z1, z2, z3, z4⟩ := box5 HR3.out.k2
  obtain ⟨w4, hw4⟩ : ∃ w4, w3.setRow (w.heap.size + 1 + 1) (rlC m (.slice ba bn bc) room) = w4 := ⟨_, rfl⟩
  have k44 : w4.heap[w.heap.size + 1 + 1]? = some (.cells (rlC m (.slice ba bn bc) room) 59 (0, 0)) := by rw [← hw4]; exact setRow_blk HR3.out.k4
  have hb4 : Below w.heap.size w w4 := by
    have h1 := HR3.out.bl
    exact ⟨by rw [← hw4]; exact h1.os, by rw [← hw4]; exact h1.tape, by rw [← hw4]; exact h1.output, by rw [← hw4]; simpa [World.setRow] using h1.size, fun k hk => by rw [← hw4, setRow_other (by omega)]; exact h1.block k hk⟩
  have K44 := Lib.hid k44
  have HB4 := Lib.hid hb4
  have h1c := rlC_one m ba bn bc room
  have H1C := Lib.hid h1c
  clear k44 hb4 h1c
  by_cases hk0 : k = 0
  · subst hk0
    have hok : RecOk r ∧ yn = recLen r ∧ OwnB w3 w2.heap.size 5 (.slice ya yn yc) (recB r fi) := by
      rcases HK3.out.2 with (⟨h1, -⟩ | ⟨h1, -, -⟩) | ⟨-, h1, h2, h3⟩
      · exact absurd h1 (by decide)
      · exact absurd h1 (by decide)
      · exact ⟨h1, h2, h3⟩
    obtain ⟨hok, hyn, hoy⟩ := hok
    have hbig := hok.big
    have hyl : yn ≤ 1048584 := by rw [hyn]; unfold recLen; omega
    have hbn := HN.out
    have hyi : (yn : Int) ≤ 1048584 := by omega
    have hy0 : (0 : Int) ≤ (yn : Int) := by omega
    by_cases hfit : room < bn + yn
    · have t1 : (room : Int) < (bn : Int) + (yn : Int) := by omega
      have HY := Lib.hid (And.intro hok (And.intro hyn (And.intro hfit hbn)))
      clear hok hyn hoy hbig hyl hbn hfit z0 z1 z3
      go_wp2_with (first | (refine wpList_load_row rfl _ _ rfl w.heap.size rfl _ _ (0, 0) _ HR3.out.k2 Try.underlying59 rfl infoRL ?_) | (refine wpList_store_row rfl _ _ _ rfl (w.heap.size + 1 + 1) (rlC m (.slice ba bn bc) room) rfl rfl _ _ HR3.out.k4 infoRL rfl H1C.out ?_; rw [hw4]) | fail)
      obtain ⟨q0, q1, q2, q3, q4⟩ := box5 K44.out
      refine bodyPost_ret (by simp [results, Try.results25, go_sem, q0, q1, q2, q3, q4]; try rfl) rfl ?_
      refine .inl ⟨7, rfl, HB4.out, .inr (.inr ⟨rfl, HY.out.1, ?_⟩)⟩
      have h1 := HY.out.2.1
      have h2 := HY.out.2.2.1
      have h3 := HY.out.2.2.2
      omega
    · have t1 : ¬ ((room : Int) < (bn : Int) + (yn : Int)) := by omega
      have HY := Lib.hid (And.intro hok (And.intro hyn (And.intro hfit (And.intro hbn hoy))))
      clear hok hyn hoy hbig hyl hbn hfit z0 z1 z3 hw4 HB4 K44 H1C
      go_wp2_with (first | (refine wpList_load_row rfl _ _ rfl w.heap.size rfl _ _ (0, 0) _ HR3.out.k2 Try.underlying59 rfl infoRL ?_) | fail)
      refine (HEY.out _ HR3.out.bl).mono ?_
      rintro e w5 ⟨rfl, hb5⟩
      have hR5 := HR3.out.below hb5
      have hrd5 := (HV.out.1.below hR5.bl).rd
      have hml : m.bytes.length = bn := by rw [HN.out]; exact encL_length _ _
      obtain ⟨a6, c6, w6, hr6, ho6, hb6⟩ := app_nilB hrd5 (by have := HV.out.1.wf.len; have := HN.out; omega)
      rw [hml] at hr6 ho6
      have hR6 := hR5.below hb6
      have hy6 : RdB NoF w6 (.slice ya yn yc) (recB r fi) := (OwnB.rd (F := NoF) HY.out.2.2.2.2 (fun _ _ => noF _)).below (hb5.trans (hb6.mono hb5.size))
      obtain ⟨v7, w7, hr7, ho7, hg7, hob7, hnil7⟩ := append_bytes (ty := 23) ho6 hy6 (by rw [hml, recB_len, ← HY.out.2.1]; omega) hb6.size
      have hb57 : Below w5.heap.size w5 w7 := by
        refine ⟨hg7.os.trans hb6.os, hg7.tape.trans hb6.tape, hg7.output.trans hb6.output, Nat.le_trans hb6.size hg7.size, fun k hk => ?_⟩
        rw [hg7.block k (Nat.lt_of_lt_of_le hk hb6.size) (fun e => by have := (ho6.lt k e.symm).1; omega)]
        exact hb6.block k hk
      obtain ⟨g7, n7, c7, rfl, -, hg7a, hg7b⟩ := ho7.formN (by rw [List.length_append, recB_len]; have := recLen_pos r; omega)
      have hR7 := hR5.below hb57
      obtain ⟨w8, hw8⟩ : ∃ w8, w7.setCell ⟨w.heap.size, 2, none⟩ (.slice (some ⟨g7, 0, none⟩) n7 c7) = w8 := ⟨_, rfl⟩
      have k82 : w8.heap[w.heap.size]? = some (.cells (rlC (m.push r) (.slice (some ⟨g7, 0, none⟩) n7 c7) room) 59 (0, 0)) := by rw [← hw8]; exact block_setCell hR7.k2 _
      have ho8 : ∀ q, q ≠ w.heap.size → w8.heap[q]? = w7.heap[q]? := fun q hq => by rw [← hw8, block_setCell_ne _ hq]
      have k84 := (ho8 (w.heap.size + 1 + 1) (by omega)).trans hR7.k4
      obtain ⟨w9, hw9⟩ : ∃ w9, w8.setRow (w.heap.size + 1 + 1) (rlC (m.push r) (.slice (some ⟨g7, 0, none⟩) n7 c7) room) = w9 := ⟨_, rfl⟩
      have k94 : w9.heap[w.heap.size + 1 + 1]? = some (.cells (rlC (m.push r) (.slice (some ⟨g7, 0, none⟩) n7 c7) room) 59 (0, 0)) := by rw [← hw9]; exact setRow_blk k84
      have hb9 : Below w.heap.size w w9 := by
        have h1 := hR7.bl
        refine ⟨by rw [← hw9, ← hw8]; exact h1.os, by rw [← hw9, ← hw8]; exact h1.tape, by rw [← hw9, ← hw8]; exact h1.output, by rw [← hw9, ← hw8]; simpa [World.setRow, World.setCell] using h1.size, fun q hq => ?_⟩
        rw [← hw9, setRow_other (by omega)]
        exact (ho8 q (by omega)).trans (h1.block q hq)
      have hz5 : w.heap.size + 1 + 1 < w5.heap.size := lt_of_block hR5.k4
      have ho9 : OwnB w9 w.heap.size 5 (.slice (some ⟨g7, 0, none⟩) n7 c7) (m.push r).bytes := by
        rw [LM.push_bytes, HV.out.2.2.2]
        refine ownB_same (ownsRow_base ho7 (fun k e => by have := (ho7.lt k e).1; omega)) (fun k e => ?_)
        have h9 := (ho7.lt k e).1
        rw [← hw9, setRow_other (by omega)]
        exact ho8 k (by omega)
      obtain ⟨y0, -, y2, -, -⟩ := box5 hR7.k2
      have f2 : w7.frozen? ⟨w.heap.size, 2, none⟩ = false := by simp [World.frozen?, hR7.k2]
      have x2 : w5.cell? ⟨w.heap.size, 2, none⟩ = some (.slice ba bn bc) := (box5 hR5.k2).2.2.1
      have HR6 := Lib.hid hr6
      have HR7 := Lib.hid hr7
      have K82 := Lib.hid k82
      have K84 := Lib.hid k84
      have K94 := Lib.hid k94
      have HX9 := Lib.hid (And.intro ho9 hb9)
      have h1c := rlC_one (m.push r) (some ⟨g7, 0, none⟩) n7 c7 room
      have H1D := Lib.hid h1c
      clear hb5 hR5 hrd5 hml hr6 ho6 hb6 hR6 hy6 hr7 ho7 hg7 hob7 hnil7 hb57 hg7a hg7b hR7 k82 ho8 k84 k94 hb9 hz5 ho9 h1c y0 z2 z4
      go_wp2_with (first | (at_builtin; refine wpList_append_eq rfl rfl HR6.out rfl rfl ?_; clear HR6) | (at_builtin; refine wpList_append_eq rfl rfl HR7.out rfl rfl ?_; clear HR7) | (refine wpList_load_row rfl _ _ rfl w.heap.size rfl _ _ (0, 0) _ K82.out Try.underlying59 rfl infoRL ?_) | (refine wpList_store_row rfl _ _ _ rfl (w.heap.size + 1 + 1) (rlC (m.push r) (.slice (some ⟨g7, 0, none⟩) n7 c7) room) rfl rfl _ _ K84.out infoRL rfl H1D.out ?_; rw [hw9]) | fail)
      obtain ⟨q0, q1, q2, q3, q4⟩ := box5 K94.out
      refine bodyPost_ret (by simp [results, Try.results25, go_sem, q0, q1, q2, q3, q4]; try rfl) rfl ?_
      refine .inr ⟨HY.out.1, ?_, .slice (some ⟨g7, 0, none⟩) n7 c7, by rw [HV.out.2.2.2]; rfl, HX9.out.1, HX9.out.2⟩
      have h1 := HY.out.2.1
      have h2 := HY.out.2.2.1
      have h3 := HY.out.2.2.2.1
      omega
  · have t0 : (k != 0) = true := by simpa using hk0
    have hkk : (k = 1 ∧ goodR r = false) ∨ (k = 2 ∧ goodR r = true ∧ 1048576 < (bodyR r).length) := by
      rcases HK3.out.2 with h1 | ⟨h1, -⟩
      · exact h1
      · exact absurd h1 hk0
    have HKK := Lib.hid hkk
    clear hkk hk0 z0 z1 z2 z3 z4
    go_wp2_with (first | (refine wpList_load_row rfl _ _ rfl w.heap.size rfl _ _ (0, 0) _ HR3.out.k2 Try.underlying59 rfl infoRL ?_) | (refine wpList_store_row rfl _ _ _ rfl (w.heap.size + 1 + 1) (rlC m (.slice ba bn bc) room) rfl rfl _ _ HR3.out.k4 infoRL rfl H1C.out ?_; rw [hw4]) | fail)
    obtain ⟨q0, q1, q2, q3, q4⟩ := box5 K44.out
    refine bodyPost_ret (by simp [results, Try.results25, go_sem, q0, q1, q2, q3, q4]; try rfl) rfl ?_
    refine .inl ⟨k, rfl, HB4.out, ?_⟩
    rcases HKK.out with h1 | h1
    · exact .inl h1
    · exact .inr (.inl h1)
end Mun
