/- Contracts of a log: Read. -/
import Derived.Test.YtoblajbffnkkiaaLogB
set_option maxRecDepth 100000
set_option linter.unusedVariables false
set_option linter.unusedSimpArgs false
namespace Mun
open Go Go.RowKit
open Go.Proofs

theorem step_store_is {P : Program} {ops : Array Oper} {o : Oper} {a : Act} {w : World} {K : Act → World → Prop} {Q : Exit → Act → World → Prop} {E : Prop} (hgd : o.guard = none) (ty : TypeId) (x y : Operand) (ho : o.op = .store ty x y)
    (g : Nat) (cells : Array Value) (hx : a.eval x = .pointer (some ⟨g, 0, none⟩)) (hy : a.eval y = .agg cells)
    (t : TypeId) (old : Array Value) (hg : w.heap[g]? = some (.cells old t (0, 0))) (hi : (P.info? ty).map (·.size) = some cells.size)
    (hold : old.size = cells.size) (h1 : cells.all (·.oneCell') = true) (h : K (a.put o.dst undef) (w.setRow g cells)) :
    if Region.wanted o (yielded ops a.tmps) = true then Oper.wp P o a w K Q else E := by
  have hw : Region.wanted o (yielded ops a.tmps) = true := by simp [Region.wanted, hgd]
  rw [if_pos hw]
  exact wp_store_row ty x y ho g cells hx hy t old hg hi hold h1 h

theorem yields_load_row {P : Program} {ops : Array Oper} {S : World → Prop} {o : Oper} {a : Act} (hw : Region.wanted o (yielded ops a.tmps) = true) (ty : TypeId) (x : Operand) (ho : o.op = .load ty x)
    (g : Nat) (hx : a.eval x = .pointer (some ⟨g, 0, none⟩)) (t : TypeId) (cs : Array Value) (fr : Nat × Nat) (d : TypeDesc) (hg : ∀ w, S w → w.heap[g]? = some (.cells cs t fr))
    (hu : P.underlying ty = some d) (hd : (match d with | .struct _ | .array _ _ => true | _ => false) = true) (hi : (P.info? ty).map (·.size) = some cs.size) : YieldsIf P ops S o (.agg cs) a := by
  refine .inl ⟨hw, fun w hS => ?_⟩
  unfold execOp
  simp only [ho, hx, Instr.loadAt, Instr.sureAddr, Sem.run_bind, Sem.run_pure, Result.andThen_ok, run_loadVar_row w g t ty cs fr d (hg w hS) hu hd hi]

def ReadNo (w : World) (k : Int) (e : Ending) (w' : World) : Prop := e = .returned (.tuple #[noR, .int .u64 0, .int .i64 k]) ∧ Below w.heap.size w w'
def ReadYes (w : World) (r : PR) (next : Nat) (e : Ending) (w' : World) : Prop := ∃ x, e = .returned (.tuple #[rval r x, .int .u64 next, .int .i64 0]) ∧ RecAt (OldF w.heap.size) w' r x ∧ Below w.heap.size w w'

theorem no_cells {w : World} {b : Nat} {ty : TypeId} (h : w.heap[b]? = some (.cells noCs ty (0, 0))) :
    w.cell? ⟨b, 0, none⟩ = some (.int .i64 0) ∧ w.cell? ⟨b, 1, none⟩ = some (.int .u64 0) ∧ w.cell? ⟨b, 2, none⟩ = some (.int .u64 0) ∧ w.cell? ⟨b, 3, none⟩ = some (.int .u64 0) ∧ w.cell? ⟨b, 4, none⟩ = some (.slice none 0 0) ∧ w.cell? ⟨b, 5, none⟩ = some (.slice none 0 0) :=
  ⟨cell_of_row _ _ 0 _ _ _ h, cell_of_row _ _ 1 _ _ _ h, cell_of_row _ _ 2 _ _ _ h, cell_of_row _ _ 3 _ _ _ h, cell_of_row _ _ 4 _ _ _ h, cell_of_row _ _ 5 _ _ _ h⟩

section
variable (w : World) (D L : Nat) (m : LM) (bv sv : Value)

theorem l_read_end (h : LMem w D L m bv sv) : Calls Try.prog 19 #[.pointer (some ⟨L, 0, none⟩), .int .u64 m.fin] w (ReadNo w 17) := by
  have hb1 : Below w.heap.size w (w.alloc (.cells noCs 26)) := (Below.refl _ _).alloc (Nat.le_refl _) _
  have hen := l_end (h.keep (w' := w.alloc (.cells noCs 26)) (fun k hk => heap_alloc_old _ _ (h.lt k hk)))
  have HE := Lib.hid hen
  clear h hen
  go_enter Try.func19, Try.ntmps19
  go_wp2_with fail
  refine HE.out.mono ?_
  rintro e w2 ⟨rfl, k2, hk2⟩
  have hb2 : Below w.heap.size w w2 := by rw [hk2]; exact below_drewN hb1 k2
  have hbx : w2.heap[w.heap.size]? = some (.cells noCs 26 (0, 0)) := by rw [hk2]; exact heap_alloc_new w _
  have hself := setRow_self w2 w.heap.size _ _ _ hbx
  have HB2 := Lib.hid hb2
  have HBX := Lib.hid hbx
  have HSELF := Lib.hid hself
  clear hb1 hb2 hbx hself hk2
  go_wp2_with (refine wpList_store_row rfl _ _ _ rfl w.heap.size noCs rfl rfl _ _ HBX.out infoR rfl noCs_one ?_; rw [HSELF.out])
  obtain ⟨q0, q1, q2, q3, q4, q5⟩ := no_cells HBX.out
  refine bodyPost_ret (by simp [results, Try.results19, go_sem, q0, q1, q2, q3, q4, q5]; try rfl) rfl ?_
  exact ⟨rfl, HB2.out⟩

theorem l_read_no (lsn : Nat) (h : LMem w D L m bv sv) (hne : lsn ≠ m.fin) (hno : NoRec m lsn) : Calls Try.prog 19 #[.pointer (some ⟨L, 0, none⟩), .int .u64 lsn] w (ReadNo w 1) := by
  have hb1 : Below w.heap.size w (w.alloc (.cells noCs 26)) := (Below.refl _ _).alloc (Nat.le_refl _) _
  have hm1 := h.keep (w' := w.alloc (.cells noCs 26)) (fun k hk => heap_alloc_old _ _ (h.lt k hk))
  have hen := l_end hm1
  have HE := Lib.hid hen
  have HM := Lib.hid h
  have HNO := Lib.hid hno
  have q1 : ((lsn : Int) == (m.fin : Int)) = false := by simp; omega
  clear h hen hm1 hne hno
  go_enter Try.func19, Try.ntmps19
  go_wp2_with fail
  refine HE.out.mono ?_
  rintro e w2 ⟨rfl, k2, hk2⟩
  have hb2 : Below w.heap.size w w2 := by rw [hk2]; exact below_drewN hb1 k2
  have hbx : w2.heap[w.heap.size]? = some (.cells noCs 26 (0, 0)) := by rw [hk2]; exact heap_alloc_new w _
  have hha := l_has_no w2 D L m bv sv lsn (HM.out.keep (fun k hk => hb2.block k (HM.out.lt k hk))) HNO.out
  have HHA := Lib.hid hha
  have HBB := Lib.hid (And.intro hb2 hbx)
  clear hb1 hb2 hbx hha hk2
  go_wp2_with fail
  refine HHA.out.mono ?_
  rintro e w3 ⟨rfl, k3, hk3⟩
  have hb3 : Below w.heap.size w w3 := by rw [hk3]; exact below_drewN HBB.out.1 k3
  have hbx : w3.heap[w.heap.size]? = some (.cells noCs 26 (0, 0)) := by rw [hk3]; exact HBB.out.2
  have hself := setRow_self w3 w.heap.size _ _ _ hbx
  have HB2 := Lib.hid hb3
  have HBX := Lib.hid hbx
  have HSELF := Lib.hid hself
  clear hb3 hbx hself hk3
  go_wp2_with (refine wpList_store_row rfl _ _ _ rfl w.heap.size noCs rfl rfl _ _ HBX.out infoR rfl noCs_one ?_; rw [HSELF.out])
  obtain ⟨q0, q1, q2, q3, q4, q5⟩ := no_cells HBX.out
  refine bodyPost_ret (by simp [results, Try.results19, go_sem, q0, q1, q2, q3, q4, q5]; try rfl) rfl ?_
  exact ⟨rfl, HB2.out⟩

set_option maxHeartbeats 500000 in
theorem l_read_yes (i : Nat) (h : LMem w D L m bv sv) (hi : i < m.recs.length) : Calls Try.prog 19 #[.pointer (some ⟨L, 0, none⟩), .int .u64 (m.base + m.off i : Nat)] w (ReadYes w m.recs[i] (m.base + m.off (i + 1))) := by
  have hb1 : Below w.heap.size w (w.alloc (.cells noCs 26)) := (Below.refl _ _).alloc (Nat.le_refl _) _
  have hm1 := h.keep (w' := w.alloc (.cells noCs 26)) (fun k hk => heap_alloc_old _ _ (h.lt k hk))
  have hen := l_end hm1
  obtain ⟨ba, bn, bc, sa, sn, sc, rfl, rfl, HN⟩ := h.forms
  have hlt := lenL_take_lt m.recs (i := i) (j := m.recs.length) hi hi
  rw [List.take_length] at hlt
  have hok : RecOk m.recs[i] := h.wf.recs _ (List.getElem_mem hi)
  have hdrop := encL_drop m.recs m.base i hi
  have hnx : m.off (i + 1) = m.off i + 8 + (bodyR m.recs[i]).length := by have := lenL_take_succ m.recs i hi; unfold LM.off recLen at *; omega
  have hpart := rec_parts m.bytes (m.off i) m.recs[i] (m.base + m.off i) _ hdrop hok.big
  have hoff : m.off i ≤ 16777216 := Nat.le_trans (lenL_take_le _ _) h.wf.len
  have hoff2 : m.off (i + 1) ≤ 16777216 := Nat.le_trans (lenL_take_le _ _) h.wf.len
  have hbase := h.wf.base
  have hfin : m.base + m.off i < m.fin := by unfold LM.fin LM.off; omega
  obtain ⟨r, hr⟩ : ∃ r, m.recs[i] = r := ⟨_, rfl⟩
  obtain ⟨o, ho⟩ : ∃ o, m.off i = o := ⟨_, rfl⟩
  obtain ⟨s, hs⟩ : ∃ s, (bodyR r).length = s := ⟨_, rfl⟩
  have HI := Lib.hid hi
  have HO := Lib.hid ho
  have HR := Lib.hid hr
  rw [hr] at hok hnx hpart ⊢
  rw [ho] at hnx hpart hoff hfin ⊢
  rw [hnx] at hoff2 ⊢
  rw [hs] at hnx hpart hoff2 ⊢
  have HE := Lib.hid hen
  have HM := Lib.hid h
  have HOK := Lib.hid hok
  have HP := Lib.hid hpart
  have HS := Lib.hid hs
  obtain ⟨lsn, hlsn⟩ : ∃ lsn, m.base + o = lsn := ⟨_, rfl⟩
  have hl1 : lsn < 18446744073709551616 := by omega
  have HLS := Lib.hid hlsn
  have q1 : ((lsn : Int) == (m.fin : Int)) = false := by simp; omega
  have u1 : IntKind.u64.wrap ((lsn : Int) - (m.base : Int)) = (o : Int) := by
    rw [show ((lsn : Int) - (m.base : Int)) = (o : Int) by omega]; exact wrap_u64_nat _ (by omega)
  have u2 : IntKind.i64.wrap (o : Int) = (o : Int) := by rw [IntKind.wrap_i64]; omega
  have u3 : IntKind.u64.wrap ((o : Int) + 8 + (s : Int)) = (o : Int) + 8 + (s : Int) := by
    have := wrap_u64_nat (o + 8 + s) (by omega)
    push_cast at this
    exact this
  have u4 : IntKind.u64.wrap ((m.base : Int) + ((o : Int) + 8 + (s : Int))) = (m.base : Int) + ((o : Int) + 8 + (s : Int)) := by
    have := wrap_u64_nat (m.base + (o + 8 + s)) (by omega)
    push_cast at this
    exact this
  have HU := Lib.hid (And.intro u1 (And.intro u2 (And.intro u3 u4)))
  rw [hlsn]
  have o0 : (0 : Int) ≤ (o : Int) := by omega
  have o1 : (o : Int) ≤ 16777216 := by omega
  have HL1 := Lib.hid hl1
  clear h hen hm1 hlt hok hdrop hnx hpart hoff hoff2 hbase hfin hr ho hs hlsn u1 u2 u3 u4 hl1
  go_enter Try.func19, Try.ntmps19
  go_wp2_with fail
  refine HE.out.mono ?_
  rintro e w2 ⟨rfl, k2, hk2⟩
  have hb2 : Below w.heap.size w w2 := by rw [hk2]; exact below_drewN hb1 k2
  have hbx : w2.heap[w.heap.size]? = some (.cells noCs 26 (0, 0)) := by rw [hk2]; exact heap_alloc_new w _
  have hm2 : LMem w2 D L m (.slice ba bn bc) (.slice sa sn sc) := HM.out.keep (fun k hk => hb2.block k (HM.out.lt k hk))
  have hha := l_has_yes w2 D L m _ _ lsn i hm2 HI.out (by rw [HO.out, HLS.out])
  have HHA := Lib.hid hha
  have HBB := Lib.hid (And.intro hb2 (And.intro hbx hm2))
  clear hb1 hb2 hbx hha hk2 hm2
  go_wp2_with fail
  refine HHA.out.mono ?_
  rintro e w3 ⟨rfl, k3, hk3⟩
  have hb3 : Below w.heap.size w w3.drew := by rw [hk3]; exact below_drewN (below_drewN HBB.out.1 k3) 1
  have hbx : w3.drew.heap[w.heap.size]? = some (.cells noCs 26 (0, 0)) := by rw [hk3]; exact HBB.out.2.1
  have hm3 : LMem w3.drew D L m (.slice ba bn bc) (.slice sa sn sc) := by rw [hk3]; exact HBB.out.2.2.keep (fun k hk => rfl)
  have c1 : w3.drew.cell? ⟨L, 1, none⟩ = some (.int .u64 m.base) := hm3.cell 1
  have c2 : w3.drew.cell? ⟨L, 2, none⟩ = some (.slice ba bn bc) := hm3.cell 2
  have hS0 : w3.drew.cell? ⟨L, 1, none⟩ = some (.int .u64 m.base) ∧ w3.drew.cell? ⟨L, 2, none⟩ = some (.slice ba bn bc) := ⟨c1, c2⟩
  have hlen : leNat ((m.bytes.drop o).take 4) = s := by have := HP.out.1; exact this
  have hbd := body_ok' w3.drew _ m.bytes o lsn r HOK.out.good HOK.out.tx HOK.out.prev HOK.out.next (OwnB.rd (F := NoF) hm3.b (fun _ _ => noF _)) HL1.out
    (by rw [hlen]; exact HP.out.2.2.2) (by rw [hlen, ← HS.out]; exact HOK.out.big) (by
      rw [hlen, HP.out.2.1, ← HS.out, HLS.out]
      have h9 := HP.out.2.2.1
      rw [← HS.out] at h9
      rw [h9]
      exact ⟨rfl, rfl⟩)
  rw [hlen] at hbd
  have HBD := Lib.hid hbd
  have HB3 := Lib.hid (And.intro hb3 (And.intro hbx hm3))
  have HK3 := Lib.hid hk3
  have v1 := HU.out.1
  have v2 := HU.out.2.1
  clear hb3 hbx hm3 c1 c2 hlen hbd hk3 HHA
  go_upto_region 5 with (fail)
  refine wp_region_U (fun W => W.cell? ⟨L, 1, none⟩ = some (.int .u64 m.base) ∧ W.cell? ⟨L, 2, none⟩ = some (.slice ba bn bc)) [] (by kernel_rfl) ?_
  refine wpAnyU_take (i := 0) [1, 2, 3, 12, 13, 14, 15, 16, 17, 18, 19] rfl (by kernel_rfl) (by kernel_rfl) (by kernel_rfl) (by kernel_rfl) (by kernel_rfl) (by kernel_rfl) (fun _ _ _ h => h) (Or.inl ⟨by rfl, (by intro W hSW; (try dsimp only at hSW); (try go_split_ands); go_simp <;> with_reducible rfl)⟩) hS0 ?_
  try simp only [Act.put, List.getElem_toArray, List.getElem_cons_succ, List.getElem_cons_zero, List.setIfInBounds_toArray, List.set_cons_zero, List.set_cons_succ]
  refine wpAnyU_take (i := 1) [2, 3, 12, 13, 14, 15, 16, 17, 18, 19] rfl (by kernel_rfl) (by kernel_rfl) (by kernel_rfl) (by kernel_rfl) (by kernel_rfl) (by kernel_rfl) (fun _ _ _ h => h) (Or.inl ⟨by rfl, (by intro W hSW; (try dsimp only at hSW); (try go_split_ands); go_simp <;> with_reducible rfl)⟩) hS0 ?_
  try simp only [Act.put, List.getElem_toArray, List.getElem_cons_succ, List.getElem_cons_zero, List.setIfInBounds_toArray, List.set_cons_zero, List.set_cons_succ]
  refine wpAnyU_take (i := 2) [3, 12, 13, 14, 15, 16, 17, 18, 19] rfl (by kernel_rfl) (by kernel_rfl) (by kernel_rfl) (by kernel_rfl) (by kernel_rfl) (by kernel_rfl) (fun _ _ _ h => h) (Or.inl ⟨by rfl, (by intro W hSW; (try dsimp only at hSW); (try go_split_ands); go_simp <;> with_reducible rfl)⟩) hS0 ?_
  try simp only [Act.put, List.getElem_toArray, List.getElem_cons_succ, List.getElem_cons_zero, List.setIfInBounds_toArray, List.set_cons_zero, List.set_cons_succ]
  refine wpAnyU_take (i := 3) [12, 13, 14, 15, 16, 17, 18, 19] rfl (by kernel_rfl) (by kernel_rfl) (by kernel_rfl) (by kernel_rfl) (by kernel_rfl) (by kernel_rfl) (fun _ _ _ h => h) (Or.inl ⟨by rfl, (by intro W hSW; (try dsimp only at hSW); (try go_split_ands); go_simp <;> with_reducible rfl)⟩) hS0 ?_
  try simp only [Act.put, List.getElem_toArray, List.getElem_cons_succ, List.getElem_cons_zero, List.setIfInBounds_toArray, List.set_cons_zero, List.set_cons_succ]
  refine wpAnyU_take (i := 4) [9, 10, 12, 13, 14, 15, 16, 17, 18, 19] rfl (by kernel_rfl) (by kernel_rfl) (by kernel_rfl) (by kernel_rfl) (by kernel_rfl) (by kernel_rfl) (fun _ _ _ h => h) (Or.inl ⟨by rfl, (by intro W hSW; (try dsimp only at hSW); (try go_split_ands); go_simp <;> with_reducible rfl)⟩) hS0 ?_
  try simp only [Act.put, List.getElem_toArray, List.getElem_cons_succ, List.getElem_cons_zero, List.setIfInBounds_toArray, List.set_cons_zero, List.set_cons_succ]
  refine wpAnyU_take (i := 5) [6, 7, 8, 9, 10, 12, 13, 14, 15, 16, 17, 18, 19] rfl (by kernel_rfl) (by kernel_rfl) (by kernel_rfl) (by kernel_rfl) (by kernel_rfl) (by kernel_rfl) (fun _ _ _ h => h) (Or.inl ⟨by rfl, (by intro W hSW; (try dsimp only at hSW); (try go_split_ands); go_simp <;> with_reducible rfl)⟩) hS0 ?_
  try simp only [Act.put, List.getElem_toArray, List.getElem_cons_succ, List.getElem_cons_zero, List.setIfInBounds_toArray, List.set_cons_zero, List.set_cons_succ]
  refine wpAnyU_take (i := 6) [7, 8, 9, 10, 12, 13, 14, 15, 16, 17, 18, 19] rfl (by kernel_rfl) (by kernel_rfl) (by kernel_rfl) (by kernel_rfl) (by kernel_rfl) (by kernel_rfl) (fun _ _ _ h => h) (Or.inl ⟨by rfl, (by intro W hSW; (try dsimp only at hSW); (try go_split_ands); go_simp <;> with_reducible rfl)⟩) hS0 ?_
  try simp only [Act.put, List.getElem_toArray, List.getElem_cons_succ, List.getElem_cons_zero, List.setIfInBounds_toArray, List.set_cons_zero, List.set_cons_succ]
  refine wpAnyU_take (i := 7) [8, 9, 10, 12, 13, 14, 15, 16, 17, 18, 19] rfl (by kernel_rfl) (by kernel_rfl) (by kernel_rfl) (by kernel_rfl) (by kernel_rfl) (by kernel_rfl) (fun _ _ _ h => h) (Or.inl ⟨by rfl, (by intro W hSW; (try dsimp only at hSW); (try go_split_ands); go_simp <;> with_reducible rfl)⟩) hS0 ?_
  try simp only [Act.put, List.getElem_toArray, List.getElem_cons_succ, List.getElem_cons_zero, List.setIfInBounds_toArray, List.set_cons_zero, List.set_cons_succ]
  refine wpAnyU_take (i := 8) [9, 10, 12, 13, 14, 15, 16, 17, 18, 19] rfl (by kernel_rfl) (by kernel_rfl) (by kernel_rfl) (by kernel_rfl) (by kernel_rfl) (by kernel_rfl) (fun _ _ _ h => h) (Or.inl ⟨by rfl, (by intro W hSW; (try dsimp only at hSW); (try go_split_ands); go_simp <;> with_reducible rfl)⟩) hS0 ?_
  try simp only [Act.put, List.getElem_toArray, List.getElem_cons_succ, List.getElem_cons_zero, List.setIfInBounds_toArray, List.set_cons_zero, List.set_cons_succ]
  refine wpAnyU_take (i := 9) [10, 12, 13, 14, 15, 16, 17, 18, 19] rfl (by kernel_rfl) (by kernel_rfl) (by kernel_rfl) (by kernel_rfl) (by kernel_rfl) (by kernel_rfl) (fun _ _ _ h => h) (Or.inl ⟨by rfl, (by intro W hSW; (try dsimp only at hSW); (try go_split_ands); go_simp <;> with_reducible rfl)⟩) hS0 ?_
  try simp only [Act.put, List.getElem_toArray, List.getElem_cons_succ, List.getElem_cons_zero, List.setIfInBounds_toArray, List.set_cons_zero, List.set_cons_succ]
  refine wpAnyU_take (i := 10) [12, 13, 14, 15, 16, 17, 18, 19] rfl (by kernel_rfl) (by kernel_rfl) (by kernel_rfl) (by kernel_rfl) (by kernel_rfl) (by kernel_rfl) (fun _ _ _ h => h) (Or.inl ⟨by rfl, (by intro W hSW; (try dsimp only at hSW); (try go_split_ands); go_simp <;> with_reducible rfl)⟩) hS0 ?_
  try simp only [Act.put, List.getElem_toArray, List.getElem_cons_succ, List.getElem_cons_zero, List.setIfInBounds_toArray, List.set_cons_zero, List.set_cons_succ]
  refine wpAnyU_take (i := 11) [12, 13, 14, 15, 16, 17, 18, 19] rfl (by kernel_rfl) (by kernel_rfl) (by kernel_rfl) (by kernel_rfl) (by kernel_rfl) (by kernel_rfl) (fun _ _ _ h => h) (Or.inl ⟨by rfl, (by intro W hSW; (try dsimp only at hSW); (try go_split_ands); go_simp <;> with_reducible rfl)⟩) hS0 ?_
  try simp only [Act.put, List.getElem_toArray, List.getElem_cons_succ, List.getElem_cons_zero, List.setIfInBounds_toArray, List.set_cons_zero, List.set_cons_succ]
  refine wpAnyU_one (i := 12) (by kernel_rfl) rfl (fun K hK => ?_)
  go_simp
  go_at_call 11
  (with_reducible refine HBD.out.mono ?_)
  rintro e w4 ⟨x2, rfl, hrec, hb4⟩
  obtain ⟨da, dn, dc, ca, cn, cc, e1, e2, -⟩ := hrec.open
  unfold rval
  rw [e1, e2]
  have hbw4 := HB3.out.1.trans (hb4.mono HB3.out.1.size)
  have hz3 : w.heap.size < w3.drew.heap.size := lt_of_block HB3.out.2.1
  have k4 : w4.heap[w.heap.size]? = some (.cells noCs 26 (0, 0)) := (hb4.block _ hz3).trans HB3.out.2.1
  have hm4 : LMem w4 D L m (.slice ba bn bc) (.slice sa sn sc) := HB3.out.2.2.keep (fun k hk => hb4.block k (HB3.out.2.2.lt k hk))
  have hS4 : w4.cell? ⟨L, 1, none⟩ = some (.int .u64 m.base) ∧ w4.cell? ⟨L, 2, none⟩ = some (.slice ba bn bc) := ⟨hm4.cell 1, hm4.cell 2⟩
  obtain ⟨w5, hw5⟩ : ∃ w5, w4.setRow w.heap.size (rcs r (.slice da dn dc) (.slice ca cn cc)) = w5 := ⟨_, rfl⟩
  have k5 : w5.heap[w.heap.size]? = some (.cells (rcs r (.slice da dn dc) (.slice ca cn cc)) 26 (0, 0)) := by rw [← hw5]; exact setRow_blk k4
  have hm5 : LMem w5 D L m (.slice ba bn bc) (.slice sa sn sc) := hm4.keep (fun k hk => by rw [← hw5]; exact setRow_other (fun e => by have := HM.out.lt k hk; omega))
  have hS5 : w5.cell? ⟨L, 1, none⟩ = some (.int .u64 m.base) ∧ w5.cell? ⟨L, 2, none⟩ = some (.slice ba bn bc) := ⟨hm5.cell 1, hm5.cell 2⟩
  have h1c : (rcs r (.slice da dn dc) (.slice ca cn cc)).all (·.oneCell') = true := by simp [rcs, Value.oneCell']
  have hs5 : w5.heap.size = w4.heap.size := by rw [← hw5]; simp [World.setRow]
  have hrec5 : RecAt (OldF w.heap.size) w5 r x2 := hrec.keep (fun k hk hn => by rw [← hw5]; exact setRow_other (fun e => hn (by unfold OldF; omega))) (fun k hk h => by unfold OldF at *; have h9 := HB3.out.1.size; omega)
  have hb5 : Below w.heap.size w w5 := ⟨by rw [← hw5]; exact hbw4.os, by rw [← hw5]; exact hbw4.tape, by rw [← hw5]; exact hbw4.output, by rw [hs5]; exact hbw4.size, fun k hk => by rw [← hw5, setRow_other (by omega)]; exact hbw4.block k hk⟩
  have HK4 := Lib.hid k4
  have H1C := Lib.hid h1c
  have HW5 := Lib.hid hw5
  have HK5 := Lib.hid k5
  have HX5 := Lib.hid (And.intro hrec5 (And.intro hb5 hm5))
  have HXE := Lib.hid (And.intro e1 e2)
  clear hrec hb4 e1 e2 hbw4 hz3 k4 hm4 hw5 k5 hm5 h1c hs5 hrec5 hb5 HBD
  refine hK.out _ _ (fun _ => hS4) (fun _ => ?_)
  clear hK K
  try simp only [Act.put, List.getElem_toArray, List.getElem_cons_succ, List.getElem_cons_zero, List.setIfInBounds_toArray, List.set_cons_zero, List.set_cons_succ]
  refine wpAnyU_take (i := 13) [14, 15, 16, 17, 18, 19] rfl (by kernel_rfl) (by kernel_rfl) (by kernel_rfl) (by kernel_rfl) (by kernel_rfl) (by kernel_rfl) (fun _ _ _ h => h) (Or.inl ⟨by rfl, (by intro W hSW; (try dsimp only at hSW); (try go_split_ands); go_simp <;> with_reducible rfl)⟩) hS4 ?_
  try simp only [Act.put, List.getElem_toArray, List.getElem_cons_succ, List.getElem_cons_zero, List.setIfInBounds_toArray, List.set_cons_zero, List.set_cons_succ]
  refine wpAnyU_take (i := 14) [17, 18, 19] rfl (by kernel_rfl) (by kernel_rfl) (by kernel_rfl) (by kernel_rfl) (by kernel_rfl) (by kernel_rfl) (fun _ _ _ h => h) (Or.inl ⟨by rfl, (by intro W hSW; (try dsimp only at hSW); (try go_split_ands); go_simp <;> with_reducible rfl)⟩) hS4 ?_
  try simp only [Act.put, List.getElem_toArray, List.getElem_cons_succ, List.getElem_cons_zero, List.setIfInBounds_toArray, List.set_cons_zero, List.set_cons_succ]
  refine wpAnyU_take (i := 15) [18, 19] rfl (by kernel_rfl) (by kernel_rfl) (by kernel_rfl) (by kernel_rfl) (by kernel_rfl) (by kernel_rfl) (fun _ _ _ h => h) (Or.inl ⟨by rfl, (by intro W hSW; (try dsimp only at hSW); (try go_split_ands); go_simp <;> with_reducible rfl)⟩) hS4 ?_
  try simp only [Act.put, List.getElem_toArray, List.getElem_cons_succ, List.getElem_cons_zero, List.setIfInBounds_toArray, List.set_cons_zero, List.set_cons_succ]
  refine wpAnyU_take (i := 16) [19] rfl (by kernel_rfl) (by kernel_rfl) (by kernel_rfl) (by kernel_rfl) (by kernel_rfl) (by kernel_rfl) (fun _ _ _ h => h) (Or.inl ⟨by rfl, (by intro W hSW; (try dsimp only at hSW); (try go_split_ands); go_simp <;> with_reducible rfl)⟩) hS4 ?_
  try simp only [Act.put, List.getElem_toArray, List.getElem_cons_succ, List.getElem_cons_zero, List.setIfInBounds_toArray, List.set_cons_zero, List.set_cons_succ]
  refine wpAnyU_one (i := 17) (by kernel_rfl) rfl (fun K hK => ?_)
  refine step_store_is rfl _ _ _ rfl w.heap.size (rcs r (.slice da dn dc) (.slice ca cn cc)) rfl rfl _ _ HK4.out infoR rfl H1C.out ?_
  rw [HW5.out]
  refine hK.out _ _ (fun _ => hS5) (fun _ => ?_)
  clear hK K
  try simp only [Act.put, List.getElem_toArray, List.getElem_cons_succ, List.getElem_cons_zero, List.setIfInBounds_toArray, List.set_cons_zero, List.set_cons_succ]
  refine wpAnyU_take (i := 18) [19] rfl (by kernel_rfl) (by kernel_rfl) (by kernel_rfl) (by kernel_rfl) (by kernel_rfl) (by kernel_rfl) (fun _ _ _ h => h) (Or.inl ⟨by rfl, (by intro W hSW; (try dsimp only at hSW); (try go_split_ands); go_simp <;> with_reducible rfl)⟩) hS5 ?_
  try simp only [Act.put, List.getElem_toArray, List.getElem_cons_succ, List.getElem_cons_zero, List.setIfInBounds_toArray, List.set_cons_zero, List.set_cons_succ]
  refine wpAnyU_take (i := 19) [] rfl (by kernel_rfl) (by kernel_rfl) (by kernel_rfl) (by kernel_rfl) (by kernel_rfl) (by kernel_rfl) (fun _ _ _ h => h) (Or.inl ⟨by rfl, (by intro W hSW; (try dsimp only at hSW); (try go_split_ands); go_simp <;> with_reducible rfl)⟩) hS5 ?_
  try simp only [Act.put, List.getElem_toArray, List.getElem_cons_succ, List.getElem_cons_zero, List.setIfInBounds_toArray, List.set_cons_zero, List.set_cons_succ]
  refine wpAnyU_done (by kernel_rfl) ?_ _
  have hT0 : w5.drew.cell? ⟨L, 1, none⟩ = some (.int .u64 m.base) ∧ w5.drew.heap[w.heap.size]? = some (.cells (rcs r (.slice da dn dc) (.slice ca cn cc)) 26 (0, 0)) := ⟨hS5.1, HK5.out⟩
  have v3 := HU.out.2.2.1
  have v4 := HU.out.2.2.2
  clear hS0 hS4 hS5 v1 v2
  go_upto_region 8 with (fail)
  refine wp_region_U (fun W => W.cell? ⟨L, 1, none⟩ = some (.int .u64 m.base) ∧ W.heap[w.heap.size]? = some (.cells (rcs r (.slice da dn dc) (.slice ca cn cc)) 26 (0, 0))) [] (by kernel_rfl) ?_
  refine wpAnyU_take (i := 0) [8, 9, 10] rfl (by kernel_rfl) (by kernel_rfl) (by kernel_rfl) (by kernel_rfl) (by kernel_rfl) (by kernel_rfl) (fun _ _ _ h => h) (yields_load_row (by rfl) _ _ rfl w.heap.size rfl _ _ (0, 0) _ (fun W hS => hS.2) Try.underlying26 rfl infoR) hT0 ?_
  try simp only [Act.put, List.getElem_toArray, List.getElem_cons_succ, List.getElem_cons_zero, List.setIfInBounds_toArray, List.set_cons_zero, List.set_cons_succ]
  refine wpAnyU_take (i := 1) [2, 3, 4, 7, 9, 10] rfl (by kernel_rfl) (by kernel_rfl) (by kernel_rfl) (by kernel_rfl) (by kernel_rfl) (by kernel_rfl) (fun _ _ _ h => h) (Or.inl ⟨by rfl, (by intro W hSW; (try dsimp only at hSW); (try go_split_ands); go_simp <;> with_reducible rfl)⟩) hT0 ?_
  try simp only [Act.put, List.getElem_toArray, List.getElem_cons_succ, List.getElem_cons_zero, List.setIfInBounds_toArray, List.set_cons_zero, List.set_cons_succ]
  refine wpAnyU_take (i := 2) [3, 4, 7, 9, 10] rfl (by kernel_rfl) (by kernel_rfl) (by kernel_rfl) (by kernel_rfl) (by kernel_rfl) (by kernel_rfl) (fun _ _ _ h => h) (Or.inl ⟨by rfl, (by intro W hSW; (try dsimp only at hSW); (try go_split_ands); go_simp <;> with_reducible rfl)⟩) hT0 ?_
  try simp only [Act.put, List.getElem_toArray, List.getElem_cons_succ, List.getElem_cons_zero, List.setIfInBounds_toArray, List.set_cons_zero, List.set_cons_succ]
  refine wpAnyU_take (i := 3) [4, 7, 9, 10] rfl (by kernel_rfl) (by kernel_rfl) (by kernel_rfl) (by kernel_rfl) (by kernel_rfl) (by kernel_rfl) (fun _ _ _ h => h) (Or.inl ⟨by rfl, (by intro W hSW; (try dsimp only at hSW); (try go_split_ands); go_simp <;> with_reducible rfl)⟩) hT0 ?_
  try simp only [Act.put, List.getElem_toArray, List.getElem_cons_succ, List.getElem_cons_zero, List.setIfInBounds_toArray, List.set_cons_zero, List.set_cons_succ]
  refine wpAnyU_take (i := 4) [7, 9, 10] rfl (by kernel_rfl) (by kernel_rfl) (by kernel_rfl) (by kernel_rfl) (by kernel_rfl) (by kernel_rfl) (fun _ _ _ h => h) (Or.inl ⟨by rfl, (by intro W hSW; (try dsimp only at hSW); (try go_split_ands); go_simp <;> with_reducible rfl)⟩) hT0 ?_
  try simp only [Act.put, List.getElem_toArray, List.getElem_cons_succ, List.getElem_cons_zero, List.setIfInBounds_toArray, List.set_cons_zero, List.set_cons_succ]
  refine wpAnyU_take (i := 5) [6, 7, 9, 10] rfl (by kernel_rfl) (by kernel_rfl) (by kernel_rfl) (by kernel_rfl) (by kernel_rfl) (by kernel_rfl) (fun _ _ _ h => h) (Or.inl ⟨by rfl, (by intro W hSW; (try dsimp only at hSW); (try go_split_ands); go_simp <;> with_reducible rfl)⟩) hT0 ?_
  try simp only [Act.put, List.getElem_toArray, List.getElem_cons_succ, List.getElem_cons_zero, List.setIfInBounds_toArray, List.set_cons_zero, List.set_cons_succ]
  refine wpAnyU_take (i := 6) [7, 9, 10] rfl (by kernel_rfl) (by kernel_rfl) (by kernel_rfl) (by kernel_rfl) (by kernel_rfl) (by kernel_rfl) (fun _ _ _ h => h) (Or.inl ⟨by rfl, (by intro W hSW; (try dsimp only at hSW); (try go_split_ands); go_simp <;> with_reducible rfl)⟩) hT0 ?_
  try simp only [Act.put, List.getElem_toArray, List.getElem_cons_succ, List.getElem_cons_zero, List.setIfInBounds_toArray, List.set_cons_zero, List.set_cons_succ]
  refine wpAnyU_take (i := 7) [9, 10] rfl (by kernel_rfl) (by kernel_rfl) (by kernel_rfl) (by kernel_rfl) (by kernel_rfl) (by kernel_rfl) (fun _ _ _ h => h) (Or.inl ⟨by rfl, (by intro W hSW; (try dsimp only at hSW); (try go_split_ands); go_simp <;> with_reducible rfl)⟩) hT0 ?_
  try simp only [Act.put, List.getElem_toArray, List.getElem_cons_succ, List.getElem_cons_zero, List.setIfInBounds_toArray, List.set_cons_zero, List.set_cons_succ]
  refine wpAnyU_one (i := 8) (by kernel_rfl) rfl (fun K hK => ?_)
  refine step_store_is rfl _ _ _ rfl w.heap.size (rcs r (.slice da dn dc) (.slice ca cn cc)) rfl rfl _ _ hT0.2 infoR rfl H1C.out ?_
  rw [setRow_self _ _ _ _ _ hT0.2]
  refine hK.out _ _ (fun _ => hT0) (fun _ => ?_)
  clear hK K
  try simp only [Act.put, List.getElem_toArray, List.getElem_cons_succ, List.getElem_cons_zero, List.setIfInBounds_toArray, List.set_cons_zero, List.set_cons_succ]
  refine wpAnyU_take (i := 9) [10] rfl (by kernel_rfl) (by kernel_rfl) (by kernel_rfl) (by kernel_rfl) (by kernel_rfl) (by kernel_rfl) (fun _ _ _ h => h) (Or.inl ⟨by rfl, (by intro W hSW; (try dsimp only at hSW); (try go_split_ands); go_simp <;> with_reducible rfl)⟩) hT0 ?_
  try simp only [Act.put, List.getElem_toArray, List.getElem_cons_succ, List.getElem_cons_zero, List.setIfInBounds_toArray, List.set_cons_zero, List.set_cons_succ]
  refine wpAnyU_take (i := 10) [] rfl (by kernel_rfl) (by kernel_rfl) (by kernel_rfl) (by kernel_rfl) (by kernel_rfl) (by kernel_rfl) (fun _ _ _ h => h) (Or.inl ⟨by rfl, (by intro W hSW; (try dsimp only at hSW); (try go_split_ands); go_simp <;> with_reducible rfl)⟩) hT0 ?_
  try simp only [Act.put, List.getElem_toArray, List.getElem_cons_succ, List.getElem_cons_zero, List.setIfInBounds_toArray, List.set_cons_zero, List.set_cons_succ]
  refine wpAnyU_done (by kernel_rfl) ?_ _
  obtain ⟨q0, q2, q3, q4, q5, q6⟩ := box6 (w := w) HK5.out
  clear hT0 v3 v4
  go_wp2
  refine bodyPost_ret (by simp [results, Try.results19, go_sem, q0, q2, q3, q4, q5, q6]; try rfl) rfl ?_
  exact ⟨x2, by unfold rval; rw [HXE.out.1, HXE.out.2]; push_cast; rfl, HX5.out.1.drewN 1, below_drewN HX5.out.2.1 1⟩
end
end Mun
