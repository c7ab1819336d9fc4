/- Texts of mine, one behind the other: LockFr, TbMp. -/
import Derived.Test.YtbdkhegfmnladaaMgG
import Derived.Deep.CutBlock
import Derived.Deep.DeepCutAuto
import Derived.Outline
import Derived.Test.YtbdkhegfmnladaaMgH
section
/- Free of an owner that holds one name, and does not wait. -/
set_option maxRecDepth 100000
set_option linter.unusedVariables false
set_option linter.unusedSimpArgs false
namespace Mun
open Go Go.RowKit
open Go.Proofs

theorem kdel_none {κ β : Type} [DecidableEq κ] : ∀ {l : List (κ × β)} {k : κ}, klook l k = none → kdel l k = l
  | [], k, _ => rfl
  | a :: l, k, h => by
    rw [klook_cons] at h
    by_cases e : a.1 = k
    · rw [if_pos e] at h; cases h
    · rw [if_neg e] at h
      simp only [kdel, e, if_false]
      rw [kdel_none h]

theorem nil80s (M : Nat) (W : World) : (binOp .eql 80 (.map (some M)) (.map none)).run Try.prog W = .ok (.bool false) W := by
  kernel_rfl
theorem infoG : (Try.prog.info? 33).map (·.size) = some 2 := by kernel_rfl
theorem infoK : (Try.prog.info? 77).map (·.size) = some 2 := by kernel_rfl

theorem step_store_is2 {P : Program} {ops : Array Oper} {o : Oper} {a : Act} {w : World} {K : Act → World → Prop} {Q : Exit → Act → World → Prop} {E : Prop} (hgd : o.guard = none) (ty : TypeId) (x y : Operand) (ho : o.op = .store ty x y)
    (g : Nat) (cells : Array Value) (hx : a.eval x = .pointer (some ⟨g, 0, none⟩)) (hy : a.eval y = .agg cells)
    (t : TypeId) (old : Array Value) (hg : w.heap[g]? = some (.cells old t (0, 0))) (hi : (P.info? ty).map (·.size) = some cells.size)
    (hold : old.size = cells.size) (h1 : cells.all (·.oneCell') = true) (h : K (a.put o.dst undef) (w.setRow g cells)) :
    if Region.wanted o (yielded ops a.tmps) = true then Oper.wp P o a w K Q else E := by
  have hw : Region.wanted o (yielded ops a.tmps) = true := by simp [Region.wanted, hgd]
  rw [if_pos hw]
  exact wp_store_row ty x y ho g cells hx hy t old hg hi hold h1 h

/-- what Free has done to a table -/
def freeT (t : TV) (i : Nat) (s : ByteArray) (x : PV) (q : Value) (hs qs : List (Int × Int)) (ws : List (Int × (ByteArray × Int))) (nm : List (Int × (Nat × List ByteArray))) : TV :=
  { t with pl := t.pl.set i (s, { x with q := q, hs := hs, qs := qs }), ws := ws, nm := nm }
/-- within its loop: some are popped -/
structure FreeMid (W0 : World) (t : TV) (i : Nat) (s : ByteArray) (x : PV) (o : Int) (pre : List (Int × Int)) (wr : World) (ov_ : Value) (q : Value) (hs cur : List (Int × Int)) (ws : List (Int × (ByteArray × Int))) (nm : List (Int × (Nat × List ByteArray))) : Prop where
  tab : TabL W0 wr (freeT t i s x q hs cur ws nm)
  pop : popQ (kdel x.hs o) x.qs = ((popQ hs cur).1, (popQ hs cur).2.1, pre ++ (popQ hs cur).2.2)
  all : pre ++ cur = x.qs
  ws : ws = wsPop pre t.ws
  nm : ∀ u, nmGet nm u = nmPop s pre (nmGet (kdel t.nm o)) u
  row : wr.ownsRow W0.heap.size 29 1 ov_ pre.length (ov pre)
section
variable {W0 wr w' : World} {t : TV} {i : Nat} {s : ByteArray} {x : PV} {o : Int} {pre : List (Int × Int)} {ov_ q : Value} {hs cur : List (Int × Int)} {ws : List (Int × (ByteArray × Int))} {nm : List (Int × (Nat × List ByteArray))}
theorem FreeMid.below (h : FreeMid W0 t i s x o pre wr ov_ q hs cur ws nm) (hb : Below wr.heap.size wr w') : FreeMid W0 t i s x o pre w' ov_ q hs cur ws nm :=
  ⟨h.tab.below hb, h.pop, h.all, h.ws, h.nm, rowU_keep h.row (fun k e => hb.block k (h.row.lt k e).2)⟩
theorem freeT_get (hi : i < t.pl.length) : (freeT t i s x q hs cur ws nm).pl[i]? = some (s, { x with q := q, hs := hs, qs := cur }) := by
  show (t.pl.set i _)[i]? = _
  rw [List.getElem?_set]
  simp [hi]
end
/-- behind it -/
def FreeSt (W0 : World) (t : TV) (i : Nat) (s : ByteArray) (x : PV) (o : Int) (wr : World) (ov_ : Value) : Prop :=
  ∃ q ws nm t', wr.ownsRow W0.heap.size 29 1 ov_ (popQ (kdel x.hs o) x.qs).2.2.length (ov (popQ (kdel x.hs o) x.qs).2.2) ∧ TabL W0 wr t' ∧
    ws = wsPop (popQ (kdel x.hs o) x.qs).2.2 t.ws ∧ (∀ u, nmGet nm u = nmPop s (popQ (kdel x.hs o) x.qs).2.2 (nmGet (kdel t.nm o)) u) ∧
    t' = (if (popQ (kdel x.hs o) x.qs).1 = [] ∧ (popQ (kdel x.hs o) x.qs).2.1 = [] then { freeT t i s x q (popQ (kdel x.hs o) x.qs).1 (popQ (kdel x.hs o) x.qs).2.1 ws nm with pl := kdel (freeT t i s x q (popQ (kdel x.hs o) x.qs).1 (popQ (kdel x.hs o) x.qs).2.1 ws nm).pl s } else freeT t i s x q (popQ (kdel x.hs o) x.qs).1 (popQ (kdel x.hs o) x.qs).2.1 ws nm)

set_option maxHeartbeats 4000000 in
theorem free_one {W0 w : World} {t : TV} (h : TabL W0 w t) {i : Nat} {s : ByteArray} {x : PV} (hx : t.pl[i]? = some (s, x)) (hpa : klook t.pl s = some x) (o : Int) (hw : klook t.ws o = none) {M : Nat} (hn : klook t.nm o = some (M, [s]))
    (hs : s.size ≤ maxLen) (hqs : ∀ a ∈ x.qs, a.1 ≠ o) (hql : x.qs.length ≤ 8796093022200) :
    Calls Try.prog 19 #[.pointer (some ⟨t.T, 0, none⟩), .int .u64 o] w fun e w' => ∃ v, e = .returned v ∧ FreeSt W0 t i s x o w' v := by
  obtain ⟨wA, hwA⟩ : ∃ wA, w.alloc (.cells #[.int .u64 o] 29) = wA := ⟨_, rfl⟩
  have hA : TabL W0 wA t := by rw [← hwA]; exact h.below ((Below.refl _ _).alloc (Nat.le_refl _) _)
  have bA : wA.heap[w.heap.size]? = some (.cells #[.int .u64 o] 29 (0, 0)) := by rw [← hwA]; exact heap_alloc_new w _
  obtain ⟨b0, hb0⟩ : ∃ b0, w.heap.size = b0 := ⟨_, rfl⟩
  rw [hb0] at bA
  have c1 : wA.cell? ⟨t.T, 1, none⟩ = some (.map (some t.W)) := cell_of_row wA t.T 1 _ _ _ hA.rep.tab.blk
  have c2 : wA.cell? ⟨t.T, 2, none⟩ = some (.map (some t.N)) := cell_of_row wA t.T 2 _ _ _ hA.rep.tab.blk
  have cb : wA.cell? ⟨b0, 0, none⟩ = some (.int .u64 o) := cell_of_row wA b0 0 _ _ _ bA
  have hn2 : glook (nmV t.nm) o = some (.map (some M)) := by
    have h9 := glook_map (fun y : Nat × List ByteArray => Value.map (some y.1)) t.nm o
    rw [hn] at h9
    exact h9
  have hw2 : glook (wsV t.ws) o = none := by
    have h9 := glook_map (fun y : ByteArray × Int => Value.agg #[.string y.1, .int .i64 y.2]) t.ws o
    rw [hw] at h9
    exact h9
  have hl1 : ∀ W : World, TabL W0 W t → (Instr.lookup 64 (.map (some t.N)) (.int .u64 o) false).run Try.prog W = .ok (.map (some M)) W := fun W hW => by
    have h9 := gmap_lookup1 (P := Try.prog) Try.underlying64 Try.underlying29 (z80 W) hW.rep.tab.nm o
    rw [hn2] at h9
    exact h9
  have hl2 : ∀ W : World, TabL W0 W t → (Instr.lookup 63 (.map (some t.W)) (.int .u64 o) true).run Try.prog W = .ok (.tuple #[.agg #[.string ⟨#[]⟩, .int .i64 0], .bool false]) W := fun W hW => by
    have h9 := gmap_lookup (P := Try.prog) Try.underlying63 Try.underlying29 (z33 W) hW.rep.tab.wt o
    rw [hw2] at h9
    exact h9
  have hlk : ∀ n, (Instr.lookup 64 (.map (some t.N)) (.int .u64 o) false).run Try.prog (wA.drewN n) = .ok (.map (some M)) (wA.drewN n) := fun n => hl1 _ (hA.below (below_drewN (Below.refl _ _) n))
  obtain ⟨j, hj, -⟩ := klook_set hn
  have hMA : GMap wA M [(s, Value.agg #[])] := hA.rep.nms j _ hj
  obtain ⟨nP, nW, nN⟩ := hA.rep.dM j _ hj
  simp only at nP nW nN
  have HMA := Lib.hid hMA
  have HMN := Lib.hid (And.intro nW nN)
  clear hMA nP nW nN hj
  have HL2 := Lib.hid hl2
  have HA := Lib.hid (And.intro hA bA)
  clear h bA hn2 hw2 hl1 hl2 hA
  go_enter Try.func19, Try.ntmps19
  go_upto_region 1 with (fail)
  clear hwA
  go_quiet (fail)
  obtain ⟨wB, hwB⟩ : ∃ wB, wA.drewN nq = wB := ⟨_, rfl⟩
  have hB : TabL W0 wB t := by rw [← hwB]; exact HA.out.1.below (below_drewN (Below.refl _ _) nq)
  have bB : wB.heap[b0]? = some (.cells #[.int .u64 o] 29 (0, 0)) := by rw [← hwB]; exact HA.out.2
  have hwB0 := hwB
  rw [hwB]
  clear hwB hlk c1 c2 cb
  have HMB : Hid (GMap wB M [(s, Value.agg #[])]) := HMA.out.keep (by rw [← hwB0]; rfl)
  have HB := Lib.hid (And.intro hB bB)
  clear hB bB hwB0
  have hnil := nil80s M wB
  go_upto_region 4 with (fail)
  clear hnil
  obtain ⟨wC, hwC⟩ : ∃ wC, (wB.alloc (.cells #[.string ⟨#[]⟩, .int .i64 0] 33)).drew = wC := ⟨_, rfl⟩
  have hbC : Below wB.heap.size wB wC := by rw [← hwC]; exact below_drewN ((Below.refl _ _).alloc (Nat.le_refl _) _) 1
  have hC : TabL W0 wC t := HB.out.1.below hbC
  have bC : wC.heap[b0]? = some (.cells #[.int .u64 o] 29 (0, 0)) := (hbC.block _ (lt_of_block HB.out.2)).trans HB.out.2
  have kC : wC.heap[wB.heap.size]? = some (.cells #[.string ⟨#[]⟩, .int .i64 0] 33 (0, 0)) := by rw [← hwC]; exact heap_alloc_new wB _
  have hS0 : wB.drew.cell? ⟨t.T, 1, none⟩ = some (.map (some t.W)) ∧ wB.drew.cell? ⟨b0, 0, none⟩ = some (.int .u64 o) ∧ (Instr.lookup 63 (.map (some t.W)) (.int .u64 o) true).run Try.prog wB.drew = .ok (.tuple #[.agg #[.string ⟨#[]⟩, .int .i64 0], .bool false]) wB.drew :=
    ⟨cell_of_row wB.drew t.T 1 _ _ _ HB.out.1.rep.tab.blk, cell_of_row wB.drew b0 0 _ _ _ HB.out.2, HL2.out _ (HB.out.1.below (below_drewN (Below.refl _ _) 1))⟩
  have hS1 : wC.cell? ⟨t.T, 1, none⟩ = some (.map (some t.W)) ∧ wC.cell? ⟨b0, 0, none⟩ = some (.int .u64 o) ∧ (Instr.lookup 63 (.map (some t.W)) (.int .u64 o) true).run Try.prog wC = .ok (.tuple #[.agg #[.string ⟨#[]⟩, .int .i64 0], .bool false]) wC :=
    ⟨cell_of_row wC t.T 1 _ _ _ hC.rep.tab.blk, cell_of_row wC b0 0 _ _ _ bC, HL2.out _ hC⟩
  have HMC : Hid (GMap wC M [(s, Value.agg #[])]) := HMB.out.keep (hbC.block _ HMB.out.lt)
  have HC := Lib.hid (And.intro hC bC)
  have HKC := Lib.hid kC
  clear hbC hC bC kC
  refine wp_region_U (fun W => W.cell? ⟨t.T, 1, none⟩ = some (.map (some t.W)) ∧ W.cell? ⟨b0, 0, none⟩ = some (.int .u64 o) ∧ (Instr.lookup 63 (.map (some t.W)) (.int .u64 o) true).run Try.prog W = .ok (.tuple #[.agg #[.string ⟨#[]⟩, .int .i64 0], .bool false]) W) [] (by kernel_rfl) ?_
  refine wpAnyU_take (i := 0) [1, 2, 3, 5, 6, 7, 8, 10, 11] rfl (by as_aux_lemma => kernel_rfl) (by as_aux_lemma => kernel_rfl) (by as_aux_lemma => kernel_rfl) (by as_aux_lemma => kernel_rfl) (by as_aux_lemma => kernel_rfl) (by as_aux_lemma => kernel_rfl) (fun _ _ _ h => h) (Or.inl ⟨by rfl, (by intro W hSW; (try dsimp only at hSW); (try go_split_ands); go_simp <;> with_reducible rfl)⟩) hS0 ?_
  try simp only [Act.put, List.getElem_toArray, List.getElem_cons_succ, List.getElem_cons_zero, List.setIfInBounds_toArray, List.set_cons_zero, List.set_cons_succ]
  refine wpAnyU_take (i := 1) [2, 3, 5, 6, 7, 8, 10, 11] rfl (by as_aux_lemma => kernel_rfl) (by as_aux_lemma => kernel_rfl) (by as_aux_lemma => kernel_rfl) (by as_aux_lemma => kernel_rfl) (by as_aux_lemma => kernel_rfl) (by as_aux_lemma => kernel_rfl) (fun _ _ _ h => h) (Or.inl ⟨by rfl, (by intro W hSW; (try dsimp only at hSW); (try go_split_ands); go_simp <;> with_reducible rfl)⟩) hS0 ?_
  try simp only [Act.put, List.getElem_toArray, List.getElem_cons_succ, List.getElem_cons_zero, List.setIfInBounds_toArray, List.set_cons_zero, List.set_cons_succ]
  refine wpAnyU_take (i := 2) [3, 5, 6, 7, 8, 10, 11] rfl (by as_aux_lemma => kernel_rfl) (by as_aux_lemma => kernel_rfl) (by as_aux_lemma => kernel_rfl) (by as_aux_lemma => kernel_rfl) (by as_aux_lemma => kernel_rfl) (by as_aux_lemma => kernel_rfl) (fun _ _ _ h => h) (Or.inl ⟨by rfl, (by intro W hSW; (try dsimp only at hSW); (try go_split_ands); go_simp <;> with_reducible rfl)⟩) hS0 ?_
  try simp only [Act.put, List.getElem_toArray, List.getElem_cons_succ, List.getElem_cons_zero, List.setIfInBounds_toArray, List.set_cons_zero, List.set_cons_succ]
  refine wpAnyU_take (i := 3) [5, 6, 7, 8, 10, 11] rfl (by as_aux_lemma => kernel_rfl) (by as_aux_lemma => kernel_rfl) (by as_aux_lemma => kernel_rfl) (by as_aux_lemma => kernel_rfl) (by as_aux_lemma => kernel_rfl) (by as_aux_lemma => kernel_rfl) (fun _ _ _ h => h) (Or.inl ⟨by rfl, (by intro W hSW; (try dsimp only at hSW); (try go_split_ands); go_simp <;> with_reducible rfl)⟩) hS0 ?_
  try simp only [Act.put, List.getElem_toArray, List.getElem_cons_succ, List.getElem_cons_zero, List.setIfInBounds_toArray, List.set_cons_zero, List.set_cons_succ]
  refine wpAnyU_take (i := 4) [5, 6, 7, 8, 10, 11] rfl (by as_aux_lemma => kernel_rfl) (by as_aux_lemma => kernel_rfl) (by as_aux_lemma => kernel_rfl) (by as_aux_lemma => kernel_rfl) (by as_aux_lemma => kernel_rfl) (by as_aux_lemma => kernel_rfl) (fun _ _ _ h => h) (Or.inl ⟨by rfl, (by intro W hSW; (try dsimp only at hSW); (try go_split_ands); go_simp <;> with_reducible rfl)⟩) hS0 ?_
  try simp only [Act.put, List.getElem_toArray, List.getElem_cons_succ, List.getElem_cons_zero, List.setIfInBounds_toArray, List.set_cons_zero, List.set_cons_succ]
  refine wpAnyU_take (i := 5) [6, 7, 8, 10, 11] rfl (by as_aux_lemma => kernel_rfl) (by as_aux_lemma => kernel_rfl) (by as_aux_lemma => kernel_rfl) (by as_aux_lemma => kernel_rfl) (by as_aux_lemma => kernel_rfl) (by as_aux_lemma => kernel_rfl) (fun _ _ _ h => h) (Or.inl ⟨by rfl, (by intro W hSW; (try dsimp only at hSW); (try go_split_ands); go_simp <;> with_reducible rfl)⟩) hS0 ?_
  try simp only [Act.put, List.getElem_toArray, List.getElem_cons_succ, List.getElem_cons_zero, List.setIfInBounds_toArray, List.set_cons_zero, List.set_cons_succ]
  refine wpAnyU_take (i := 6) [7, 8, 10, 11] rfl (by as_aux_lemma => kernel_rfl) (by as_aux_lemma => kernel_rfl) (by as_aux_lemma => kernel_rfl) (by as_aux_lemma => kernel_rfl) (by as_aux_lemma => kernel_rfl) (by as_aux_lemma => kernel_rfl) (fun _ _ _ h => h) (Or.inl ⟨by rfl, (by intro W hSW; (try dsimp only at hSW); (try go_split_ands); go_simp <;> with_reducible rfl)⟩) hS0 ?_
  try simp only [Act.put, List.getElem_toArray, List.getElem_cons_succ, List.getElem_cons_zero, List.setIfInBounds_toArray, List.set_cons_zero, List.set_cons_succ]
  refine wpAnyU_take (i := 7) [10, 11] rfl (by as_aux_lemma => kernel_rfl) (by as_aux_lemma => kernel_rfl) (by as_aux_lemma => kernel_rfl) (by as_aux_lemma => kernel_rfl) (by as_aux_lemma => kernel_rfl) (by as_aux_lemma => kernel_rfl) (fun _ _ _ h => h) (Or.inl ⟨by rfl, (by intro W hSW; (try dsimp only at hSW); (try go_split_ands); go_simp <;> with_reducible rfl)⟩) hS0 ?_
  try simp only [Act.put, List.getElem_toArray, List.getElem_cons_succ, List.getElem_cons_zero, List.setIfInBounds_toArray, List.set_cons_zero, List.set_cons_succ]
  refine wpAnyU_take (i := 8) [11] rfl (by as_aux_lemma => kernel_rfl) (by as_aux_lemma => kernel_rfl) (by as_aux_lemma => kernel_rfl) (by as_aux_lemma => kernel_rfl) (by as_aux_lemma => kernel_rfl) (by as_aux_lemma => kernel_rfl) (fun _ _ _ h => h) (Or.inl ⟨by rfl, (by intro W hSW; (try dsimp only at hSW); (try go_split_ands); go_simp <;> with_reducible rfl)⟩) hS0 ?_
  try simp only [Act.put, List.getElem_toArray, List.getElem_cons_succ, List.getElem_cons_zero, List.setIfInBounds_toArray, List.set_cons_zero, List.set_cons_succ]
  refine wpAnyU_one (i := 9) (by kernel_rfl) rfl (fun K hK => ?_)
  go_simp
  try rw [hwC]
  refine hK.out _ _ (fun _ => hS1) (fun _ => ?_)
  clear hK K
  try simp only [Act.put, List.getElem_toArray, List.getElem_cons_succ, List.getElem_cons_zero, List.setIfInBounds_toArray, List.set_cons_zero, List.set_cons_succ]
  refine wpAnyU_one (i := 10) (by kernel_rfl) rfl (fun K hK => ?_)
  refine step_store_is2 rfl _ _ _ rfl wB.heap.size #[.string ⟨#[]⟩, .int .i64 0] rfl rfl _ _ HKC.out infoG rfl (by simp [Value.oneCell']) ?_
  rw [setRow_self _ _ _ _ _ HKC.out]
  refine hK.out _ _ (fun _ => hS1) (fun _ => ?_)
  clear hK K
  try simp only [Act.put, List.getElem_toArray, List.getElem_cons_succ, List.getElem_cons_zero, List.setIfInBounds_toArray, List.set_cons_zero, List.set_cons_succ]
  refine wpAnyU_take (i := 11) [] rfl (by as_aux_lemma => kernel_rfl) (by as_aux_lemma => kernel_rfl) (by as_aux_lemma => kernel_rfl) (by as_aux_lemma => kernel_rfl) (by as_aux_lemma => kernel_rfl) (by as_aux_lemma => kernel_rfl) (fun _ _ _ h => h) (Or.inl ⟨by rfl, (by intro W hSW; (try dsimp only at hSW); (try go_split_ands); go_simp <;> with_reducible rfl)⟩) hS1 ?_
  try simp only [Act.put, List.getElem_toArray, List.getElem_cons_succ, List.getElem_cons_zero, List.setIfInBounds_toArray, List.set_cons_zero, List.set_cons_succ]
  refine wpAnyU_done (by kernel_rfl) ?_ _
  clear hS0 hS1 hwC HKC
  go_upto_region 7 with (fail)
  obtain ⟨wD, hrD, htD, hD⟩ := TabL.nameDel (HC.out.1.below (below_drewN (Below.refl _ _) 1) : TabL W0 wC.drew t) o
  have bD : wD.heap[b0]? = some (.cells #[.int .u64 o] 29 (0, 0)) := htD.cells HC.out.2 (cells_ne_map HC.out.1.rep.tab.nm HC.out.2)
  have hS0 : wC.drew.cell? ⟨t.T, 2, none⟩ = some (.map (some t.N)) ∧ wC.drew.cell? ⟨b0, 0, none⟩ = some (.int .u64 o) := ⟨cell_of_row wC.drew t.T 2 _ _ _ HC.out.1.rep.tab.blk, cell_of_row wC.drew b0 0 _ _ _ HC.out.2⟩
  have hS1 : wD.cell? ⟨t.T, 2, none⟩ = some (.map (some t.N)) ∧ wD.cell? ⟨b0, 0, none⟩ = some (.int .u64 o) := ⟨cell_of_row wD t.T 2 _ _ _ hD.rep.tab.blk, cell_of_row wD b0 0 _ _ _ bD⟩
  have HMD : Hid (GMap wD M [(s, Value.agg #[])]) := HMC.out.keep (htD.2.2.2.2 _ HMN.out.2)
  have HD := Lib.hid (And.intro hD bD)
  clear htD hD bD
  refine wp_region_U (fun W => W.cell? ⟨t.T, 2, none⟩ = some (.map (some t.N)) ∧ W.cell? ⟨b0, 0, none⟩ = some (.int .u64 o)) [] (by kernel_rfl) ?_
  refine wpAnyU_take (i := 0) [1, 2, 3, 5] rfl (by as_aux_lemma => kernel_rfl) (by as_aux_lemma => kernel_rfl) (by as_aux_lemma => kernel_rfl) (by as_aux_lemma => kernel_rfl) (by as_aux_lemma => kernel_rfl) (by as_aux_lemma => kernel_rfl) (fun _ _ _ h => h) (Or.inl ⟨by rfl, (by intro W hSW; (try dsimp only at hSW); (try go_split_ands); go_simp <;> with_reducible rfl)⟩) hS0 ?_
  try simp only [Act.put, List.getElem_toArray, List.getElem_cons_succ, List.getElem_cons_zero, List.setIfInBounds_toArray, List.set_cons_zero, List.set_cons_succ]
  refine wpAnyU_take (i := 1) [2, 3, 5] rfl (by as_aux_lemma => kernel_rfl) (by as_aux_lemma => kernel_rfl) (by as_aux_lemma => kernel_rfl) (by as_aux_lemma => kernel_rfl) (by as_aux_lemma => kernel_rfl) (by as_aux_lemma => kernel_rfl) (fun _ _ _ h => h) (Or.inl ⟨by rfl, (by intro W hSW; (try dsimp only at hSW); (try go_split_ands); go_simp <;> with_reducible rfl)⟩) hS0 ?_
  try simp only [Act.put, List.getElem_toArray, List.getElem_cons_succ, List.getElem_cons_zero, List.setIfInBounds_toArray, List.set_cons_zero, List.set_cons_succ]
  refine wpAnyU_take (i := 2) [3, 5] rfl (by as_aux_lemma => kernel_rfl) (by as_aux_lemma => kernel_rfl) (by as_aux_lemma => kernel_rfl) (by as_aux_lemma => kernel_rfl) (by as_aux_lemma => kernel_rfl) (by as_aux_lemma => kernel_rfl) (fun _ _ _ h => h) (Or.inl ⟨by rfl, (by intro W hSW; (try dsimp only at hSW); (try go_split_ands); go_simp <;> with_reducible rfl)⟩) hS0 ?_
  try simp only [Act.put, List.getElem_toArray, List.getElem_cons_succ, List.getElem_cons_zero, List.setIfInBounds_toArray, List.set_cons_zero, List.set_cons_succ]
  refine wpAnyU_take (i := 3) [5] rfl (by as_aux_lemma => kernel_rfl) (by as_aux_lemma => kernel_rfl) (by as_aux_lemma => kernel_rfl) (by as_aux_lemma => kernel_rfl) (by as_aux_lemma => kernel_rfl) (by as_aux_lemma => kernel_rfl) (fun _ _ _ h => h) (Or.inl ⟨by rfl, (by intro W hSW; (try dsimp only at hSW); (try go_split_ands); go_simp <;> with_reducible rfl)⟩) hS0 ?_
  try simp only [Act.put, List.getElem_toArray, List.getElem_cons_succ, List.getElem_cons_zero, List.setIfInBounds_toArray, List.set_cons_zero, List.set_cons_succ]
  refine wpAnyU_take (i := 4) [5] rfl (by as_aux_lemma => kernel_rfl) (by as_aux_lemma => kernel_rfl) (by as_aux_lemma => kernel_rfl) (by as_aux_lemma => kernel_rfl) (by as_aux_lemma => kernel_rfl) (by as_aux_lemma => kernel_rfl) (fun _ _ _ h => h) (Or.inl ⟨by rfl, (by intro W hSW; (try dsimp only at hSW); (try go_split_ands); go_simp <;> with_reducible rfl)⟩) hS0 ?_
  try simp only [Act.put, List.getElem_toArray, List.getElem_cons_succ, List.getElem_cons_zero, List.setIfInBounds_toArray, List.set_cons_zero, List.set_cons_succ]
  refine wpAnyU_one (i := 5) (by kernel_rfl) rfl (fun K hK => ?_)
  go_simp
  refine hK.out _ _ (fun _ => hS1) (fun _ => ?_)
  clear hK K
  try simp only [Act.put, List.getElem_toArray, List.getElem_cons_succ, List.getElem_cons_zero, List.setIfInBounds_toArray, List.set_cons_zero, List.set_cons_succ]
  refine wpAnyU_done (by kernel_rfl) ?_ _
  clear hS0 hS1 hrD
  go_upto_region 8 with (fail)
  obtain ⟨wE, hrE, htE, hE⟩ := TabL.waitsDel (HD.out.1.below (below_drewN (Below.refl _ _) 1) : TabL W0 wD.drew _) o
  have hws : kdel t.ws o = t.ws := kdel_none hw
  simp only [hws] at hE hrE htE
  have bE : wE.heap[b0]? = some (.cells #[.int .u64 o] 29 (0, 0)) := htE.cells HD.out.2 (cells_ne_map HD.out.1.rep.tab.wt HD.out.2)
  have hS0 : wD.drew.cell? ⟨t.T, 1, none⟩ = some (.map (some t.W)) ∧ wD.drew.cell? ⟨b0, 0, none⟩ = some (.int .u64 o) := ⟨cell_of_row wD.drew t.T 1 _ _ _ HD.out.1.rep.tab.blk, cell_of_row wD.drew b0 0 _ _ _ HD.out.2⟩
  have hS1 : wE.cell? ⟨t.T, 1, none⟩ = some (.map (some t.W)) ∧ wE.cell? ⟨b0, 0, none⟩ = some (.int .u64 o) := ⟨cell_of_row wE t.T 1 _ _ _ hE.rep.tab.blk, cell_of_row wE b0 0 _ _ _ bE⟩
  have HME : Hid (GMap wE M [(s, Value.agg #[])]) := HMD.out.keep (htE.2.2.2.2 _ HMN.out.1)
  have HE := Lib.hid (And.intro hE bE)
  clear htE hE bE hws
  refine wp_region_U (fun W => W.cell? ⟨t.T, 1, none⟩ = some (.map (some t.W)) ∧ W.cell? ⟨b0, 0, none⟩ = some (.int .u64 o)) [] (by kernel_rfl) ?_
  refine wpAnyU_take (i := 0) [1, 2, 3, 5] rfl (by as_aux_lemma => kernel_rfl) (by as_aux_lemma => kernel_rfl) (by as_aux_lemma => kernel_rfl) (by as_aux_lemma => kernel_rfl) (by as_aux_lemma => kernel_rfl) (by as_aux_lemma => kernel_rfl) (fun _ _ _ h => h) (Or.inl ⟨by rfl, (by intro W hSW; (try dsimp only at hSW); (try go_split_ands); go_simp <;> with_reducible rfl)⟩) hS0 ?_
  try simp only [Act.put, List.getElem_toArray, List.getElem_cons_succ, List.getElem_cons_zero, List.setIfInBounds_toArray, List.set_cons_zero, List.set_cons_succ]
  refine wpAnyU_take (i := 1) [2, 3, 5] rfl (by as_aux_lemma => kernel_rfl) (by as_aux_lemma => kernel_rfl) (by as_aux_lemma => kernel_rfl) (by as_aux_lemma => kernel_rfl) (by as_aux_lemma => kernel_rfl) (by as_aux_lemma => kernel_rfl) (fun _ _ _ h => h) (Or.inl ⟨by rfl, (by intro W hSW; (try dsimp only at hSW); (try go_split_ands); go_simp <;> with_reducible rfl)⟩) hS0 ?_
  try simp only [Act.put, List.getElem_toArray, List.getElem_cons_succ, List.getElem_cons_zero, List.setIfInBounds_toArray, List.set_cons_zero, List.set_cons_succ]
  refine wpAnyU_take (i := 2) [3, 5] rfl (by as_aux_lemma => kernel_rfl) (by as_aux_lemma => kernel_rfl) (by as_aux_lemma => kernel_rfl) (by as_aux_lemma => kernel_rfl) (by as_aux_lemma => kernel_rfl) (by as_aux_lemma => kernel_rfl) (fun _ _ _ h => h) (Or.inl ⟨by rfl, (by intro W hSW; (try dsimp only at hSW); (try go_split_ands); go_simp <;> with_reducible rfl)⟩) hS0 ?_
  try simp only [Act.put, List.getElem_toArray, List.getElem_cons_succ, List.getElem_cons_zero, List.setIfInBounds_toArray, List.set_cons_zero, List.set_cons_succ]
  refine wpAnyU_take (i := 3) [5] rfl (by as_aux_lemma => kernel_rfl) (by as_aux_lemma => kernel_rfl) (by as_aux_lemma => kernel_rfl) (by as_aux_lemma => kernel_rfl) (by as_aux_lemma => kernel_rfl) (by as_aux_lemma => kernel_rfl) (fun _ _ _ h => h) (Or.inl ⟨by rfl, (by intro W hSW; (try dsimp only at hSW); (try go_split_ands); go_simp <;> with_reducible rfl)⟩) hS0 ?_
  try simp only [Act.put, List.getElem_toArray, List.getElem_cons_succ, List.getElem_cons_zero, List.setIfInBounds_toArray, List.set_cons_zero, List.set_cons_succ]
  refine wpAnyU_take (i := 4) [5] rfl (by as_aux_lemma => kernel_rfl) (by as_aux_lemma => kernel_rfl) (by as_aux_lemma => kernel_rfl) (by as_aux_lemma => kernel_rfl) (by as_aux_lemma => kernel_rfl) (by as_aux_lemma => kernel_rfl) (fun _ _ _ h => h) (Or.inl ⟨by rfl, (by intro W hSW; (try dsimp only at hSW); (try go_split_ands); go_simp <;> with_reducible rfl)⟩) hS0 ?_
  try simp only [Act.put, List.getElem_toArray, List.getElem_cons_succ, List.getElem_cons_zero, List.setIfInBounds_toArray, List.set_cons_zero, List.set_cons_succ]
  refine wpAnyU_one (i := 5) (by kernel_rfl) rfl (fun K hK => ?_)
  go_simp
  refine hK.out _ _ (fun _ => hS1) (fun _ => ?_)
  clear hK K
  try simp only [Act.put, List.getElem_toArray, List.getElem_cons_succ, List.getElem_cons_zero, List.setIfInBounds_toArray, List.set_cons_zero, List.set_cons_succ]
  refine wpAnyU_done (by kernel_rfl) ?_ _
  clear hS0 hS1 hrE
  have hke := keys_any (some M) wE
  have hso := sorted_one wE M s hs HME.out
  have HKE := Lib.hid hke
  have HSO := Lib.hid hso
  clear hke hso
  go_wp2_with fail
  refine HKE.out.mono ?_
  rintro e w4 ⟨rfl, rfl⟩
  go_wp2_with fail
  refine HSO.out.mono ?_
  rintro e w5 ⟨g, gc, rfl, cg, hgl, hgw, hb5⟩
  have h5 := HE.out.1.below hb5
  have b5 : w5.heap[b0]? = some (.cells #[.int .u64 o] 29 (0, 0)) := (hb5.block _ (lt_of_block HE.out.2)).trans HE.out.2
  have H5 := Lib.hid (And.intro h5 (And.intro b5 cg))
  clear h5 b5 cg hgw hb5 HKE HSO HMA HMB HMC HMD HME HMN HA HB HC HD HE HL2
  go_wp2_with fail
  go_loopw [55] (fun iv wr => (iv = .int .i64 0 ∧ wr = w5) ∨ (iv = .int .i64 1 ∧ TabL W0 wr { t with nm := kdel t.nm o, pl := t.pl.set i (s, { x with hs := kdel x.hs o }) } ∧ wr.heap[b0]? = some (.cells #[.int .u64 o] 29 (0, 0)) ∧ wr.cell? ⟨g, 0, none⟩ = some (.string s))) (fun iv _ => 1 - (Go.RowKit.intOf iv).toNat)
  case atStart => exact .inl ⟨rfl, rfl⟩
  case round =>
    rcases hrel with ⟨rfl, rfl⟩ | ⟨rfl, h6, b6, cg6⟩
    · have c0 : wr.cell? ⟨t.T, 0, none⟩ = some (.map (some t.P)) := cell_of_row wr t.T 0 _ _ _ H5.out.1.rep.tab.blk
      have cg : wr.cell? ⟨g, 0, none⟩ = some (.string s) := H5.out.2.2
      have hpa2 : glook (plV t.pl) s = some (.pointer (some ⟨x.p, 0, none⟩)) := by
        have h9 := glook_map (fun y : PV => Value.pointer (some ⟨y.p, 0, none⟩)) t.pl s
        rw [hpa] at h9
        exact h9
      have hl3 : (Instr.lookup 62 (.map (some t.P)) (.string s) false).run Try.prog wr = .ok (.pointer (some ⟨x.p, 0, none⟩)) wr := by
        have h9 := gmap_lookup1 (P := Try.prog) Try.underlying62 Try.underlying9 (z67 wr) H5.out.1.rep.tab.pl s
        rw [hpa2] at h9
        exact h9
      have HPA := Lib.hid hpa2
      clear hpa2
      go_upto_region 14 with (fail)
      obtain ⟨wF, hrF, htF, hF⟩ := TabL.heldDel (H5.out.1.below (below_drewN (Below.refl _ _) 1) : TabL W0 wr.drew { t with nm := kdel t.nm o }) (i := i) (s := s) (x := x) hx o
      obtain ⟨hp5, hq5⟩ := H5.out.1.rep.pls i _ hx
      have bF : wF.heap[b0]? = some (.cells #[.int .u64 o] 29 (0, 0)) := htF.cells H5.out.2.1 (cells_ne_map hp5.hl H5.out.2.1)
      have cgF : wF.cell? ⟨g, 0, none⟩ = some (.string s) := by
        have h9 : wF.cell? ⟨g, 0, none⟩ = wr.cell? ⟨g, 0, none⟩ := World.cell?_of_block (htF.2.2.2.2 g (fun e => by
          obtain ⟨l, c, hl, -⟩ := hp5.hl
          have hg9 : wr.heap[g]? = _ := e ▸ hl.2.2.2
          simp [World.cell?, hg9] at cg))
        rw [h9]
        exact cg
      have hS0 : wr.drew.cell? ⟨x.p, 0, none⟩ = some (.map (some x.H)) ∧ wr.drew.cell? ⟨b0, 0, none⟩ = some (.int .u64 o) := ⟨cell_of_row wr.drew x.p 0 _ _ _ hp5.blk, cell_of_row wr.drew b0 0 _ _ _ H5.out.2.1⟩
      have hxF : ({ t with nm := kdel t.nm o, pl := t.pl.set i (s, { x with hs := kdel x.hs o }) } : TV).pl[i]? = some (s, { x with hs := kdel x.hs o }) := by
        show (t.pl.set i _)[i]? = _
        rw [List.getElem?_set]
        simp [(List.getElem?_eq_some_iff.1 hx).1]
      obtain ⟨hpF, hqF⟩ := hF.rep.pls i _ hxF
      have hS1 : wF.cell? ⟨x.p, 0, none⟩ = some (.map (some x.H)) ∧ wF.cell? ⟨b0, 0, none⟩ = some (.int .u64 o) := ⟨cell_of_row wF x.p 0 _ _ _ hpF.blk, cell_of_row wF b0 0 _ _ _ bF⟩
      have hdf := deleteFunc_none hqF hql b0 o hS1.2 hqs
      have HDF := Lib.hid hdf
      have HF := Lib.hid (And.intro hF (And.intro bF (And.intro cgF (And.intro hpF hqF))))
      have HXF := Lib.hid hxF
      clear htF bF cgF hp5 hq5 hxF hpF hqF hdf hF c0 cg
      refine wp_region_U (fun W => W.cell? ⟨x.p, 0, none⟩ = some (.map (some x.H)) ∧ W.cell? ⟨b0, 0, none⟩ = some (.int .u64 o)) [] (by kernel_rfl) ?_
      refine wpAnyU_take (i := 0) [1, 2, 3, 5] rfl (by as_aux_lemma => kernel_rfl) (by as_aux_lemma => kernel_rfl) (by as_aux_lemma => kernel_rfl) (by as_aux_lemma => kernel_rfl) (by as_aux_lemma => kernel_rfl) (by as_aux_lemma => kernel_rfl) (fun _ _ _ h => h) (Or.inl ⟨by rfl, (by intro W hSW; (try dsimp only at hSW); (try go_split_ands); go_simp <;> with_reducible rfl)⟩) hS0 ?_
      try simp only [Act.put, List.getElem_toArray, List.getElem_cons_succ, List.getElem_cons_zero, List.setIfInBounds_toArray, List.set_cons_zero, List.set_cons_succ]
      refine wpAnyU_take (i := 1) [2, 3, 5] rfl (by as_aux_lemma => kernel_rfl) (by as_aux_lemma => kernel_rfl) (by as_aux_lemma => kernel_rfl) (by as_aux_lemma => kernel_rfl) (by as_aux_lemma => kernel_rfl) (by as_aux_lemma => kernel_rfl) (fun _ _ _ h => h) (Or.inl ⟨by rfl, (by intro W hSW; (try dsimp only at hSW); (try go_split_ands); go_simp <;> with_reducible rfl)⟩) hS0 ?_
      try simp only [Act.put, List.getElem_toArray, List.getElem_cons_succ, List.getElem_cons_zero, List.setIfInBounds_toArray, List.set_cons_zero, List.set_cons_succ]
      refine wpAnyU_take (i := 2) [3, 5] rfl (by as_aux_lemma => kernel_rfl) (by as_aux_lemma => kernel_rfl) (by as_aux_lemma => kernel_rfl) (by as_aux_lemma => kernel_rfl) (by as_aux_lemma => kernel_rfl) (by as_aux_lemma => kernel_rfl) (fun _ _ _ h => h) (Or.inl ⟨by rfl, (by intro W hSW; (try dsimp only at hSW); (try go_split_ands); go_simp <;> with_reducible rfl)⟩) hS0 ?_
      try simp only [Act.put, List.getElem_toArray, List.getElem_cons_succ, List.getElem_cons_zero, List.setIfInBounds_toArray, List.set_cons_zero, List.set_cons_succ]
      refine wpAnyU_take (i := 3) [5] rfl (by as_aux_lemma => kernel_rfl) (by as_aux_lemma => kernel_rfl) (by as_aux_lemma => kernel_rfl) (by as_aux_lemma => kernel_rfl) (by as_aux_lemma => kernel_rfl) (by as_aux_lemma => kernel_rfl) (fun _ _ _ h => h) (Or.inl ⟨by rfl, (by intro W hSW; (try dsimp only at hSW); (try go_split_ands); go_simp <;> with_reducible rfl)⟩) hS0 ?_
      try simp only [Act.put, List.getElem_toArray, List.getElem_cons_succ, List.getElem_cons_zero, List.setIfInBounds_toArray, List.set_cons_zero, List.set_cons_succ]
      refine wpAnyU_take (i := 4) [5] rfl (by as_aux_lemma => kernel_rfl) (by as_aux_lemma => kernel_rfl) (by as_aux_lemma => kernel_rfl) (by as_aux_lemma => kernel_rfl) (by as_aux_lemma => kernel_rfl) (by as_aux_lemma => kernel_rfl) (fun _ _ _ h => h) (Or.inl ⟨by rfl, (by intro W hSW; (try dsimp only at hSW); (try go_split_ands); go_simp <;> with_reducible rfl)⟩) hS0 ?_
      try simp only [Act.put, List.getElem_toArray, List.getElem_cons_succ, List.getElem_cons_zero, List.setIfInBounds_toArray, List.set_cons_zero, List.set_cons_succ]
      refine wpAnyU_one (i := 5) (by kernel_rfl) rfl (fun K hK => ?_)
      go_simp
      refine hK.out _ _ (fun _ => hS1) (fun _ => ?_)
      clear hK K
      try simp only [Act.put, List.getElem_toArray, List.getElem_cons_succ, List.getElem_cons_zero, List.setIfInBounds_toArray, List.set_cons_zero, List.set_cons_succ]
      refine wpAnyU_done (by kernel_rfl) ?_ _
      clear hS0 hS1 hrF hl3
      have cq : wF.cell? ⟨x.p, 1, none⟩ = some x.q := cell_of_row wF x.p 1 _ _ _ HF.out.2.2.2.1.blk
      obtain ⟨qa, qn, qc, hqe⟩ : ∃ qa qn qc, x.q = .slice qa qn qc := by
        rcases HF.out.2.2.2.2 with ⟨e, e2⟩ | ⟨g, off, c, cur, e, -⟩
        · exact ⟨none, 0, 0, e⟩
        · exact ⟨some ⟨g, off, none⟩, _, c, e⟩
      simp only [hqe] at HDF cq
      go_wp2_with fail
      refine HDF.out.mono ?_
      rintro e wG ⟨rfl, hbG⟩
      have hG := HF.out.1.below hbG
      obtain ⟨hpG, hqG⟩ := hG.rep.pls i _ HXF.out
      have fG : wG.frozen? ⟨x.p, 1, none⟩ = false := by simp [World.frozen?, hpG.blk]
      have cG : wG.cell? ⟨x.p, 1, none⟩ = some x.q := cell_of_row wG x.p 1 _ _ _ hpG.blk
      rw [hqe] at cG
      obtain ⟨htH, hH⟩ := hG.queueSet HXF.out hqG (fun g hg => hg)
      simp only [List.set_set] at hH
      have bH : (wG.setCell ⟨x.p, 1, none⟩ x.q).heap[b0]? = some (.cells #[.int .u64 o] 29 (0, 0)) := htH.cells ((hbG.block _ (lt_of_block HF.out.2.1)).trans HF.out.2.1) (cells_ty_ne ((hbG.block _ (lt_of_block HF.out.2.1)).trans HF.out.2.1) hpG.blk (by decide))
      have cgH : (wG.setCell ⟨x.p, 1, none⟩ x.q).cell? ⟨g, 0, none⟩ = some (.string s) := by
        have h8 : wG.cell? ⟨g, 0, none⟩ = some (.string s) := by
          rw [World.cell?_of_block (hbG.block g (World.block_lt_of_cell? _ _ HF.out.2.2.1))]
          exact HF.out.2.2.1
        by_cases e : g = x.p
        · subst e
          have h9 : wG.cell? ⟨x.p, 0, none⟩ = some (.map (some x.H)) := cell_of_row wG x.p 0 _ _ _ hpG.blk
          rw [h8] at h9
          cases h9
        · rw [World.cell?_of_block (htH.2.2.2.2 g e)]
          exact h8
      have HH := Lib.hid (And.intro hH (And.intro bH cgH))
      have hqe2 := hqe
      clear hG hpG hqG htH hH bH cgH hbG HDF HF HXF cq
      rw [hqe2] at HH
      go_wp2
      go_roundw
      case rel => exact .inr ⟨by go_num, by have h9 := HH.out.1; rw [← hqe2] at h9 ⊢; exact h9, HH.out.2.1, HH.out.2.2⟩
      case measure => simp [Go.RowKit.intOf]
    · have H6 := Lib.hid (And.intro h6 (And.intro b6 cg6))
      clear h6 b6 cg6 H5
      have hsz6 : W0.heap.size ≤ wr.heap.size := H6.out.1.bl.size
      obtain ⟨w6, rfl⟩ : ∃ w6 : World, w6 = wr := ⟨_, rfl⟩
      go_wp2_with fail
      go_loopw [12, 82] (fun ov_ iv wr => (iv = .int .i64 0 ∧ ov_ = .slice none 0 0 ∧ wr = w6) ∨
        (iv = .int .i64 1 ∧ FreeSt W0 t i s x o wr ov_)) (fun _ iv _ => 1 - (Go.RowKit.intOf iv).toNat)
      case atStart => exact .inl ⟨rfl, rfl, rfl⟩
      case round =>
        rcases hrel with ⟨rfl, rfl, rfl⟩ | ⟨rfl, hfin⟩
        · have c0 : wr.cell? ⟨t.T, 0, none⟩ = some (.map (some t.P)) := cell_of_row wr t.T 0 _ _ _ H6.out.1.rep.tab.blk
          have cg : wr.cell? ⟨g, 0, none⟩ = some (.string s) := H6.out.2.2
          have hxn : (t.pl.set i (s, { x with hs := kdel x.hs o }))[i]? = some (s, { x with hs := kdel x.hs o }) := by
            rw [List.getElem?_set]
            simp [(List.getElem?_eq_some_iff.1 hx).1]
          have hpv : plV (t.pl.set i (s, { x with hs := kdel x.hs o })) = plV t.pl := map_set_same _ hx rfl
          have hl3 : (Instr.lookup 62 (.map (some t.P)) (.string s) false).run Try.prog wr = .ok (.pointer (some ⟨x.p, 0, none⟩)) wr := by
            have h9 := gmap_lookup1 (P := Try.prog) Try.underlying62 Try.underlying9 (z67 wr) H6.out.1.rep.tab.pl s
            have h8 : glook (plV (t.pl.set i (s, { x with hs := kdel x.hs o }))) s = some (.pointer (some ⟨x.p, 0, none⟩)) := by
              rw [hpv]
              have h7 := glook_map (fun y : PV => Value.pointer (some ⟨y.p, 0, none⟩)) t.pl s
              rw [hpa] at h7
              exact h7
            rw [h8] at h9
            exact h9
          have HXN := Lib.hid (And.intro hxn hpv)
          have hil : i < t.pl.length := (List.getElem?_eq_some_iff.1 hx).1
          have HIL := Lib.hid hil
          clear hxn hpv hil
          obtain ⟨w7, rfl⟩ : ∃ w7 : World, w7 = wr := ⟨_, rfl⟩
          go_wp2_with fail
          go_loopw [12] (fun ov_ wr => ∃ (oa : Option Addr) (on oc : Nat), ov_ = .slice oa on oc ∧ ∃ pre q hs cur ws nm, pre.length = on ∧ FreeMid W0 t i s x o pre wr (.slice oa on oc) q hs cur ws nm) (fun ov_ _ => x.qs.length - slen ov_)
          case atStart => exact ⟨none, 0, 0, rfl, [], x.q, kdel x.hs o, x.qs, t.ws, kdel t.nm o, rfl, H6.out.1, rfl, rfl, rfl, fun _ => rfl, World.ownsRow_nil _ _ _ _⟩
          case round =>
            obtain ⟨oa, on, oc, rfl, pre, q, hs, cur, ws, nm, hon, hm⟩ := hrel
            have HON := Lib.hid hon
            clear hon
            have hxc := freeT_get (s := s) (x := x) (q := q) (hs := hs) (cur := cur) (ws := ws) (nm := nm) HIL.out
            obtain ⟨hp, hq⟩ := hm.tab.rep.pls i _ hxc
            obtain ⟨qa, qn, qc, hqe, hqn⟩ : ∃ qa qn qc, q = .slice qa qn qc ∧ cur.length = qn := by
              rcases hq with ⟨e, e2⟩ | ⟨g, off, c, cur2, e, -⟩
              · exact ⟨none, 0, 0, e, by show cur.length = 0; rw [show cur = [] from e2]; rfl⟩
              · exact ⟨some ⟨g, off, none⟩, _, c, e, rfl⟩
            subst hqe
            have HM := Lib.hid (And.intro hm (And.intro hxc (And.intro hp hq)))
            go_upto_region 22 with fail
            go_cut [115] (fun sv wx => ∃ b, sv = .bool b ∧ FreeMid W0 t i s x o pre wx (.slice oa on oc) (.slice qa qn qc) hs cur ws nm ∧ (b = true → ∃ a rest, cur = a :: rest ∧ goesP (hsV hs) a.1 a.2 = true) ∧ (b = false → popQ hs cur = (hs, cur, [])))
            case first =>
              have cq : wr.cell? ⟨x.p, 1, none⟩ = some (.slice qa qn qc) := cell_of_row wr x.p 1 _ _ _ hp.blk
              cases cur with
              | nil =>
                obtain rfl : qn = 0 := hqn.symm
                clear hm hxc hp hq
                go_quiet (fail)
                go_wp2
                go_meet
                exact ⟨false, rfl, HM.out.1.below (below_drewN (Below.refl _ _) _), (fun h => by cases h), fun _ => rfl⟩
              | cons a rest =>
                obtain ⟨qg, qo, qc2, e, ca, cb⟩ := hq.at_ 0 (by simp)
                injection e with e1 e2 e3
                subst e1 e3
                simp only [Nat.zero_mul, Nat.add_zero, List.getElem_cons_zero] at ca cb
                have hmo : ModesAt (hsV hs) := fun q hq => by obtain ⟨y, -, rfl⟩ := List.mem_map.1 hq; exact ⟨y.2, rfl⟩
                have hgo : Calls Try.prog 29 #[.pointer (some ⟨x.p, 0, none⟩), .int .u64 a.1, .int .i64 a.2] wr.drew fun e w' => e = .returned (.bool (goesP (hsV hs) a.1 a.2)) ∧ Below wr.drew.heap.size wr.drew w' :=
                  goes_any wr.drew x.p x.H _ (hsV hs) a.1 a.2 ⟨hp.blk, hp.hl⟩ hmo
                obtain ⟨gb, hgb⟩ : ∃ gb, goesP (hsV hs) a.1 a.2 = gb := ⟨_, rfl⟩
                rw [hgb] at hgo
                have hS0 : wr.drew.cell? ⟨x.p, 1, none⟩ = some (.slice (some ⟨qg, qo, none⟩) qn qc) ∧ wr.drew.cell? ⟨qg, qo, none⟩ = some (.int .u64 a.1) ∧ wr.drew.cell? ⟨qg, qo + 1, none⟩ = some (.int .i64 a.2) := ⟨cq, ca, cb⟩
                have hqn0 : (0 : Int) < (qn : Int) := by have h9 : rest.length + 1 = qn := hqn; omega
                have hqn1 : decide (0 < qn) = true := by simp; omega
                have hqn2 : 0 < qn := by omega
                have HGO := Lib.hid hgo
                have HGB := Lib.hid hgb
                clear hm hxc hp hq hmo hgo hgb cq ca cb hqn e2
                refine wp_region_U (fun W => W.cell? ⟨x.p, 1, none⟩ = some (.slice (some ⟨qg, qo, none⟩) qn qc) ∧ W.cell? ⟨qg, qo, none⟩ = some (.int .u64 a.1) ∧ W.cell? ⟨qg, qo + 1, none⟩ = some (.int .i64 a.2)) [] (by kernel_rfl) ?_
                refine wpAnyU_take (i := 0) [1, 2, 3, 4, 5, 6, 7, 8, 9, 10, 11, 12, 13, 14, 15, 16, 17, 18, 19, 20, 21, 22, 23] rfl (by as_aux_lemma => kernel_rfl) (by as_aux_lemma => kernel_rfl) (by as_aux_lemma => kernel_rfl) (by as_aux_lemma => kernel_rfl) (by as_aux_lemma => kernel_rfl) (by as_aux_lemma => kernel_rfl) (fun _ _ _ h => h) (Or.inl ⟨by rfl, (by intro W hSW; (try dsimp only at hSW); (try go_split_ands); go_simp <;> with_reducible rfl)⟩) hS0 ?_
                try simp only [Act.put, List.getElem_toArray, List.getElem_cons_succ, List.getElem_cons_zero, List.setIfInBounds_toArray, List.set_cons_zero, List.set_cons_succ]
                refine wpAnyU_take (i := 1) [2, 3, 4, 5, 6, 7, 8, 9, 10, 11, 12, 13, 14, 15, 16, 17, 18, 19, 20, 21, 22, 23] rfl (by as_aux_lemma => kernel_rfl) (by as_aux_lemma => kernel_rfl) (by as_aux_lemma => kernel_rfl) (by as_aux_lemma => kernel_rfl) (by as_aux_lemma => kernel_rfl) (by as_aux_lemma => kernel_rfl) (fun _ _ _ h => h) (Or.inl ⟨by rfl, (by intro W hSW; (try dsimp only at hSW); (try go_split_ands); go_simp <;> with_reducible rfl)⟩) hS0 ?_
                try simp only [Act.put, List.getElem_toArray, List.getElem_cons_succ, List.getElem_cons_zero, List.setIfInBounds_toArray, List.set_cons_zero, List.set_cons_succ]
                refine wpAnyU_take (i := 2) [3, 4, 5, 6, 7, 8, 9, 10, 11, 12, 13, 14, 15, 16, 17, 18, 19, 20, 21, 22, 23] rfl (by as_aux_lemma => kernel_rfl) (by as_aux_lemma => kernel_rfl) (by as_aux_lemma => kernel_rfl) (by as_aux_lemma => kernel_rfl) (by as_aux_lemma => kernel_rfl) (by as_aux_lemma => kernel_rfl) (fun _ _ _ h => h) (Or.inl ⟨by rfl, (by intro W hSW; (try dsimp only at hSW); (try go_split_ands); go_simp <;> with_reducible rfl)⟩) hS0 ?_
                try simp only [Act.put, List.getElem_toArray, List.getElem_cons_succ, List.getElem_cons_zero, List.setIfInBounds_toArray, List.set_cons_zero, List.set_cons_succ]
                refine wpAnyU_take (i := 3) [4, 5, 6, 7, 8, 9, 10, 11, 12, 13, 14, 15, 16, 17, 18, 19, 20, 21, 22, 23] rfl (by as_aux_lemma => kernel_rfl) (by as_aux_lemma => kernel_rfl) (by as_aux_lemma => kernel_rfl) (by as_aux_lemma => kernel_rfl) (by as_aux_lemma => kernel_rfl) (by as_aux_lemma => kernel_rfl) (fun _ _ _ h => h) (Or.inl ⟨by rfl, (by intro W hSW; (try dsimp only at hSW); (try go_split_ands); go_simp <;> with_reducible rfl)⟩) hS0 ?_
                try simp only [Act.put, List.getElem_toArray, List.getElem_cons_succ, List.getElem_cons_zero, List.setIfInBounds_toArray, List.set_cons_zero, List.set_cons_succ]
                refine wpAnyU_take (i := 4) [5, 6, 7, 8, 9, 10, 11, 12, 13, 14, 15, 16, 17, 18, 19, 20, 21, 22, 23] rfl (by as_aux_lemma => kernel_rfl) (by as_aux_lemma => kernel_rfl) (by as_aux_lemma => kernel_rfl) (by as_aux_lemma => kernel_rfl) (by as_aux_lemma => kernel_rfl) (by as_aux_lemma => kernel_rfl) (fun _ _ _ h => h) (Or.inl ⟨by rfl, (by intro W hSW; (try dsimp only at hSW); (try go_split_ands); go_simp <;> with_reducible rfl)⟩) hS0 ?_
                try simp only [Act.put, List.getElem_toArray, List.getElem_cons_succ, List.getElem_cons_zero, List.setIfInBounds_toArray, List.set_cons_zero, List.set_cons_succ]
                refine wpAnyU_take (i := 5) [6, 7, 8, 9, 10, 11, 12, 13, 14, 15, 16, 17, 18, 19, 20, 21, 22, 23] rfl (by as_aux_lemma => kernel_rfl) (by as_aux_lemma => kernel_rfl) (by as_aux_lemma => kernel_rfl) (by as_aux_lemma => kernel_rfl) (by as_aux_lemma => kernel_rfl) (by as_aux_lemma => kernel_rfl) (fun _ _ _ h => h) (Or.inl ⟨by rfl, (by intro W hSW; (try dsimp only at hSW); (try go_split_ands); go_simp <;> with_reducible rfl)⟩) hS0 ?_
                try simp only [Act.put, List.getElem_toArray, List.getElem_cons_succ, List.getElem_cons_zero, List.setIfInBounds_toArray, List.set_cons_zero, List.set_cons_succ]
                refine wpAnyU_take (i := 6) [7, 8, 9, 10, 11, 12, 13, 14, 15, 16, 17, 18, 19, 20, 21, 22, 23] rfl (by as_aux_lemma => kernel_rfl) (by as_aux_lemma => kernel_rfl) (by as_aux_lemma => kernel_rfl) (by as_aux_lemma => kernel_rfl) (by as_aux_lemma => kernel_rfl) (by as_aux_lemma => kernel_rfl) (fun _ _ _ h => h) (Or.inl ⟨by rfl, (by intro W hSW; (try dsimp only at hSW); (try go_split_ands); go_simp <;> with_reducible rfl)⟩) hS0 ?_
                try simp only [Act.put, List.getElem_toArray, List.getElem_cons_succ, List.getElem_cons_zero, List.setIfInBounds_toArray, List.set_cons_zero, List.set_cons_succ]
                refine wpAnyU_take (i := 7) [22, 23] rfl (by as_aux_lemma => kernel_rfl) (by as_aux_lemma => kernel_rfl) (by as_aux_lemma => kernel_rfl) (by as_aux_lemma => kernel_rfl) (by as_aux_lemma => kernel_rfl) (by as_aux_lemma => kernel_rfl) (fun _ _ _ h => h) (by first | exact Or.inl ⟨by rfl, (by intro W hSW; (try dsimp only at hSW); (try go_split_ands); go_simp <;> with_reducible rfl)⟩ | exact Or.inr ⟨by rfl, rfl⟩) hS0 ?_
                try simp only [Act.put, List.getElem_toArray, List.getElem_cons_succ, List.getElem_cons_zero, List.setIfInBounds_toArray, List.set_cons_zero, List.set_cons_succ]
                refine wpAnyU_take (i := 8) [9, 10, 11, 12, 13, 14, 22, 23] rfl (by as_aux_lemma => kernel_rfl) (by as_aux_lemma => kernel_rfl) (by as_aux_lemma => kernel_rfl) (by as_aux_lemma => kernel_rfl) (by as_aux_lemma => kernel_rfl) (by as_aux_lemma => kernel_rfl) (fun _ _ _ h => h) (by first | exact Or.inl ⟨by rfl, (by intro W hSW; (try dsimp only at hSW); (try go_split_ands); go_simp <;> with_reducible rfl)⟩ | exact Or.inr ⟨by rfl, rfl⟩) hS0 ?_
                try simp only [Act.put, List.getElem_toArray, List.getElem_cons_succ, List.getElem_cons_zero, List.setIfInBounds_toArray, List.set_cons_zero, List.set_cons_succ]
                refine wpAnyU_take (i := 9) [10, 11, 12, 13, 14, 22, 23] rfl (by as_aux_lemma => kernel_rfl) (by as_aux_lemma => kernel_rfl) (by as_aux_lemma => kernel_rfl) (by as_aux_lemma => kernel_rfl) (by as_aux_lemma => kernel_rfl) (by as_aux_lemma => kernel_rfl) (fun _ _ _ h => h) (by first | exact Or.inl ⟨by rfl, (by intro W hSW; (try dsimp only at hSW); (try go_split_ands); go_simp <;> with_reducible rfl)⟩ | exact Or.inr ⟨by rfl, rfl⟩) hS0 ?_
                try simp only [Act.put, List.getElem_toArray, List.getElem_cons_succ, List.getElem_cons_zero, List.setIfInBounds_toArray, List.set_cons_zero, List.set_cons_succ]
                refine wpAnyU_take (i := 10) [11, 12, 13, 14, 22, 23] rfl (by as_aux_lemma => kernel_rfl) (by as_aux_lemma => kernel_rfl) (by as_aux_lemma => kernel_rfl) (by as_aux_lemma => kernel_rfl) (by as_aux_lemma => kernel_rfl) (by as_aux_lemma => kernel_rfl) (fun _ _ _ h => h) (by first | exact Or.inl ⟨by rfl, (by intro W hSW; (try dsimp only at hSW); (try go_split_ands); go_simp <;> with_reducible rfl)⟩ | exact Or.inr ⟨by rfl, rfl⟩) hS0 ?_
                try simp only [Act.put, List.getElem_toArray, List.getElem_cons_succ, List.getElem_cons_zero, List.setIfInBounds_toArray, List.set_cons_zero, List.set_cons_succ]
                refine wpAnyU_take (i := 11) [12, 13, 14, 22, 23] rfl (by as_aux_lemma => kernel_rfl) (by as_aux_lemma => kernel_rfl) (by as_aux_lemma => kernel_rfl) (by as_aux_lemma => kernel_rfl) (by as_aux_lemma => kernel_rfl) (by as_aux_lemma => kernel_rfl) (fun _ _ _ h => h) (by first | exact Or.inl ⟨by rfl, (by intro W hSW; (try dsimp only at hSW); (try go_split_ands); go_simp <;> with_reducible rfl)⟩ | exact Or.inr ⟨by rfl, rfl⟩) hS0 ?_
                try simp only [Act.put, List.getElem_toArray, List.getElem_cons_succ, List.getElem_cons_zero, List.setIfInBounds_toArray, List.set_cons_zero, List.set_cons_succ]
                refine wpAnyU_take (i := 12) [13, 14, 22, 23] rfl (by as_aux_lemma => kernel_rfl) (by as_aux_lemma => kernel_rfl) (by as_aux_lemma => kernel_rfl) (by as_aux_lemma => kernel_rfl) (by as_aux_lemma => kernel_rfl) (by as_aux_lemma => kernel_rfl) (fun _ _ _ h => h) (by first | exact Or.inl ⟨by rfl, (by intro W hSW; (try dsimp only at hSW); (try go_split_ands); go_simp <;> with_reducible rfl)⟩ | exact Or.inr ⟨by rfl, rfl⟩) hS0 ?_
                try simp only [Act.put, List.getElem_toArray, List.getElem_cons_succ, List.getElem_cons_zero, List.setIfInBounds_toArray, List.set_cons_zero, List.set_cons_succ]
                refine wpAnyU_take (i := 13) [14, 22, 23] rfl (by as_aux_lemma => kernel_rfl) (by as_aux_lemma => kernel_rfl) (by as_aux_lemma => kernel_rfl) (by as_aux_lemma => kernel_rfl) (by as_aux_lemma => kernel_rfl) (by as_aux_lemma => kernel_rfl) (fun _ _ _ h => h) (by first | exact Or.inl ⟨by rfl, (by intro W hSW; (try dsimp only at hSW); (try go_split_ands); go_simp <;> with_reducible rfl)⟩ | exact Or.inr ⟨by rfl, rfl⟩) hS0 ?_
                try simp only [Act.put, List.getElem_toArray, List.getElem_cons_succ, List.getElem_cons_zero, List.setIfInBounds_toArray, List.set_cons_zero, List.set_cons_succ]
                refine wpAnyU_take (i := 14) [22, 23] rfl (by as_aux_lemma => kernel_rfl) (by as_aux_lemma => kernel_rfl) (by as_aux_lemma => kernel_rfl) (by as_aux_lemma => kernel_rfl) (by as_aux_lemma => kernel_rfl) (by as_aux_lemma => kernel_rfl) (fun _ _ _ h => h) (by first | exact Or.inl ⟨by rfl, (by intro W hSW; (try dsimp only at hSW); (try go_split_ands); go_simp <;> with_reducible rfl)⟩ | exact Or.inr ⟨by rfl, rfl⟩) hS0 ?_
                try simp only [Act.put, List.getElem_toArray, List.getElem_cons_succ, List.getElem_cons_zero, List.setIfInBounds_toArray, List.set_cons_zero, List.set_cons_succ]
                refine wpAnyU_take (i := 15) [16, 17, 18, 19, 20, 21, 22, 23] rfl (by as_aux_lemma => kernel_rfl) (by as_aux_lemma => kernel_rfl) (by as_aux_lemma => kernel_rfl) (by as_aux_lemma => kernel_rfl) (by as_aux_lemma => kernel_rfl) (by as_aux_lemma => kernel_rfl) (fun _ _ _ h => h) (by first | exact Or.inl ⟨by rfl, (by intro W hSW; (try dsimp only at hSW); (try go_split_ands); go_simp <;> with_reducible rfl)⟩ | exact Or.inr ⟨by rfl, rfl⟩) hS0 ?_
                try simp only [Act.put, List.getElem_toArray, List.getElem_cons_succ, List.getElem_cons_zero, List.setIfInBounds_toArray, List.set_cons_zero, List.set_cons_succ]
                refine wpAnyU_take (i := 16) [17, 18, 19, 20, 21, 22, 23] rfl (by as_aux_lemma => kernel_rfl) (by as_aux_lemma => kernel_rfl) (by as_aux_lemma => kernel_rfl) (by as_aux_lemma => kernel_rfl) (by as_aux_lemma => kernel_rfl) (by as_aux_lemma => kernel_rfl) (fun _ _ _ h => h) (by first | exact Or.inl ⟨by rfl, (by intro W hSW; (try dsimp only at hSW); (try go_split_ands); go_simp <;> with_reducible rfl)⟩ | exact Or.inr ⟨by rfl, rfl⟩) hS0 ?_
                try simp only [Act.put, List.getElem_toArray, List.getElem_cons_succ, List.getElem_cons_zero, List.setIfInBounds_toArray, List.set_cons_zero, List.set_cons_succ]
                refine wpAnyU_take (i := 17) [18, 19, 20, 21, 22, 23] rfl (by as_aux_lemma => kernel_rfl) (by as_aux_lemma => kernel_rfl) (by as_aux_lemma => kernel_rfl) (by as_aux_lemma => kernel_rfl) (by as_aux_lemma => kernel_rfl) (by as_aux_lemma => kernel_rfl) (fun _ _ _ h => h) (by first | exact Or.inl ⟨by rfl, (by intro W hSW; (try dsimp only at hSW); (try go_split_ands); go_simp <;> with_reducible rfl)⟩ | exact Or.inr ⟨by rfl, rfl⟩) hS0 ?_
                try simp only [Act.put, List.getElem_toArray, List.getElem_cons_succ, List.getElem_cons_zero, List.setIfInBounds_toArray, List.set_cons_zero, List.set_cons_succ]
                refine wpAnyU_take (i := 18) [19, 20, 21, 22, 23] rfl (by as_aux_lemma => kernel_rfl) (by as_aux_lemma => kernel_rfl) (by as_aux_lemma => kernel_rfl) (by as_aux_lemma => kernel_rfl) (by as_aux_lemma => kernel_rfl) (by as_aux_lemma => kernel_rfl) (fun _ _ _ h => h) (by first | exact Or.inl ⟨by rfl, (by intro W hSW; (try dsimp only at hSW); (try go_split_ands); go_simp <;> with_reducible rfl)⟩ | exact Or.inr ⟨by rfl, rfl⟩) hS0 ?_
                try simp only [Act.put, List.getElem_toArray, List.getElem_cons_succ, List.getElem_cons_zero, List.setIfInBounds_toArray, List.set_cons_zero, List.set_cons_succ]
                refine wpAnyU_take (i := 19) [20, 21, 22, 23] rfl (by as_aux_lemma => kernel_rfl) (by as_aux_lemma => kernel_rfl) (by as_aux_lemma => kernel_rfl) (by as_aux_lemma => kernel_rfl) (by as_aux_lemma => kernel_rfl) (by as_aux_lemma => kernel_rfl) (fun _ _ _ h => h) (by first | exact Or.inl ⟨by rfl, (by intro W hSW; (try dsimp only at hSW); (try go_split_ands); go_simp <;> with_reducible rfl)⟩ | exact Or.inr ⟨by rfl, rfl⟩) hS0 ?_
                try simp only [Act.put, List.getElem_toArray, List.getElem_cons_succ, List.getElem_cons_zero, List.setIfInBounds_toArray, List.set_cons_zero, List.set_cons_succ]
                refine wpAnyU_take (i := 20) [21, 22, 23] rfl (by as_aux_lemma => kernel_rfl) (by as_aux_lemma => kernel_rfl) (by as_aux_lemma => kernel_rfl) (by as_aux_lemma => kernel_rfl) (by as_aux_lemma => kernel_rfl) (by as_aux_lemma => kernel_rfl) (fun _ _ _ h => h) (by first | exact Or.inl ⟨by rfl, (by intro W hSW; (try dsimp only at hSW); (try go_split_ands); go_simp <;> with_reducible rfl)⟩ | exact Or.inr ⟨by rfl, rfl⟩) hS0 ?_
                try simp only [Act.put, List.getElem_toArray, List.getElem_cons_succ, List.getElem_cons_zero, List.setIfInBounds_toArray, List.set_cons_zero, List.set_cons_succ]
                refine wpAnyU_take (i := 21) [22, 23] rfl (by as_aux_lemma => kernel_rfl) (by as_aux_lemma => kernel_rfl) (by as_aux_lemma => kernel_rfl) (by as_aux_lemma => kernel_rfl) (by as_aux_lemma => kernel_rfl) (by as_aux_lemma => kernel_rfl) (fun _ _ _ h => h) (by first | exact Or.inl ⟨by rfl, (by intro W hSW; (try dsimp only at hSW); (try go_split_ands); go_simp <;> with_reducible rfl)⟩ | exact Or.inr ⟨by rfl, rfl⟩) hS0 ?_
                try simp only [Act.put, List.getElem_toArray, List.getElem_cons_succ, List.getElem_cons_zero, List.setIfInBounds_toArray, List.set_cons_zero, List.set_cons_succ]
                refine wpAnyU_one (i := 22) (by kernel_rfl) rfl (fun K hK => ?_)
                go_simp
                go_at_call 29
                (with_reducible refine HGO.out.mono ?_)
                rintro e w8 ⟨rfl, hb8⟩
                have hb8' : Below wr.heap.size wr w8 := (below_drewN (Below.refl _ _) 1).trans hb8
                have hS1 : w8.cell? ⟨x.p, 1, none⟩ = some (.slice (some ⟨qg, qo, none⟩) qn qc) ∧ w8.cell? ⟨qg, qo, none⟩ = some (.int .u64 a.1) ∧ w8.cell? ⟨qg, qo + 1, none⟩ = some (.int .i64 a.2) := by
                  obtain ⟨y1, y2, y3⟩ := hS0
                  exact ⟨by rw [World.cell?_of_block (hb8.block _ (World.block_lt_of_cell? _ _ y1))]; exact y1, by rw [World.cell?_of_block (hb8.block _ (World.block_lt_of_cell? _ _ y2))]; exact y2, by rw [World.cell?_of_block (hb8.block _ (World.block_lt_of_cell? _ _ y3))]; exact y3⟩
                have HB8 := Lib.hid hb8'
                clear hb8 hb8'
                refine hK.out _ _ (fun _ => hS1) (fun _ => ?_)
                clear hK K
                try simp only [Act.put, List.getElem_toArray, List.getElem_cons_succ, List.getElem_cons_zero, List.setIfInBounds_toArray, List.set_cons_zero, List.set_cons_succ]
                refine wpAnyU_take (i := 23) [] rfl (by as_aux_lemma => kernel_rfl) (by as_aux_lemma => kernel_rfl) (by as_aux_lemma => kernel_rfl) (by as_aux_lemma => kernel_rfl) (by as_aux_lemma => kernel_rfl) (by as_aux_lemma => kernel_rfl) (fun _ _ _ h => h) (Or.inl ⟨by rfl, (by intro W hSW; (try dsimp only at hSW); (try go_split_ands); go_simp <;> with_reducible rfl)⟩) hS1 ?_
                try simp only [Act.put, List.getElem_toArray, List.getElem_cons_succ, List.getElem_cons_zero, List.setIfInBounds_toArray, List.set_cons_zero, List.set_cons_succ]
                refine wpAnyU_done (by kernel_rfl) ?_ _
                clear hS0 hS1 HGO
                go_wp2
                go_meet
                refine ⟨gb, rfl, HM.out.1.below HB8.out, (fun h => ⟨a, rest, rfl, by rw [HGB.out]; exact h⟩), fun h => ?_⟩
                show popQ hs (a :: rest) = _
                rw [popQ, if_neg (by rw [HGB.out, h]; decide)]
            case rest =>
              obtain ⟨b, rfl, hm8, hb1, hb2⟩ := hcut
              clear HM hm hxc hp hq
              obtain ⟨w8, hw8⟩ : ∃ w8, wc = w8 := ⟨_, rfl⟩
              rw [hw8] at hm8 ⊢
              clear hw8
              cases b with
              | false =>
                have hstop := hb2 rfl
                have hpop := hm8.pop
                rw [hstop] at hpop
                simp only [List.append_nil] at hpop
                have hxc := freeT_get (s := s) (x := x) (q := .slice qa qn qc) (hs := hs) (cur := cur) (ws := ws) (nm := nm) HIL.out
                obtain ⟨hp8, hq8⟩ := hm8.tab.rep.pls i _ hxc
                have cq : w8.cell? ⟨x.p, 1, none⟩ = some (.slice qa qn qc) := cell_of_row w8 x.p 1 _ _ _ hp8.blk
                have ch : w8.cell? ⟨x.p, 0, none⟩ = some (.map (some x.H)) := cell_of_row w8 x.p 0 _ _ _ hp8.blk
                have c00 : w8.cell? ⟨t.T, 0, none⟩ = some (.map (some t.P)) := cell_of_row w8 t.T 0 _ _ _ hm8.tab.rep.tab.blk
                obtain ⟨hn9, hhn⟩ : ∃ hn9, hs.length = hn9 := ⟨_, rfl⟩
                have hlen9 : ∀ ty, (Builtin.len_ #[68] ty #[.map (some x.H)]).run Try.prog w8 = .ok (.int .i64 hn9) w8 := fun ty => by
                  have h9 := gmap_len (P := Try.prog) (ty := ty) Try.underlying68 hp8.hl
                  rw [show (hsV hs).length = hn9 by rw [← hhn]; simp [hsV]] at h9
                  exact h9
                have row8 := hm8.row
                have hrow9 : w8.ownsRow W0.heap.size 29 1 (.slice oa on oc) (popQ (kdel x.hs o) x.qs).2.2.length (ov (popQ (kdel x.hs o) x.qs).2.2) := by rw [hpop]; exact row8
                by_cases hz : hn9 = 0 ∧ qn = 0
                · obtain ⟨rfl, rfl⟩ := hz
                  obtain rfl : hs = [] := List.eq_nil_of_length_eq_zero hhn
                  obtain rfl : cur = [] := List.eq_nil_of_length_eq_zero hqn
                  obtain ⟨w9, hr9, ht9, htab9⟩ := TabL.placeDel hm8.tab s
                  have hr9' : ∀ ty, (Builtin.delete_ #[62, 9] ty #[.map (some t.P), .string s]).run Try.prog w8 = .ok (.tuple #[]) w9 := hr9
                  have hst : FreeSt W0 t i s x o w9 (.slice oa on oc) := by
                    refine ⟨.slice qa 0 qc, ws, nm, _, rowKeep hrow9 ht9 (fun cs e => cells_ne_map hm8.tab.rep.tab.pl e rfl), htab9, by rw [hpop]; exact hm8.ws, fun u => by rw [hpop]; exact hm8.nm u, ?_⟩
                    rw [hpop]
                    rw [if_pos ⟨rfl, rfl⟩]
                  have HST := Lib.hid hst
                  clear hst hr9 ht9 htab9 hxc hp8 hq8 hrow9 row8 hpop hstop hm8 hb1 hb2 hhn hqn
                  go_wp2
                  go_roundw
                  case rel => exact .inr ⟨by go_num, HST.out⟩
                  case measure => simp [Go.RowKit.intOf]
                · have hst : FreeSt W0 t i s x o w8 (.slice oa on oc) := by
                    refine ⟨.slice qa qn qc, ws, nm, _, hrow9, hm8.tab, by rw [hpop]; exact hm8.ws, fun u => by rw [hpop]; exact hm8.nm u, ?_⟩
                    rw [hpop]
                    rw [if_neg (fun h => hz ⟨by rw [← hhn, show hs = [] from h.1]; rfl, by rw [← hqn, show cur = [] from h.2]; rfl⟩)]
                  have HST := Lib.hid hst
                  have hz9 : (decide (hn9 = 0) && decide (qn = 0)) = false := by simp; omega
                  clear hst hxc hp8 hq8 hrow9 row8 hpop hstop hm8 hb1 hb2 hhn hqn
                  by_cases hh0 : hn9 = 0
                  · subst hh0
                    have hq1 : ((qn : Int) == 0) = false := by simp; omega
                    have hq2 : ¬ qn = 0 := by omega
                    clear hz hz9
                    go_wp2
                    go_roundw
                    case rel => exact .inr ⟨by go_num, HST.out⟩
                    case measure => simp [Go.RowKit.intOf]
                  · have hq1 : ((hn9 : Int) == 0) = false := by simp; omega
                    clear hz hz9
                    go_wp2
                    go_roundw
                    case rel => exact .inr ⟨by go_num, HST.out⟩
                    case measure => simp [Go.RowKit.intOf]
              | true =>
                obtain ⟨a, rest, rfl, hg⟩ := hb1 rfl
                have hxc := freeT_get (s := s) (x := x) (q := .slice qa qn qc) (hs := hs) (cur := a :: rest) (ws := ws) (nm := nm) HIL.out
                obtain ⟨hp8, hq8⟩ := hm8.tab.rep.pls i _ hxc
                obtain ⟨qg, qo, qc2, e, ca, cb⟩ := hq8.at_ 0 (by simp)
                injection e with e1 e2 e3
                subst e1 e3
                simp only [Nat.zero_mul, Nat.add_zero, List.getElem_cons_zero] at ca cb
                have cq : w8.cell? ⟨x.p, 1, none⟩ = some (.slice (some ⟨qg, qo, none⟩) qn qc) := cell_of_row w8 x.p 1 _ _ _ hp8.blk
                obtain ⟨w9, hw9⟩ : ∃ w9, w8.alloc (.cells #[.int .u64 a.1, .int .i64 a.2] 77) = w9 := ⟨_, rfl⟩
                have hb9 : Below w8.heap.size w8 w9 := by rw [← hw9]; exact (Below.refl _ _).alloc (Nat.le_refl _) _
                have hm9 := hm8.below hb9
                have k9 : w9.heap[w8.heap.size]? = some (.cells #[.int .u64 a.1, .int .i64 a.2] 77 (0, 0)) := by rw [← hw9]; exact heap_alloc_new w8 _
                obtain ⟨hp9, hq9⟩ := hm9.tab.rep.pls i _ hxc
                obtain ⟨q2, c2, hsl, hq9', hqb⟩ := hq9.pop
                obtain ⟨ht10, htab10⟩ := hm9.tab.queueSet hxc hq9' hqb
                simp only at ht10 htab10
                have cq9 : w9.cell? ⟨x.p, 1, none⟩ = some (.slice (some ⟨qg, qo, none⟩) qn qc) := cell_of_row w9 x.p 1 _ _ _ hp9.blk
                have fq9 : w9.frozen? ⟨x.p, 1, none⟩ = false := by simp [World.frozen?, hp9.blk]
                obtain ⟨w10, hw10⟩ : ∃ w10, w9.setCell ⟨x.p, 1, none⟩ (.slice (some q2) rest.length c2) = w10 := ⟨_, rfl⟩
                rw [hw10] at ht10 htab10
                have k10 := ht10.cells k9 (cells_ty_ne k9 hp9.blk (by decide))
                have d0 : w10.cell? ⟨w8.heap.size, 0, none⟩ = some (.int .u64 a.1) := cell_of_row w10 _ 0 _ _ _ k10
                have d1 : w10.cell? ⟨w8.heap.size, 1, none⟩ = some (.int .i64 a.2) := cell_of_row w10 _ 1 _ _ _ k10
                have row10 : w10.ownsRow W0.heap.size 29 1 (.slice oa on oc) pre.length (ov pre) := rowKeep hm9.row ht10 (fun cs e => by rw [hp9.blk] at e; injection e with e; injection e with _ e _; exact absurd e (by decide))
                have hx10 : ((freeT t i s x (.slice (some ⟨qg, qo, none⟩) qn qc) hs (a :: rest) ws nm).pl.set i (s, { x with q := .slice (some q2) rest.length c2, hs := hs, qs := rest }))[i]? = some (s, { x with q := .slice (some q2) rest.length c2, hs := hs, qs := rest }) := by
                  rw [List.getElem?_set]
                  simp [freeT, HIL.out]
                have hh := hold_fr htab10 hx10 a.1 a.2
                have HH := Lib.hid hh
                have H8 := Lib.hid (And.intro hm8 (And.intro hg (And.intro k10 row10)))
                have hqn0 : (0 : Int) < (qn : Int) := by have h9 : rest.length + 1 = qn := hqn; omega
                have hqn2 : 0 < qn := by omega
                clear hm8 hxc hp8 hq8 hb9 hm9 k9 hp9 hq9 hq9' hqb ht10 htab10 k10 row10 hx10 hh hg hb1 hb2 hqn e2
                go_wp2_with fail
                refine HH.out.mono ?_
                rintro e w11 ⟨rfl, nm', htab11, hnm11, hfr11⟩
                have htab : TabL W0 w11 (freeT t i s x (.slice (some q2) rest.length c2) (kset hs a.1 a.2) rest ws nm') := by
                  have h9 := htab11
                  simp only [held1, freeT, List.set_set] at h9
                  exact h9
                have k11 := hfr11 _ _ _ _ H8.out.2.2.1
                have row11 : w11.ownsRow W0.heap.size 29 1 (.slice oa on oc) pre.length (ov pre) := rowU_keep H8.out.2.2.2 (fun k e => by
                  obtain ⟨cur9, hc9⟩ := rowU_blk H8.out.2.2.2 e
                  exact (hfr11 _ _ _ _ hc9).trans hc9.symm)
                have d0' : w11.cell? ⟨w8.heap.size, 0, none⟩ = some (.int .u64 a.1) := cell_of_row w11 _ 0 _ _ _ k11
                have hsz11 : W0.heap.size ≤ w11.heap.size := htab.bl.size
                obtain ⟨w12, hr12, ht12, htab12⟩ := TabL.waitsDel (htab.below (below_drewN (Below.refl _ _) 1) : TabL W0 w11.drew _) a.1
                have hr12' : ∀ ty, (Builtin.delete_ #[63, 29] ty #[.map (some t.W), .int .u64 a.1]).run Try.prog w11.drew = .ok (.tuple #[]) w12 := hr12
                clear hr12
                have k12 : w12.heap[w8.heap.size]? = some (.cells #[.int .u64 a.1, .int .i64 a.2] 77 (0, 0)) := ht12.cells k11 (cells_ne_map htab.rep.tab.wt k11)
                have row12 : w12.ownsRow W0.heap.size 29 1 (.slice oa on oc) pre.length (ov pre) := rowKeep (w := w11.drew) row11 ht12 (fun cs e => cells_ne_map (w := w11) htab.rep.tab.wt e rfl)
                have hS0 : w11.drew.cell? ⟨t.T, 1, none⟩ = some (.map (some t.W)) ∧ w11.drew.cell? ⟨w8.heap.size, 0, none⟩ = some (.int .u64 a.1) := ⟨cell_of_row w11.drew t.T 1 _ _ _ htab.rep.tab.blk, d0'⟩
                have hS1 : w12.cell? ⟨t.T, 1, none⟩ = some (.map (some t.W)) ∧ w12.cell? ⟨w8.heap.size, 0, none⟩ = some (.int .u64 a.1) := ⟨cell_of_row w12 t.T 1 _ _ _ htab12.rep.tab.blk, cell_of_row w12 _ 0 _ _ _ k12⟩
                have hpl : pre.length < 8796093022200 := by
                  have h8 := congrArg List.length H8.out.1.all
                  simp at h8
                  omega
                obtain ⟨R, cp, w13, hr13, hrow13, z1, z2, z3, z4, z5⟩ := push_o (ty := 36) a row12 htab12.bl.size hpl
                rw [HON.out] at hr13
                have htab13 := htab12.rowTurn row12 z1 z2 z3 z4 z5
                have hmid : FreeMid W0 t i s x o (pre ++ [a]) w13 (.slice (some ⟨R, 0, none⟩) (on + 1) cp) (.slice (some q2) rest.length c2) (kset hs a.1 a.2) rest (kdel ws a.1) nm' := by
                  refine ⟨htab13, ?_, ?_, ?_, fun u => ?_, ?_⟩
                  · rw [H8.out.1.pop, popQ, if_pos H8.out.2.1]
                    simp
                  · rw [← H8.out.1.all]; simp
                  · rw [wsPop_snoc, H8.out.1.ws]
                  · rw [nmPop_snoc]
                    have h9 := hnm11 u
                    have h8 := H8.out.1.nm u
                    have h7 := H8.out.1.nm a.1
                    unfold nmGet at h7 h8 ⊢
                    rw [h9]
                    show (if u = a.1 then _ else _) = (if u = a.1 then _ else _)
                    by_cases hu : u = a.1
                    · rw [if_pos hu, if_pos hu, ← h7]; rfl
                    · rw [if_neg hu, if_neg hu, ← h8]; rfl
                  · have h9 := hrow13
                    rw [HON.out] at h9
                    exact h9
                have hpn : (pre ++ [a]).length = on + 1 := by rw [← HON.out]; simp
                have HMID := Lib.hid (And.intro hmid hpn)
                have hlen : on < x.qs.length := by
                  have h8 := congrArg List.length H8.out.1.all
                  simp at h8
                  have h9 := HON.out
                  omega
                have HLEN := Lib.hid hlen
                have HR13 := Lib.hid hr13
                clear htab11 hnm11 hfr11 htab k11 row11 d0' htab12 k12 row12 ht12 hpl hr13 hrow13 z1 z2 z3 z4 z5 htab13 hmid hpn hlen
                go_upto_region 26 with fail
                refine wp_region_U (fun W => W.cell? ⟨t.T, 1, none⟩ = some (.map (some t.W)) ∧ W.cell? ⟨w8.heap.size, 0, none⟩ = some (.int .u64 a.1)) [] (by kernel_rfl) ?_
                refine wpAnyU_take (i := 0) [1, 2, 3, 6] rfl (by as_aux_lemma => kernel_rfl) (by as_aux_lemma => kernel_rfl) (by as_aux_lemma => kernel_rfl) (by as_aux_lemma => kernel_rfl) (by as_aux_lemma => kernel_rfl) (by as_aux_lemma => kernel_rfl) (fun _ _ _ h => h) (Or.inl ⟨by rfl, (by intro W hSW; (try dsimp only at hSW); (try go_split_ands); go_simp <;> with_reducible rfl)⟩) hS0 ?_
                try simp only [Act.put, List.getElem_toArray, List.getElem_cons_succ, List.getElem_cons_zero, List.setIfInBounds_toArray, List.set_cons_zero, List.set_cons_succ]
                refine wpAnyU_take (i := 1) [2, 3, 6] rfl (by as_aux_lemma => kernel_rfl) (by as_aux_lemma => kernel_rfl) (by as_aux_lemma => kernel_rfl) (by as_aux_lemma => kernel_rfl) (by as_aux_lemma => kernel_rfl) (by as_aux_lemma => kernel_rfl) (fun _ _ _ h => h) (Or.inl ⟨by rfl, (by intro W hSW; (try dsimp only at hSW); (try go_split_ands); go_simp <;> with_reducible rfl)⟩) hS0 ?_
                try simp only [Act.put, List.getElem_toArray, List.getElem_cons_succ, List.getElem_cons_zero, List.setIfInBounds_toArray, List.set_cons_zero, List.set_cons_succ]
                refine wpAnyU_take (i := 2) [3, 6] rfl (by as_aux_lemma => kernel_rfl) (by as_aux_lemma => kernel_rfl) (by as_aux_lemma => kernel_rfl) (by as_aux_lemma => kernel_rfl) (by as_aux_lemma => kernel_rfl) (by as_aux_lemma => kernel_rfl) (fun _ _ _ h => h) (Or.inl ⟨by rfl, (by intro W hSW; (try dsimp only at hSW); (try go_split_ands); go_simp <;> with_reducible rfl)⟩) hS0 ?_
                try simp only [Act.put, List.getElem_toArray, List.getElem_cons_succ, List.getElem_cons_zero, List.setIfInBounds_toArray, List.set_cons_zero, List.set_cons_succ]
                refine wpAnyU_take (i := 3) [6] rfl (by as_aux_lemma => kernel_rfl) (by as_aux_lemma => kernel_rfl) (by as_aux_lemma => kernel_rfl) (by as_aux_lemma => kernel_rfl) (by as_aux_lemma => kernel_rfl) (by as_aux_lemma => kernel_rfl) (fun _ _ _ h => h) (Or.inl ⟨by rfl, (by intro W hSW; (try dsimp only at hSW); (try go_split_ands); go_simp <;> with_reducible rfl)⟩) hS0 ?_
                try simp only [Act.put, List.getElem_toArray, List.getElem_cons_succ, List.getElem_cons_zero, List.setIfInBounds_toArray, List.set_cons_zero, List.set_cons_succ]
                refine wpAnyU_take (i := 4) [5, 6] rfl (by as_aux_lemma => kernel_rfl) (by as_aux_lemma => kernel_rfl) (by as_aux_lemma => kernel_rfl) (by as_aux_lemma => kernel_rfl) (by as_aux_lemma => kernel_rfl) (by as_aux_lemma => kernel_rfl) (fun _ _ _ h => h) (Or.inl ⟨by rfl, (by intro W hSW; (try dsimp only at hSW); (try go_split_ands); go_simp <;> with_reducible rfl)⟩) hS0 ?_
                try simp only [Act.put, List.getElem_toArray, List.getElem_cons_succ, List.getElem_cons_zero, List.setIfInBounds_toArray, List.set_cons_zero, List.set_cons_succ]
                refine wpAnyU_take (i := 5) [6] rfl (by as_aux_lemma => kernel_rfl) (by as_aux_lemma => kernel_rfl) (by as_aux_lemma => kernel_rfl) (by as_aux_lemma => kernel_rfl) (by as_aux_lemma => kernel_rfl) (by as_aux_lemma => kernel_rfl) (fun _ _ _ h => h) (Or.inl ⟨by rfl, (by intro W hSW; (try dsimp only at hSW); (try go_split_ands); go_simp <;> with_reducible rfl)⟩) hS0 ?_
                try simp only [Act.put, List.getElem_toArray, List.getElem_cons_succ, List.getElem_cons_zero, List.setIfInBounds_toArray, List.set_cons_zero, List.set_cons_succ]
                refine wpAnyU_one (i := 6) (by kernel_rfl) rfl (fun K hK => ?_)
                go_simp
                refine hK.out _ _ (fun _ => hS1) (fun _ => ?_)
                clear hK K
                try simp only [Act.put, List.getElem_toArray, List.getElem_cons_succ, List.getElem_cons_zero, List.setIfInBounds_toArray, List.set_cons_zero, List.set_cons_succ]
                refine wpAnyU_done (by kernel_rfl) ?_ _
                obtain ⟨d2, d3⟩ := hS1
                clear hS0 hr12'
                go_wp2_with (at_builtin; refine wpList_append_eq rfl rfl HR13.out rfl rfl ?_; clear HR13)
                go_roundw
                case rel => exact ⟨some ⟨R, 0, none⟩, on + 1, cp, rfl, pre ++ [a], _, _, rest, _, nm', HMID.out.2, HMID.out.1⟩
                case measure => have := HLEN.out; simp [slen]; omega
        · obtain ⟨q, ws, nm, t', hrow, htab, hws, hnm, ht'⟩ := hfin
          obtain ⟨oa, oc, rfl, -⟩ := (RdV.of_own (F := NoF) hrow (fun _ _ => noF _)).form
          obtain ⟨pn, hpn⟩ : ∃ pn, (popQ (kdel x.hs o) x.qs).2.2.length = pn := ⟨_, rfl⟩
          have hpn2 : pn ≤ 8796093022200 := by rw [← hpn]; exact Nat.le_trans (popQ_len _ _) hql
          have hrow2 := hrow
          rw [hpn] at hrow2 ⊢
          rw [← hpn] at hrow2
          obtain ⟨wm, v', w', hmk, hap, hown, hbl⟩ := copy_out (n := pn) (by have h9 := hrow; rw [hpn] at h9 ⊢; exact h9) hpn hpn2 htab.bl.size
          have hst : FreeSt W0 t i s x o w' v' := ⟨q, ws, nm, t', hown, htab.below hbl, hws, hnm, ht'⟩
          have HST := Lib.hid hst
          have HAP := Lib.hid hap
          have hpb : (pn : Int) ≤ 8796093022200 := by omega
          clear hrow hrow2 htab hws hnm ht' hown hbl hst hap hpn
          go_wp2_with (at_builtin; refine wpList_append_eq rfl rfl HAP.out rfl rfl ?_; clear HAP)
          go_ret
          exact ⟨v', rfl, HST.out⟩
end Mun
end

section
/- Free, over a whole table: up to its loops. -/
set_option maxRecDepth 100000
set_option linter.unusedVariables false
set_option linter.unusedSimpArgs false
namespace Mun
open Go Go.RowKit
open Go.Proofs

/-- within Free: the table; the owner's own cell -/
structure FrA (w : World) (t : TV) (b0 : Nat) (o : Int) (wr : World) (t' : TV) : Prop where
  stp : Stp w t wr t'
  own : wr.heap[b0]? = some (.cells #[.int .u64 o] 29 (0, 0))
  nb : ¬ tfoot t' b0
section
variable {w wr w' : World} {t t' t'' : TV} {b0 : Nat} {o : Int}
theorem FrA.below (h : FrA w t b0 o wr t') (hb : Below wr.heap.size wr w') : FrA w t b0 o w' t' := ⟨h.stp.below hb, (hb.block _ (lt_of_block h.own)).trans h.own, h.nb⟩
theorem FrA.step (h : FrA w t b0 o wr t') (k : Stp wr t' w' t'') : FrA w t b0 o w' t'' := ⟨h.stp.trans k, k.block h.own h.nb, k.nfoot (lt_of_block h.own) h.nb⟩
theorem FrA.drew (h : FrA w t b0 o wr t') : FrA w t b0 o wr.drew t' := h.below (below_drewN (Below.refl _ _) 1)
theorem FrA.cT (h : FrA w t b0 o wr t') (i : Nat) (v : Value) (hv : #[.map (some t'.P), .map (some t'.W), .map (some t'.N)][i]? = some v) : wr.cell? ⟨t.T, i, none⟩ = some v := by
  have h9 := cell_of_row wr t'.T i _ _ _ h.stp.rep.tab.blk
  rw [h.stp.T] at h9
  rw [h9]; exact hv
theorem FrA.cO (h : FrA w t b0 o wr t') : wr.cell? ⟨b0, 0, none⟩ = some (.int .u64 o) := cell_of_row wr b0 0 _ _ _ h.own
end

theorem nilM (W : World) : (binOp .eql 80 (.map none) (.map none)).run Try.prog W = .ok (.bool true) W := by
  kernel_rfl

def AS.touched (A : AS) (o : Int) (s : ByteArray) : Prop := A.H s o ≠ none ∨ ∃ m, (o, m) ∈ A.Q s
def RepA (t : TV) (A : AS) : Prop := Rp t A.H A.Q (fun u s m => (u, m) ∈ A.Q s) (fun u s => A.H s u ≠ none)

theorem Rp.names {t : TV} {H : ByteArray → Int → Option Int} {Q : ByteArray → List (Int × Int)} {W : Int → ByteArray → Int → Prop} {N : Int → ByteArray → Prop} (h : Rp t H Q W N) (hn : (t.nm.map (·.1)).Nodup) {j : Nat} {o : Int} {M : Nat} {es : List ByteArray} (hj : t.nm[j]? = some (o, (M, es))) (es' : List ByteArray) :
    Rp { t with nm := t.nm.set j (o, (M, es')) } H Q W (fun u s => if u = o then s ∈ es' else N u s) := by
  refine ⟨h.pl, h.pn, h.ws, fun u s => ?_⟩
  show s ∈ (nmGet (t.nm.set j (o, (M, es'))) u).getD [] ↔ _
  unfold nmGet
  rw [klook_setAt hn hj]
  by_cases e : u = o
  · simp [e]
  · rw [if_neg e, if_neg e]
    exact h.nm u s

theorem TabR.names_r {w : World} {t : TV} (h : TabR w t) {j : Nat} {o : Int} {M : Nat} {es : List ByteArray} (hj : t.nm[j]? = some (o, (M, es))) {es' : List ByteArray} {ob : Obj} (hg : GMap (setObjW w M ob) M (setV es')) : Stp w t (setObjW w M ob) { t with nm := t.nm.set j (o, (M, es')) } := by
  have hs := h.tabS
  have l1 := hs.loN j _ hj
  refine TabS.stp ⟨h.names hj hg (fun k _ hk => setObjW_other _ _ _ _ hk), hs.bl.step (by rw [setObjW_size]; exact Nat.le_refl _) rfl rfl rfl (fun k hk => setObjW_other _ _ _ _ (fun e => l1 (e ▸ hk))), hs.lo, hs.loP, fun k y hy => ?_⟩ rfl
  rcases set_cases hy with ⟨rfl, rfl, -⟩ | ⟨-, h9⟩
  · exact l1
  · exact hs.loN k y h9

/-- what is known ahead of Free's loops -/
structure FrB (w : World) (t : TV) (A : AS) (b0 : Nat) (o : Int) (wr : World) (t1 : TV) (M : Nat) (es : List ByteArray) : Prop where
  fr : FrA w t b0 o wr t1
  gm : GMap wr M (setV es)
  ne : M ≠ t1.N ∧ M ≠ t1.W
  rp : ∃ N', Rp t1 A.H A.Q (fun u s m => (u, m) ∈ A.Q s) N' ∧ ∀ u s, u ≠ o → (N' u s ↔ A.H s u ≠ none)
  es : ∀ s, s ∈ es ↔ A.touched o s
  pl : t1.pl = t.pl
  ws : t1.ws = t.ws


open Classical in
noncomputable def H1 (A : AS) (o : Int) (L : List ByteArray) : ByteArray → Int → Option Int := fun s => if s ∈ L then upd (A.H s) o none else A.H s
open Classical in
noncomputable def Q1 (A : AS) (o : Int) (L : List ByteArray) : ByteArray → List (Int × Int) := fun s => if s ∈ L then (A.Q s).filter (neO o) else A.Q s
theorem H1_step (A : AS) (o : Int) (L : List ByteArray) (s : ByteArray) : updS (H1 A o L) s (upd (A.H s) o none) = H1 A o (L ++ [s]) := by
  funext s'
  unfold updS H1
  by_cases e : s' = s
  · subst e; simp
  · by_cases hl : s' ∈ L
    · rw [if_neg e, if_pos hl, if_pos (List.mem_append_left _ hl)]
    · rw [if_neg e, if_neg hl, if_neg (by rw [List.mem_append, List.mem_singleton]; exact fun h => h.elim hl e)]
theorem Q1_step (A : AS) (o : Int) (L : List ByteArray) (s : ByteArray) : updS (Q1 A o L) s ((A.Q s).filter (neO o)) = Q1 A o (L ++ [s]) := by
  funext s'
  unfold updS Q1
  by_cases e : s' = s
  · subst e; simp
  · by_cases hl : s' ∈ L
    · rw [if_neg e, if_pos hl, if_pos (List.mem_append_left _ hl)]
    · rw [if_neg e, if_neg hl, if_neg (by rw [List.mem_append, List.mem_singleton]; exact fun h => h.elim hl e)]
def W1 (A : AS) (o : Int) : Int → ByteArray → Int → Prop := fun u s m => u ≠ o ∧ (u, m) ∈ A.Q s
def N1 (A : AS) (o : Int) : Int → ByteArray → Prop := fun u s => u ≠ o ∧ A.H s u ≠ none

theorem nodup_len {α : Type} [DecidableEq α] : ∀ {a b : List α}, a.Nodup → (∀ x ∈ a, x ∈ b) → a.length ≤ b.length
  | [], b, _, _ => Nat.zero_le _
  | x :: a, b, h, hs => by
    rw [List.nodup_cons] at h
    have h1 := nodup_len (a := a) (b := b.erase x) h.2 (fun y hy => (List.mem_erase_of_ne (fun e => h.1 (by rw [← e]; exact hy))).2 (hs y (by simp [hy])))
    have hx : x ∈ b := hs x (by simp)
    have h2 := List.length_erase_of_mem hx
    have h3 := List.length_pos_of_mem hx
    simp only [List.length_cons]
    omega

/-- bounds on a table's size -/
structure SzOk (t : TV) (c : Nat) : Prop where
  nm : ∀ s, klook t.pl s ≠ none → s.size ≤ maxLen
  pl : t.pl.length ≤ c
  qs : ∀ s x, klook t.pl s = some x → x.hs.length + x.qs.length ≤ c
  ws : t.ws.length ≤ c
/-- a table that has no more places than another one -/
structure SzLe (t t' : TV) : Prop where
  dom : ∀ s, klook t'.pl s ≠ none → klook t.pl s ≠ none
  pl : t'.pl.length ≤ t.pl.length

/-- within the first loop: of the first j names the owner is gone -/
structure LpA (w : World) (t : TV) (A : AS) (b0 : Nat) (o : Int) (ns : List ByteArray) (v : Value) (n : Nat) (L : List ByteArray) (wr : World) (tj : TV) : Prop where
  fr : FrA w t b0 o wr tj
  rp : Rp tj (H1 A o L) (Q1 A o L) (W1 A o) (N1 A o)
  dom : ∀ s, klook t.pl s ≠ none → klook tj.pl s ≠ none
  sz : SzLe t tj
  ln : tj.ws.length ≤ t.ws.length
  row : RdV (tfoot tj) wr 1 v n (ns.map Value.string)

/-! the second loop -/
noncomputable def AS.pop (A : AS) (o : Int) (s : ByteArray) : (Int → Option Int) × List (Int × Int) × List (Int × Int) := popF (upd (A.H s) o none) ((A.Q s).filter (neO o))
open Classical in
noncomputable def H2 (A : AS) (o : Int) (ns L : List ByteArray) : ByteArray → Int → Option Int := fun s => if s ∈ L then (A.pop o s).1 else H1 A o ns s
open Classical in
noncomputable def Q2 (A : AS) (o : Int) (ns L : List ByteArray) : ByteArray → List (Int × Int) := fun s => if s ∈ L then (A.pop o s).2.1 else Q1 A o ns s
noncomputable def popped (A : AS) (o : Int) (L : List ByteArray) : List (Int × Int) := L.flatMap fun s => (A.pop o s).2.2
theorem popped_snoc (A : AS) (o : Int) (L : List ByteArray) (s : ByteArray) : popped A o (L ++ [s]) = popped A o L ++ (A.pop o s).2.2 := by simp [popped]
def W2 (A : AS) (o : Int) (pre : List (Int × Int)) : Int → ByteArray → Int → Prop := fun u s m => W1 A o u s m ∧ u ∉ pre.map (·.1)
def N2 (A : AS) (o : Int) (L : List ByteArray) : Int → ByteArray → Prop := fun u s => N1 A o u s ∨ (s ∈ L ∧ u ∈ ((A.pop o s).2.2).map (·.1))
theorem H2_step (A : AS) (o : Int) (ns L : List ByteArray) (s : ByteArray) : updS (H2 A o ns L) s (A.pop o s).1 = H2 A o ns (L ++ [s]) := by
  funext s'
  unfold updS H2
  by_cases e : s' = s
  · subst e; simp
  · by_cases hl : s' ∈ L
    · rw [if_neg e, if_pos hl, if_pos (List.mem_append_left _ hl)]
    · rw [if_neg e, if_neg hl, if_neg (by rw [List.mem_append, List.mem_singleton]; exact fun h => h.elim hl e)]
theorem Q2_step (A : AS) (o : Int) (ns L : List ByteArray) (s : ByteArray) : updS (Q2 A o ns L) s (A.pop o s).2.1 = Q2 A o ns (L ++ [s]) := by
  funext s'
  unfold updS Q2
  by_cases e : s' = s
  · subst e; simp
  · by_cases hl : s' ∈ L
    · rw [if_neg e, if_pos hl, if_pos (List.mem_append_left _ hl)]
    · rw [if_neg e, if_neg hl, if_neg (by rw [List.mem_append, List.mem_singleton]; exact fun h => h.elim hl e)]
theorem N2_step (A : AS) (o : Int) (L : List ByteArray) (s : ByteArray) (u : Int) (s' : ByteArray) : (N2 A o L u s' ∨ (s' = s ∧ u ∈ ((A.pop o s).2.2).map (·.1))) ↔ N2 A o (L ++ [s]) u s' := by
  unfold N2
  rw [List.mem_append, List.mem_singleton]
  constructor
  · rintro ((h | ⟨h1, h2⟩) | ⟨rfl, h2⟩)
    · exact .inl h
    · exact .inr ⟨.inl h1, h2⟩
    · exact .inr ⟨.inr rfl, h2⟩
  · rintro (h | ⟨h1 | rfl, h2⟩)
    · exact .inl (.inl h)
    · exact .inl (.inr ⟨h1, h2⟩)
    · exact .inr ⟨rfl, h2⟩

/-- the names' row -/
def NsRow (ns : List ByteArray) (va : Option Addr) (B : Nat) (wr : World) (tj : TV) : Prop := ∀ (i : Nat) (s : ByteArray), ns[i]? = some s → ∃ g off, va = some ⟨g, off, none⟩ ∧ g < B ∧ ¬ tfoot tj g ∧ wr.cell? ⟨g, off + i, none⟩ = some (.string s)
theorem NsRow.step {ns : List ByteArray} {va : Option Addr} {B : Nat} {wr w' : World} {tj t' : TV} (h : NsRow ns va B wr tj) (k : Stp wr tj w' t') (hB : B ≤ wr.heap.size) : NsRow ns va B w' t' := fun i s hi => by
  obtain ⟨g, off, h1, h2, h3, h4⟩ := h i s hi
  exact ⟨g, off, h1, h2, k.nfoot (by omega) h3, (World.cell?_of_block (k.chg.block g (by omega) h3)).trans h4⟩
theorem NsRow.keep {ns : List ByteArray} {va : Option Addr} {B : Nat} {wr w' : World} {tj : TV} (h : NsRow ns va B wr tj) (hk : ∀ k, k < B → w'.heap[k]? = wr.heap[k]?) : NsRow ns va B w' tj := fun i s hi => by
  obtain ⟨g, off, h1, h2, h3, h4⟩ := h i s hi
  exact ⟨g, off, h1, h2, h3, (World.cell?_of_block (hk g h2)).trans h4⟩

/-- the row of those told -/
structure OutRow (B : Nat) (l : List (Int × Int)) (wr : World) (tj : TV) (v : Value) : Prop where
  row : wr.ownsRow B 29 1 v l.length (ov l)
  nf : ∀ k, v.ownBlock = some k → ¬ tfoot tj k
theorem OutRow.step {B : Nat} {l : List (Int × Int)} {wr w' : World} {tj t' : TV} {v : Value} (h : OutRow B l wr tj v) (k : Stp wr tj w' t') : OutRow B l w' t' v :=
  ⟨rowU_keep h.row (fun j hj => k.chg.block j (h.row.lt j hj).2 (h.nf j hj)), fun j hj => k.nfoot (h.row.lt j hj).2 (h.nf j hj)⟩
theorem OutRow.below {B : Nat} {l : List (Int × Int)} {wr w' : World} {tj : TV} {v : Value} (h : OutRow B l wr tj v) (hb : Below wr.heap.size wr w') : OutRow B l w' tj v :=
  ⟨rowU_keep h.row (fun j hj => hb.block j (h.row.lt j hj).2), h.nf⟩

/-- within the second loop: the first names' queues are served -/
structure LpB (w : World) (t : TV) (A : AS) (b0 : Nat) (o : Int) (ns : List ByteArray) (va : Option Addr) (B j : Nat) (wr : World) (tj : TV) (v : Value) : Prop where
  fr : FrA w t b0 o wr tj
  rp : Rp tj (H2 A o ns (ns.take j)) (Q2 A o ns (ns.take j)) (W2 A o (popped A o (ns.take j))) (N2 A o (ns.take j))
  dom : ∀ s, s ∈ ns.drop j → klook tj.pl s ≠ none
  sz : SzLe t tj
  ln : tj.ws.length + (popped A o (ns.take j)).length ≤ t.ws.length
  nr : NsRow ns va B wr tj
  lo : B ≤ wr.heap.size
  out : OutRow B (popped A o (ns.take j)) wr tj v

/-- within its inner loop: some of a name's queue are served -/
structure LpC (w : World) (t : TV) (A : AS) (b0 : Nat) (o : Int) (ns : List ByteArray) (va : Option Addr) (B j : Nat) (s : ByteArray) (p : Nat) (pre cur : List (Int × Int)) (i : Nat) (x : PV) (wr : World) (t' : TV) : Prop where
  fr : FrA w t b0 o wr t'
  hx : t'.pl[i]? = some (s, x)
  p : x.p = p
  qs : x.qs = cur
  rp : Rp t' (updS (H2 A o ns (ns.take j)) s (klook x.hs)) (updS (Q2 A o ns (ns.take j)) s cur) (W2 A o (popped A o (ns.take j) ++ pre)) (fun u s' => N2 A o (ns.take j) u s' ∨ (s' = s ∧ u ∈ pre.map (·.1)))
  pop : A.pop o s = ((popF (klook x.hs) cur).1, (popF (klook x.hs) cur).2.1, pre ++ (popF (klook x.hs) cur).2.2)
  dom : ∀ s, s ∈ ns.drop j → klook t'.pl s ≠ none
  sz : SzLe t t'
  ln : t'.ws.length + (popped A o (ns.take j) ++ pre).length ≤ t.ws.length
  nr : NsRow ns va B wr t'
  lo : B ≤ wr.heap.size

section
variable {w wr w' : World} {t t' : TV} {A : AS} {b0 : Nat} {o : Int} {ns : List ByteArray} {va : Option Addr} {B j : Nat} {s : ByteArray} {p : Nat} {pre cur : List (Int × Int)} {i : Nat} {x : PV} {v : Value}
theorem LpC.below (h : LpC w t A b0 o ns va B j s p pre cur i x wr t') (hb : Below wr.heap.size wr w') : LpC w t A b0 o ns va B j s p pre cur i x w' t' :=
  ⟨h.fr.below hb, h.hx, h.p, h.qs, h.rp, h.pop, h.dom, h.sz, h.ln, h.nr.keep (fun k hk => hb.block k (by have := h.lo; omega)), Nat.le_trans h.lo hb.size⟩
theorem LpC.all (h : LpC w t A b0 o ns va B j s p pre cur i x wr t') : pre ++ cur = (A.Q s).filter (neO o) := by
  have h1 := popF_split ((A.Q s).filter (neO o)) (upd (A.H s) o none)
  have h2 := h.pop
  unfold AS.pop at h2
  rw [h2] at h1
  rw [← h1, List.append_assoc, popF_split]
/-- a name's turn begins -/
theorem LpB.start (h : LpB w t A b0 o ns va B j wr t' v) (hj : ns[j]? = some s) (hnd : ns.Nodup) : ∃ i x, LpC w t A b0 o ns va B j s x.p [] ((A.Q s).filter (neO o)) i x wr t' := by
  obtain ⟨hjl, hjs⟩ := List.getElem?_eq_some_iff.1 hj
  have hsm : s ∈ ns := by rw [← hjs]; exact List.getElem_mem hjl
  have htk : ns.take (j + 1) = ns.take j ++ [s] := by rw [List.take_add_one, List.getElem?_eq_getElem hjl, hjs]; rfl
  have hsnot : s ∉ ns.take j := fun h9 => by
    have h7 : (ns.take (j + 1)).Nodup := hnd.sublist (List.take_sublist _ _)
    rw [htk, List.nodup_append] at h7
    exact h7.2.2 s h9 s (by simp) rfl
  obtain ⟨x, hx⟩ : ∃ x, klook t'.pl s = some x := by
    cases hk : klook t'.pl s with
    | none => exact absurd hk (h.dom s (by rw [← hjs, List.mem_iff_getElem?]; exact ⟨0, by rw [List.getElem?_drop]; exact List.getElem?_eq_getElem hjl⟩))
    | some x => exact ⟨x, rfl⟩
  obtain ⟨i, hi, -⟩ := klook_set hx
  obtain ⟨h1, h2⟩ := h.rp.pl s x hx
  have hh : H2 A o ns (ns.take j) s = upd (A.H s) o none := by unfold H2 H1; rw [if_neg hsnot, if_pos hsm]
  have hq : Q2 A o ns (ns.take j) s = (A.Q s).filter (neO o) := by unfold Q2 Q1; rw [if_neg hsnot, if_pos hsm]
  rw [hh] at h1
  rw [hq] at h2
  refine ⟨i, x, h.fr, hi, rfl, h2, ?_, ?_, h.dom, h.sz, ?_, h.nr, h.lo⟩
  · refine h.rp.cong (fun s' u => ?_) (fun s' => ?_) (fun u s' m => by rw [List.append_nil]) (fun u s' => by simp)
    · rw [h1, ← hh, updS_same]
    · rw [← hq, updS_same]
  · rw [h1]; unfold AS.pop; simp
  · rw [List.append_nil]; exact h.ln

theorem kdel_len {κ β : Type} [DecidableEq κ] : ∀ (l : List (κ × β)) (k : κ), (kdel l k).length ≤ l.length
  | [], k => Nat.le_refl _
  | a :: l, k => by
    by_cases e : a.1 = k
    · simp [kdel, e]
    · simp only [kdel, e, if_false, List.length_cons]
      have := kdel_len l k
      omega
theorem map_fst_mem {a : Int × Int} {l : List (Int × Int)} (h : a ∈ l) : a.1 ∈ l.map (·.1) := List.mem_map_of_mem h

/-- the head of the queue is served -/
theorem LpC.serve {a : Int × Int} {rest : List (Int × Int)} (h : LpC w t A b0 o ns va B j s p pre (a :: rest) i x wr t') (hg : GoesF (klook x.hs) a.1 a.2) (hqn : ((A.Q s).map (·.1)).Nodup) (huq : ∀ u s m s' m', (u, m) ∈ A.Q s → (u, m') ∈ A.Q s' → s = s')
    (hj : ns[j]? = some s) (hnd : ns.Nodup) {q : Value} {nm : List (Int × (Nat × List ByteArray))} (hnm : NmIs nm t'.nm a.1 s)
    (hst : Stp wr t' w' { t' with pl := t'.pl.set i (s, { x with q := q, hs := kset x.hs a.1 a.2, qs := rest }), nm := nm, ws := kdel t'.ws a.1 }) :
    LpC w t A b0 o ns va B j s p (pre ++ [a]) rest i { x with q := q, hs := kset x.hs a.1 a.2, qs := rest } w' { t' with pl := t'.pl.set i (s, { x with q := q, hs := kset x.hs a.1 a.2, qs := rest }), nm := nm, ws := kdel t'.ws a.1 } := by
  obtain ⟨hjl, hjs⟩ := List.getElem?_eq_some_iff.1 hj
  have hsnot : s ∉ ns.take j := fun h9 => by
    have htk : ns.take (j + 1) = ns.take j ++ [s] := by rw [List.take_add_one, List.getElem?_eq_getElem hjl, hjs]; rfl
    have h7 : (ns.take (j + 1)).Nodup := hnd.sublist (List.take_sublist _ _)
    rw [htk, List.nodup_append] at h7
    exact h7.2.2 s h9 s (by simp) rfl
  have hil := (List.getElem?_eq_some_iff.1 h.hx).1
  have hpn := h.fr.stp.rep.plNodup
  have hall := h.all
  have ham : a ∈ (A.Q s).filter (neO o) := by rw [← hall]; simp
  obtain ⟨ham1, ham2⟩ := List.mem_filter.1 ham
  have hao : a.1 ≠ o := by unfold neO at ham2; simpa using ham2
  have hfn : (((A.Q s).filter (neO o)).map (·.1)).Nodup := hqn.sublist ((List.filter_sublist).map _)
  have hapre : a.1 ∉ pre.map (·.1) := fun h9 => by
    rw [← hall, List.map_append, List.nodup_append] at hfn
    exact hfn.2.2 a.1 h9 a.1 (by simp) rfl
  have hapop : a.1 ∉ (popped A o (ns.take j)).map (·.1) := fun h9 => by
    obtain ⟨b, hb, hba⟩ := List.mem_map.1 h9
    unfold popped at hb
    obtain ⟨s', hs', hb'⟩ := List.mem_flatMap.1 hb
    have h8 := popF_split ((A.Q s').filter (neO o)) (upd (A.H s') o none)
    have h7 : b ∈ (A.Q s').filter (neO o) := by rw [← h8]; exact List.mem_append_left _ hb'
    have h6 := (List.mem_filter.1 h7).1
    have h5 : (b.1, a.2) ∈ A.Q s := by rw [hba]; exact ham1
    have := huq b.1 s a.2 s' b.2 h5 h6
    exact hsnot (this ▸ hs')
  have hwm : klook t'.ws a.1 = some (s, a.2) := (h.rp.ws a.1 s a.2).2 ⟨⟨hao, ham1⟩, by rw [List.map_append, List.mem_append]; exact fun h9 => h9.elim hapop hapre⟩
  refine ⟨h.fr.step hst, by show (t'.pl.set i _)[i]? = _; rw [List.getElem?_set]; simp [hil], h.p, rfl, ?_, ?_, ?_, ⟨fun s' hs' => ?_, ?_⟩, ?_, h.nr.step hst h.lo, Nat.le_trans h.lo hst.chg.size⟩
  · have hx2 : (t'.pl.set i (s, { x with q := q, qs := rest }))[i]? = some (s, { x with q := q, qs := rest }) := by rw [List.getElem?_set]; simp [hil]
    have hn2 : ((t'.pl.set i (s, { x with q := q, qs := rest })).map (·.1)).Nodup := by
      have : (t'.pl.set i (s, ({ x with q := q, qs := rest } : PV))).map (·.1) = t'.pl.map (·.1) := map_set_same _ h.hx rfl
      rw [this]; exact hpn
    have r1 := h.rp.place hpn h.hx (x' := { x with q := q, qs := rest }) (hf := klook x.hs) (q := rest) rfl rfl
    have r2 := r1.hold (t := { t' with pl := t'.pl.set i (s, { x with q := q, qs := rest }) }) hn2 hx2 a.1 a.2 hnm
    have r3 := r2.waitsDel h.fr.stp.rep.wsNodup a.1
    simp only [held1, List.set_set] at r3
    refine r3.cong (fun s' u => ?_) (fun s' => ?_) (fun u s' m => ?_) (fun u s' => ?_)
    · unfold updS; split
      · rename_i e; subst e; simp only [if_true]; rw [klook_kset_upd]
      · rfl
    · unfold updS; split <;> rfl
    · unfold W2
      simp only [List.map_append, List.mem_append, List.map_cons, List.map_nil, List.mem_singleton, not_or]
      constructor
      · rintro ⟨h1, h2, h3, h4⟩; exact ⟨h2, h3, h4, h1⟩
      · rintro ⟨h2, h3, h4, h1⟩; exact ⟨h1, h2, h3, h4⟩
    · simp only [List.map_append, List.mem_append, List.map_cons, List.map_nil, List.mem_singleton]
      constructor
      · rintro ((h1 | ⟨h1, h2⟩) | ⟨h1, h2⟩)
        · exact .inl h1
        · exact .inr ⟨h1, .inl h2⟩
        · exact .inr ⟨h2, .inr h1⟩
      · rintro (h1 | ⟨h1, h2 | h2⟩)
        · exact .inl (.inl h1)
        · exact .inl (.inr ⟨h1, h2⟩)
        · exact .inr ⟨h2, h1⟩
  · have h9 := h.pop
    rw [popF_yes hg] at h9
    rw [h9]
    show _ = ((popF (klook (kset x.hs a.1 a.2)) rest).1, _, _)
    rw [klook_kset_upd]
    simp
  · intro s' hs'
    show klook (t'.pl.set i _) s' ≠ none
    rw [klook_setAt hpn h.hx]
    split
    · simp
    · exact h.dom s' hs'
  · have h9 : klook (t'.pl.set i (s, ({ x with q := q, hs := kset x.hs a.1 a.2, qs := rest } : PV))) s' ≠ none := hs'
    rw [klook_setAt hpn h.hx] at h9
    refine h.sz.dom s' ?_
    split at h9
    · rename_i e
      rw [e, klook_mem hpn (List.mem_of_getElem? h.hx)]; simp
    · exact h9
  · show (t'.pl.set i _).length ≤ _
    rw [List.length_set]; exact h.sz.pl
  · show (kdel t'.ws a.1).length + _ ≤ _
    have h9 := congrArg List.length (kdel_keys t'.ws a.1)
    rw [List.length_map, List.length_erase_of_mem ((klook_isSome _ _).1 (by rw [hwm]; simp)), List.length_map] at h9
    have h8 := h.ln
    have h7 := List.length_pos_of_mem (klook_in hwm)
    rw [h9]
    simp only [List.length_append, List.length_cons, List.length_nil] at h8 ⊢
    omega

/-- the name's turn ends -/
theorem LpC.fin (h : LpC w t A b0 o ns va B j s p pre cur i x wr t') (hp : popF (klook x.hs) cur = (klook x.hs, cur, [])) (hj : ns[j]? = some s) (hnd : ns.Nodup) {t2 : TV} (hst : Stp wr t' w' t2)
    (h2 : t2 = t' ∨ (t2 = { t' with pl := kdel t'.pl s } ∧ x.hs = [] ∧ cur = [])) {v : Value} (ho : OutRow B (popped A o (ns.take j) ++ pre) w' t2 v) : LpB w t A b0 o ns va B (j + 1) w' t2 v := by
  obtain ⟨hjl, hjs⟩ := List.getElem?_eq_some_iff.1 hj
  have htk : ns.take (j + 1) = ns.take j ++ [s] := by rw [List.take_add_one, List.getElem?_eq_getElem hjl, hjs]; rfl
  have hdr : ns.drop j = s :: ns.drop (j + 1) := by rw [List.drop_eq_getElem_cons hjl, hjs]
  have hsnot : s ∉ ns.drop (j + 1) := fun h9 => by
    have h7 : (ns.drop j).Nodup := hnd.sublist (List.drop_sublist _ _)
    rw [hdr, List.nodup_cons] at h7
    exact h7.1 h9
  have hpop := h.pop
  rw [hp] at hpop
  simp only [List.append_nil] at hpop
  have hrp : Rp t' (H2 A o ns (ns.take (j + 1))) (Q2 A o ns (ns.take (j + 1))) (W2 A o (popped A o (ns.take (j + 1)))) (N2 A o (ns.take (j + 1))) := by
    rw [htk, ← H2_step, ← Q2_step, popped_snoc, hpop]
    exact h.rp.cong (fun _ _ => rfl) (fun _ => rfl) (fun _ _ _ => Iff.rfl) (fun u s' => by rw [← N2_step, hpop])
  have hlen : (popped A o (ns.take (j + 1))).length = (popped A o (ns.take j) ++ pre).length := by rw [htk, popped_snoc, hpop]
  have hx := klook_mem h.fr.stp.rep.plNodup (List.mem_of_getElem? h.hx)
  have hdm : ∀ s', s' ∈ ns.drop (j + 1) → klook t'.pl s' ≠ none := fun s' hs' => h.dom s' (by rw [hdr]; exact List.mem_cons_of_mem _ hs')
  refine ⟨h.fr.step hst, ?_, fun s' hs' => ?_, ?_, ?_, h.nr.step hst h.lo, Nat.le_trans h.lo hst.chg.size, by rw [htk, popped_snoc, hpop]; exact ho⟩
  · rcases h2 with rfl | ⟨rfl, h3, h4⟩
    · exact hrp
    · obtain ⟨h5, h6⟩ := hrp.pl s x hx
      refine hrp.placeDel h.fr.stp.rep.plNodup (fun u => ?_) ?_
      · rw [← h5, h3]; rfl
      · rw [← h6, h.qs, h4]
  · rcases h2 with rfl | ⟨rfl, h3, h4⟩
    · exact hdm s' hs'
    · show klook (kdel t'.pl s) s' ≠ none
      have hne : ¬ s' = s := fun e => hsnot (by rw [← e]; exact hs')
      rw [klook_kdel h.fr.stp.rep.plNodup, if_neg hne]
      exact hdm s' hs'
  · rcases h2 with rfl | ⟨rfl, h3, h4⟩
    · exact h.sz
    · refine ⟨fun s' hs' => h.sz.dom s' ?_, ?_⟩
      · have h9 : klook (kdel t'.pl s) s' ≠ none := hs'
        rw [klook_kdel h.fr.stp.rep.plNodup] at h9
        split at h9
        · exact absurd rfl h9
        · exact h9
      · show (kdel t'.pl s).length ≤ _
        exact Nat.le_trans (kdel_len _ _) h.sz.pl
  · rw [hlen]
    rcases h2 with rfl | ⟨rfl, h3, h4⟩
    · exact h.ln
    · exact h.ln

theorem hold_r {w : World} {t : TV} (h : TabR w t) {i : Nat} {x : ByteArray × PV} (hx : t.pl[i]? = some x) (o m : Int) :
    Calls Try.prog 30 #[.pointer (some ⟨t.T, 0, none⟩), .pointer (some ⟨x.2.p, 0, none⟩), .int .u64 o, .string x.1, .int .i64 m] w fun e w' => e = .returned (.tuple #[]) ∧ ∃ nm, Stp w t w' (held1 t i x o m nm) ∧ NmIs nm t.nm o x.1 := by
  refine (hold_s h.tabS hx o m).mono ?_
  rintro e w' ⟨rfl, nm, h1, h2⟩
  exact ⟨rfl, nm, h1.stp rfl, h2⟩

theorem push_o2 {w : World} {B : Nat} {ty : TypeId} {v : Value} {l : List (Int × Int)} (a : Int × Int) (h : w.ownsRow B 29 1 v l.length (ov l)) (hB : B ≤ w.heap.size) (hl : l.length < 8796093022200) :
    ∃ R cp w', (Builtin.append_ #[36, 36] ty #[v, .slice (some ⟨w.heap.size, 0, none⟩) 1 1]).run Try.prog (w.alloc (.cells #[.int .u64 a.1] 29)) = .ok (.slice (some ⟨R, 0, none⟩) (l.length + 1) cp) w' ∧
      w'.ownsRow B 29 1 (.slice (some ⟨R, 0, none⟩) (l.length + 1) cp) (l ++ [a]).length (ov (l ++ [a])) ∧ w.heap.size ≤ w'.heap.size ∧ w'.os = w.os ∧ w'.tape = w.tape ∧ w'.output = w.output ∧ (∀ k, k < w.heap.size → v.ownBlock ≠ some k → w'.heap[k]? = w.heap[k]?) ∧ (v.ownBlock = some R ∨ w.heap.size ≤ R) := by
  obtain ⟨i, hi, hz, h1, h2⟩ := info_of info_u64L
  have hsrc : RdV (fun _ => False) (w.alloc (.cells #[.int .u64 a.1] 29)) 1 (.slice (some ⟨w.heap.size, 0, none⟩) 1 1) 1 [Value.int .u64 a.1] :=
    ⟨rfl, _, _, rfl, Nat.le_refl _, by unfold maxLen; omega, by simp, fun _ => ⟨w.heap.size, 0, _, _, (0, 0), rfl, fun h => h, heap_alloc_new w _, by simp⟩⟩
  obtain ⟨v', w', hr, ho, hg, hob, hnil⟩ := run_append_rd (P := Try.prog) (base := B) (ty := ty) Try.underlying36 hi hz h1 h2 rfl (by decide) (World.ownsRow.alloc h _) hsrc (by intro u hu; simp only [List.mem_cons, List.not_mem_nil, or_false] at hu; subst hu; rfl) (by omega) (by decide) (by simp; omega)
  rcases ho.2 with ⟨rfl, h0⟩ | ⟨R, cp, cur, rfl, hb, hR, hrest⟩
  · exact absurd (hnil.1 rfl).2 (by omega)
  · refine ⟨R, cp, w', hr, ?_, ?_⟩
    · rw [ov_snoc, List.length_append]; exact ho
    · obtain ⟨g1, g2, g3, g4, g5⟩ := hg
      refine ⟨by have h9 := g4; rw [World.size_alloc] at h9; omega, g1, g2, g3, fun k hk hne => ?_, ?_⟩
      · rw [g5 k (by rw [World.size_alloc]; omega) (Ne.symm hne), heap_alloc_old _ _ hk]
      · rcases hob with e | e
        · exact .inl e.symm
        · simp only [Value.ownBlock, Option.some.injEq, World.size_alloc] at e
          exact .inr (by omega)

/-- one more is told -/
theorem OutRow.push {B : Nat} {l : List (Int × Int)} {wr : World} {tj : TV} {v : Value} (h : OutRow B l wr tj v) (hr : TabR wr tj) (a : Int × Int) (hB : B ≤ wr.heap.size) (hl : l.length < 8796093022200) :
    ∃ R cp w', (Builtin.append_ #[36, 36] 36 #[v, .slice (some ⟨wr.heap.size, 0, none⟩) 1 1]).run Try.prog (wr.alloc (.cells #[.int .u64 a.1] 29)) = .ok (.slice (some ⟨R, 0, none⟩) (l.length + 1) cp) w' ∧
      OutRow B (l ++ [a]) w' tj (.slice (some ⟨R, 0, none⟩) (l.length + 1) cp) ∧ (∀ w0 t0, Stp w0 t0 wr tj → w0.heap.size ≤ B → Stp w0 t0 w' tj) ∧ wr.heap.size ≤ w'.heap.size ∧ (∀ k, k < B → w'.heap[k]? = wr.heap[k]?) := by
  obtain ⟨R, cp, w', hrun, hrow, z1, z2, z3, z4, z5, z6⟩ := push_o2 (ty := 36) a h.row hB hl
  have hnR : ¬ tfoot tj R := z6.elim (fun e => h.nf R e) (fun e => hr.nfoot_new e)
  refine ⟨R, cp, w', hrun, ⟨hrow, fun k hk => by simp [Value.ownBlock] at hk; subst hk; exact hnR⟩, fun w0 t0 hs hlo => ?_, z1, fun k hk => z5 k (by omega) (fun e => by have := (h.row.lt k e).1; omega)⟩
  exact ⟨hr.keepF (fun k hk2 => z5 k (hr.foot_lt hk2) (fun e => h.nf k e hk2)), ⟨z2.trans hs.chg.os, z3.trans hs.chg.tape, z4.trans hs.chg.output, Nat.le_trans hs.chg.size z1, fun k hk2 hn => (z5 k (Nat.lt_of_lt_of_le hk2 hs.chg.size) (fun e => by have := (h.row.lt k e).1; omega)).trans (hs.chg.block k hk2 hn), fun k hk2 => (hs.chg.foot k hk2).elim .inl (fun x => .inr ⟨x.1, Nat.lt_of_lt_of_le x.2 z1⟩)⟩, hs.T⟩
theorem LpC.other (h : LpC w t A b0 o ns va B j s p pre cur i x wr t') (hs : Stp w t w' t') (hb : b0 < B) (hk : ∀ k, k < B → w'.heap[k]? = wr.heap[k]?) (hsz : wr.heap.size ≤ w'.heap.size) : LpC w t A b0 o ns va B j s p pre cur i x w' t' :=
  ⟨⟨hs, (hk b0 hb).trans h.fr.own, h.fr.nb⟩, h.hx, h.p, h.qs, h.rp, h.pop, h.dom, h.sz, h.ln, h.nr.keep hk, Nat.le_trans h.lo hsz⟩
end

/-! behind Free -/
open Classical in
noncomputable def AS.freed (A : AS) (o : Int) : AS := ⟨fun s => if A.touched o s then (A.pop o s).1 else A.H s, fun s => if A.touched o s then (A.pop o s).2.1 else A.Q s⟩

theorem popF_some : ∀ (qs : List (Int × Int)) (h : Int → Option Int) (u : Int), (popF h qs).1 u ≠ none ↔ h u ≠ none ∨ u ∈ (popF h qs).2.2.map (·.1)
  | [], h, u => by simp [popF]
  | a :: qs, h, u => by
    by_cases hg : GoesF h a.1 a.2
    · rw [popF_yes hg]
      simp only
      rw [popF_some qs (upd h a.1 (some a.2)) u, List.map_cons, List.mem_cons]
      unfold upd
      by_cases e : u = a.1
      · simp [e]
      · simp [e]
    · rw [popF_no hg]; simp

def FreePost (w : World) (t : TV) (A : AS) (o : Int) (c : Nat) (e : Ending) (w' : World) : Prop :=
  ∃ v ns t', e = .returned v ∧ ns.Pairwise leN ∧ ns.Nodup ∧ (∀ s, s ∈ ns ↔ A.touched o s) ∧ Stp w t w' t' ∧ RepA t' (A.freed o) ∧ SzOk t' c ∧
    w'.ownsRow w.heap.size 29 1 v (popped A o ns).length (ov (popped A o ns)) ∧ ∀ k, v.ownBlock = some k → ¬ tfoot t' k

theorem popped_in {A : AS} {o : Int} {ns : List ByteArray} {b : Int × Int} (hb : b ∈ popped A o ns) : ∃ s, s ∈ ns ∧ b ∈ A.Q s ∧ b.1 ≠ o ∧ b ∈ (A.pop o s).2.2 := by
  unfold popped at hb
  obtain ⟨s, hs, hb'⟩ := List.mem_flatMap.1 hb
  have h8 := popF_split ((A.Q s).filter (neO o)) (upd (A.H s) o none)
  have h7 : b ∈ (A.Q s).filter (neO o) := by rw [← h8]; exact List.mem_append_left _ hb'
  obtain ⟨h6, h5⟩ := List.mem_filter.1 h7
  exact ⟨s, hs, h6, by unfold neO at h5; simpa using h5, hb'⟩

theorem freed_rep {t' : TV} {A : AS} {o : Int} {ns : List ByteArray} (h : Rp t' (H2 A o ns ns) (Q2 A o ns ns) (W2 A o (popped A o ns)) (N2 A o ns)) (hns : ∀ s, s ∈ ns ↔ A.touched o s) (hqn : ∀ s, ((A.Q s).map (·.1)).Nodup) (huq : ∀ u s m s' m', (u, m) ∈ A.Q s → (u, m') ∈ A.Q s' → s = s') : RepA t' (A.freed o) := by
  have hH : ∀ s, H2 A o ns ns s = (A.freed o).H s := fun s => by
    unfold H2 H1 AS.freed
    by_cases e : s ∈ ns
    · simp [e, (hns s).1 e]
    · have ht : ¬ A.touched o s := fun h9 => e ((hns s).2 h9)
      simp [e, ht]
  have hQ : ∀ s, Q2 A o ns ns s = (A.freed o).Q s := fun s => by
    unfold Q2 Q1 AS.freed
    by_cases e : s ∈ ns
    · simp [e, (hns s).1 e]
    · have ht : ¬ A.touched o s := fun h9 => e ((hns s).2 h9)
      simp [e, ht]
  refine h.cong (fun s u => by rw [hH]) hQ (fun u s m => ?_) (fun u s => ?_)
  · rw [← hQ]
    unfold W2 W1
    by_cases e : s ∈ ns
    · have hq2 : Q2 A o ns ns s = (A.pop o s).2.1 := by unfold Q2; rw [if_pos e]
      rw [hq2]
      have h8 : (A.pop o s).2.2 ++ (A.pop o s).2.1 = (A.Q s).filter (neO o) := popF_split _ _
      have hfn : (((A.Q s).filter (neO o)).map (·.1)).Nodup := (hqn s).sublist ((List.filter_sublist).map _)
      rw [← h8, List.map_append, List.nodup_append] at hfn
      constructor
      · rintro ⟨⟨h1, h2⟩, h3⟩
        have h7 : (u, m) ∈ (A.Q s).filter (neO o) := List.mem_filter.2 ⟨h2, by unfold neO; simpa using h1⟩
        rw [← h8] at h7
        rcases List.mem_append.1 h7 with h6 | h6
        · exact absurd (List.mem_map.2 ⟨(u, m), List.mem_flatMap.2 ⟨s, e, h6⟩, rfl⟩) h3
        · exact h6
      · intro h6
        have h7 : (u, m) ∈ (A.Q s).filter (neO o) := by rw [← h8]; exact List.mem_append_right _ h6
        obtain ⟨h2, h5⟩ := List.mem_filter.1 h7
        refine ⟨⟨by unfold neO at h5; simpa using h5, h2⟩, fun h9 => ?_⟩
        obtain ⟨b, hb, hbu⟩ := List.mem_map.1 h9
        obtain ⟨s', hs', hbq, -, hbp⟩ := popped_in hb
        have hss : s = s' := huq u s m s' b.2 h2 (by rw [← hbu]; exact hbq)
        subst hss
        exact hfn.2.2 u (List.mem_map.2 ⟨b, hbp, hbu⟩) u (List.mem_map.2 ⟨(u, m), h6, rfl⟩) rfl
    · have hq2 : Q2 A o ns ns s = A.Q s := by unfold Q2 Q1; rw [if_neg e, if_neg e]
      rw [hq2]
      constructor
      · rintro ⟨⟨h1, h2⟩, h3⟩; exact h2
      · intro h2
        refine ⟨⟨fun e9 => e ((hns s).2 (.inr ⟨m, by rw [← e9]; exact h2⟩)), h2⟩, fun h9 => ?_⟩
        obtain ⟨b, hb, hbu⟩ := List.mem_map.1 h9
        obtain ⟨s', hs', hbq, -, hbp⟩ := popped_in hb
        have hss : s = s' := huq u s m s' b.2 h2 (by rw [← hbu]; exact hbq)
        exact e (hss ▸ hs')
  · rw [← hH]
    unfold N2 N1
    by_cases e : s ∈ ns
    · have hh2 : H2 A o ns ns s = (A.pop o s).1 := by unfold H2; rw [if_pos e]
      rw [hh2]
      unfold AS.pop
      rw [popF_some]
      unfold upd
      by_cases e2 : u = o
      · simp [e, e2]
      · simp [e, e2]
    · have hh2 : H2 A o ns ns s = A.H s := by unfold H2 H1; rw [if_neg e, if_neg e]
      rw [hh2]
      simp only [e, false_and, or_false]
      constructor
      · exact fun h9 => h9.2
      · exact fun h9 => ⟨fun e2 => e ((hns s).2 (.inl (e2 ▸ h9))), h9⟩

theorem LpB.post {w wr w' : World} {t t' : TV} {A : AS} {b0 : Nat} {o : Int} {ns : List ByteArray} {va : Option Addr} {B j c : Nat} {v v' : Value} (h : LpB w t A b0 o ns va B j wr t' v) (hj : ns.length ≤ j) (hpw : ns.Pairwise leN) (hnd : ns.Nodup) (hns : ∀ s, s ∈ ns ↔ A.touched o s) (hqn : ∀ s, ((A.Q s).map (·.1)).Nodup) (hrA : RepA t A) (hsz : SzOk t c)
    (hb : Below wr.heap.size wr w') (hv : w'.ownsRow wr.heap.size 29 1 v' (popped A o ns).length (ov (popped A o ns))) : FreePost w t A o c (.returned v') w' := by
  have htk : ns.take j = ns := List.take_of_length_le hj
  have huq : ∀ u s m s' m', (u, m) ∈ A.Q s → (u, m') ∈ A.Q s' → s = s' := fun u s m s' m' h1 h2 => by
    have e1 := (hrA.ws u s m).2 h1
    rw [(hrA.ws u s' m').2 h2] at e1
    injection e1 with e1
    injection e1 with e1 _
    exact e1.symm
  have hrp := h.rp
  rw [htk] at hrp
  have hst := h.fr.stp.below hb
  refine ⟨v', ns, t', rfl, hpw, hnd, hns, hst, freed_rep hrp hns hqn huq, ⟨fun s hs => hsz.nm s (h.sz.dom s hs), Nat.le_trans h.sz.pl hsz.pl, fun s x hx => ?_, ?_⟩, rowU_mono' hv h.fr.stp.chg.size, fun k hk => ?_⟩
  · obtain ⟨h1, h2⟩ := hrp.pl s x hx
    obtain ⟨x0h, x0q, e1, e2, hle⟩ : ∃ x0h x0q : List (Int × Int), klook x0h = A.H s ∧ x0q = A.Q s ∧ x0h.length + x0q.length ≤ c := by
      cases hk : klook t.pl s with
      | none =>
        obtain ⟨h8, h9⟩ := hrA.pn s hk
        exact ⟨[], [], funext fun u => by rw [h8 u]; rfl, h9.symm, Nat.zero_le _⟩
      | some x0 => exact ⟨x0.hs, x0.qs, (hrA.pl s x0 hk).1, (hrA.pl s x0 hk).2, hsz.qs s x0 hk⟩
    obtain ⟨i9, hi9, -⟩ := klook_set hx
    have hxn := h.fr.stp.rep.hsNodup hi9
    simp only at hxn
    have hfl := List.length_filter_le (neO o) (A.Q s)
    have hcnt : ∀ ps : List (Int × Int), (∀ u, klook x.hs u ≠ none → A.H s u ≠ none ∨ u ∈ ps.map (·.1)) → x.hs.length ≤ x0h.length + ps.length := fun ps hps => by
      have h9 := nodup_len (b := x0h.map (·.1) ++ ps.map (·.1)) hxn (fun u hu => by
        rcases hps u ((klook_isSome _ _).2 hu) with h8 | h8
        · exact List.mem_append_left _ ((klook_isSome _ _).1 (by rw [e1]; exact h8))
        · exact List.mem_append_right _ h8)
      simpa using h9
    unfold H2 H1 at h1
    unfold Q2 Q1 at h2
    rw [← e2] at hfl
    by_cases e : s ∈ ns
    · rw [if_pos e] at h1 h2
      have h8 := congrArg List.length (popF_split ((A.Q s).filter (neO o)) (upd (A.H s) o none))
      rw [List.length_append, ← e2] at h8
      have h7 := hcnt (A.pop o s).2.2 (fun u hu => by
        rw [h1] at hu
        unfold AS.pop at hu ⊢
        rcases (popF_some _ _ _).1 hu with h6 | h6
        · left
          intro h5
          apply h6
          unfold upd
          split
          · rfl
          · exact h5
        · exact .inr h6)
      have h6 : x.qs.length = (popF (upd (A.H s) o none) (x0q.filter (neO o))).2.1.length := by rw [h2, e2]; rfl
      have h5 : (A.pop o s).2.2.length = (popF (upd (A.H s) o none) (x0q.filter (neO o))).2.2.length := by rw [e2]; rfl
      omega
    · rw [if_neg e] at h1 h2
      rw [if_neg e] at h1 h2
      have h7 := hcnt [] (fun u hu => by rw [h1] at hu; exact .inl hu)
      have h6 : x.qs.length = x0q.length := by rw [h2, e2]
      simp only [List.length_nil] at h7
      omega
  · have := h.ln
    have := hsz.ws
    omega
  · exact fun hf => by have := (hv.lt k hk).1; exact h.fr.stp.rep.nfoot_new this hf

theorem copy_out2 {w : World} {oa : Option Addr} {n oc : Nat} {l : List (Int × Int)} (h : RdV NoF w 1 (.slice oa n oc) l.length (ov l)) (hn : l.length = n) (hn2 : n ≤ 8796093022200) :
    ∃ wm v' w', (Instr.makeSlice 36 (.int .i64 0) (.int .i64 n)).run Try.prog w = .ok (.slice (some ⟨w.heap.size, 0, none⟩) 0 n) wm ∧
      (Builtin.append_ #[36, 36] 36 #[.slice (some ⟨w.heap.size, 0, none⟩) 0 n, .slice oa n oc]).run Try.prog wm = .ok v' w' ∧
      w'.ownsRow w.heap.size 29 1 v' l.length (ov l) ∧ Below w.heap.size w w' := by
  obtain ⟨i, hi, hz, h1, h2⟩ := info_of info_u64L
  have hsrc : RdV NoF (w.alloc (.cells (madeCells #[Value.int .u64 0] n) 29)) 1 (.slice oa n oc) l.length (ov l) := h.alloc _
  obtain ⟨v', w', hr, ho, hg, -, -⟩ := run_append_rd (P := Try.prog) (base := w.heap.size) (ty := 36) Try.underlying36 hi hz h1 h2 rfl (by decide) (u64_own n w.heap.size hn2 w (Nat.le_refl _)) hsrc (by
    intro u hu
    obtain ⟨a, -, rfl⟩ := List.mem_map.1 hu
    rfl) (by omega) (by decide) (by simp)
  rw [Nat.zero_add, List.nil_append] at ho
  obtain ⟨g1, g2, g3, g4, g5⟩ := hg
  rw [World.size_alloc] at g4
  exact ⟨_, v', w', make_u64 n hn2 w, hr, ho, g1, g2, g3, by omega, fun k hk => by
    rw [g5 k (by rw [World.size_alloc]; omega) (by simp [Value.ownBlock]; omega), heap_alloc_old _ _ hk]⟩
end Mun
end
