/- Free of an owner that holds one name, and does not wait; rows of numbers of the law's own stay. -/
import Derived.Test.YtbdkhegfmnladaaLockFr
import Derived.Deep.CutBlock
import Derived.Deep.DeepCutAuto
import Derived.Outline
set_option maxRecDepth 100000
set_option linter.unusedVariables false
set_option linter.unusedSimpArgs false
namespace Mun
open Go Go.RowKit
open Go.Proofs

/-- rows of numbers stay -/
def KeepU (w wr : World) : Prop := w.heap.size ≤ wr.heap.size ∧ ∀ (k : Nat) (cs : Array Value), w.heap[k]? = some (Obj.cells cs 29 (0, 0)) → wr.heap[k]? = some (Obj.cells cs 29 (0, 0))
theorem KeepU.below {w wr w' : World} (h : KeepU w wr) (hb : Below wr.heap.size wr w') : KeepU w w' :=
  ⟨Nat.le_trans h.1 hb.size, fun k cs hk => (hb.block k (Array.getElem?_eq_some_iff.1 (h.2 k cs hk)).1).trans (h.2 k cs hk)⟩
theorem KeepU.turn {w wr w' : World} {B : Nat} (h : KeepU w wr) (ht : Turn1 wr w' B) (hne : ∀ cs, wr.heap[B]? ≠ some (Obj.cells cs 29 (0, 0))) : KeepU w w' :=
  ⟨by rw [ht.1]; exact h.1, fun k cs hk => (ht.2.2.2.2 k (fun e => hne cs (e ▸ h.2 k cs hk))).trans (h.2 k cs hk)⟩
theorem rowU_mono {w : World} {B B' : Nat} {e : TypeId} {size n : Nat} {v : Value} {xs : List Value} (h : w.ownsRow B e size v n xs) (hB : B' ≤ B) : w.ownsRow B' e size v n xs := by
  refine ⟨h.1, ?_⟩
  rcases h.2 with hn | ⟨g, cap, cur, rfl, hbg, rest⟩
  · exact .inl hn
  · exact .inr ⟨g, cap, cur, rfl, Nat.le_trans hB hbg, rest⟩

/-- within its loop: some are popped -/
structure FreeMidK (w W0 : World) (t : TV) (i : Nat) (s : ByteArray) (x : PV) (o : Int) (pre : List (Int × Int)) (wr : World) (ov_ : Value) (q : Value) (hs cur : List (Int × Int)) (ws : List (Int × (ByteArray × Int))) (nm : List (Int × (Nat × List ByteArray))) : Prop where
  tab : TabL W0 wr (freeT t i s x q hs cur ws nm)
  pop : popQ (kdel x.hs o) x.qs = ((popQ hs cur).1, (popQ hs cur).2.1, pre ++ (popQ hs cur).2.2)
  all : pre ++ cur = x.qs
  ws : ws = wsPop pre t.ws
  nm : ∀ u, nmGet nm u = nmPop s pre (nmGet (kdel t.nm o)) u
  row : wr.ownsRow w.heap.size 29 1 ov_ pre.length (ov pre)
  keep : KeepU w wr
section
variable {w W0 wr w' : World} {t : TV} {i : Nat} {s : ByteArray} {x : PV} {o : Int} {pre : List (Int × Int)} {ov_ q : Value} {hs cur : List (Int × Int)} {ws : List (Int × (ByteArray × Int))} {nm : List (Int × (Nat × List ByteArray))}
theorem FreeMidK.below (h : FreeMidK w W0 t i s x o pre wr ov_ q hs cur ws nm) (hb : Below wr.heap.size wr w') : FreeMidK w W0 t i s x o pre w' ov_ q hs cur ws nm :=
  ⟨h.tab.below hb, h.pop, h.all, h.ws, h.nm, rowU_keep h.row (fun k e => hb.block k (h.row.lt k e).2), h.keep.below hb⟩
end
/-- behind it -/
def FreeStK (w W0 : World) (t : TV) (i : Nat) (s : ByteArray) (x : PV) (o : Int) (wr : World) (ov_ : Value) : Prop :=
  ∃ q ws nm t', KeepU w wr ∧ wr.ownsRow w.heap.size 29 1 ov_ (popQ (kdel x.hs o) x.qs).2.2.length (ov (popQ (kdel x.hs o) x.qs).2.2) ∧ TabL W0 wr t' ∧
    ws = wsPop (popQ (kdel x.hs o) x.qs).2.2 t.ws ∧ (∀ u, nmGet nm u = nmPop s (popQ (kdel x.hs o) x.qs).2.2 (nmGet (kdel t.nm o)) u) ∧
    t' = (if (popQ (kdel x.hs o) x.qs).1 = [] ∧ (popQ (kdel x.hs o) x.qs).2.1 = [] then { freeT t i s x q (popQ (kdel x.hs o) x.qs).1 (popQ (kdel x.hs o) x.qs).2.1 ws nm with pl := kdel (freeT t i s x q (popQ (kdel x.hs o) x.qs).1 (popQ (kdel x.hs o) x.qs).2.1 ws nm).pl s } else freeT t i s x q (popQ (kdel x.hs o) x.qs).1 (popQ (kdel x.hs o) x.qs).2.1 ws nm)

set_option maxHeartbeats 4000000 in
theorem free_oneK {W0 w : World} {t : TV} (h : TabL W0 w t) {i : Nat} {s : ByteArray} {x : PV} (hx : t.pl[i]? = some (s, x)) (hpa : klook t.pl s = some x) (o : Int) (hw : klook t.ws o = none) {M : Nat} (hn : klook t.nm o = some (M, [s]))
    (hs : s.size ≤ maxLen) (hqs : ∀ a ∈ x.qs, a.1 ≠ o) (hql : x.qs.length ≤ 4398046511104) :
    Calls Try.prog 19 #[.pointer (some ⟨t.T, 0, none⟩), .int .u64 o] w fun e w' => ∃ v, e = .returned v ∧ FreeStK w W0 t i s x o w' v := by
  obtain ⟨wA, hwA⟩ : ∃ wA, w.alloc (.cells #[.int .u64 o] 29) = wA := ⟨_, rfl⟩
  have hA : TabL W0 wA t := by rw [← hwA]; exact h.below ((Below.refl _ _).alloc (Nat.le_refl _) _)
  have uA : Hid (KeepU w wA) := by
    have h9 : Below w.heap.size w wA := by rw [← hwA]; exact (Below.refl _ _).alloc (Nat.le_refl _) _
    exact (show KeepU w w from ⟨Nat.le_refl _, fun _ _ h => h⟩).below h9
  have bA : wA.heap[w.heap.size]? = some (.cells #[.int .u64 o] 29 (0, 0)) := by rw [← hwA]; exact heap_alloc_new w _
  have hwl : Hid (wA.heap[w.heap.size]? = some (.cells #[.int .u64 o] 29 (0, 0))) := bA
  obtain ⟨b0, hb0⟩ : ∃ b0, w.heap.size = b0 := ⟨_, rfl⟩
  rw [hb0] at bA
  have c1 : wA.cell? ⟨t.T, 1, none⟩ = some (.map (some t.W)) := cell_of_row wA t.T 1 _ _ _ hA.rep.tab.blk
  have c2 : wA.cell? ⟨t.T, 2, none⟩ = some (.map (some t.N)) := cell_of_row wA t.T 2 _ _ _ hA.rep.tab.blk
  have cb : wA.cell? ⟨b0, 0, none⟩ = some (.int .u64 o) := cell_of_row wA b0 0 _ _ _ bA
  have hn2 : glook (nmV t.nm) o = some (.map (some M)) := by
    have h9 := glook_map (fun y : Nat × List ByteArray => Value.map (some y.1)) t.nm o
    rw [hn] at h9
    exact h9
  have hw2 : glook (wsV t.ws) o = none := by
    have h9 := glook_map (fun y : ByteArray × Int => Value.agg #[.string y.1, .int .i64 y.2]) t.ws o
    rw [hw] at h9
    exact h9
  have hl1 : ∀ W : World, TabL W0 W t → (Instr.lookup 64 (.map (some t.N)) (.int .u64 o) false).run Try.prog W = .ok (.map (some M)) W := fun W hW => by
    have h9 := gmap_lookup1 (P := Try.prog) Try.underlying64 Try.underlying29 (z80 W) hW.rep.tab.nm o
    rw [hn2] at h9
    exact h9
  have hl2 : ∀ W : World, TabL W0 W t → (Instr.lookup 63 (.map (some t.W)) (.int .u64 o) true).run Try.prog W = .ok (.tuple #[.agg #[.string ⟨#[]⟩, .int .i64 0], .bool false]) W := fun W hW => by
    have h9 := gmap_lookup (P := Try.prog) Try.underlying63 Try.underlying29 (z33 W) hW.rep.tab.wt o
    rw [hw2] at h9
    exact h9
  have hlk : ∀ n, (Instr.lookup 64 (.map (some t.N)) (.int .u64 o) false).run Try.prog (wA.drewN n) = .ok (.map (some M)) (wA.drewN n) := fun n => hl1 _ (hA.below (below_drewN (Below.refl _ _) n))
  obtain ⟨j, hj, -⟩ := klook_set hn
  have hMA : GMap wA M [(s, Value.agg #[])] := hA.rep.nms j _ hj
  obtain ⟨nP, nW, nN⟩ := hA.rep.dM j _ hj
  simp only at nP nW nN
  have HMA := Lib.hid hMA
  have HMN := Lib.hid (And.intro nW nN)
  clear hMA nP nW nN hj
  have HL2 := Lib.hid hl2
  have HA := Lib.hid (And.intro hA bA)
  have HW0 : Hid (W0.heap.size ≤ w.heap.size) := h.bl.size
  clear h bA hn2 hw2 hl1 hl2 hA
  go_enter Try.func19, Try.ntmps19
  go_upto_region 1 with (fail)
  clear hwA
  go_quiet (fail)
  obtain ⟨wB, hwB⟩ : ∃ wB, wA.drewN nq = wB := ⟨_, rfl⟩
  have hB : TabL W0 wB t := by rw [← hwB]; exact HA.out.1.below (below_drewN (Below.refl _ _) nq)
  have uB : Hid (KeepU w wB) := uA.out.below (by rw [← hwB]; exact below_drewN (Below.refl _ _) nq)
  have bB : wB.heap[b0]? = some (.cells #[.int .u64 o] 29 (0, 0)) := by rw [← hwB]; exact HA.out.2
  have hwB0 := hwB
  rw [hwB]
  clear hwB hlk c1 c2 cb
  have HMB : Hid (GMap wB M [(s, Value.agg #[])]) := HMA.out.keep (by rw [← hwB0]; rfl)
  have HB := Lib.hid (And.intro hB bB)
  clear hB bB hwB0
  have hnil := nil80s M wB
  go_upto_region 4 with (fail)
  clear hnil
  obtain ⟨wC, hwC⟩ : ∃ wC, (wB.alloc (.cells #[.string ⟨#[]⟩, .int .i64 0] 33)).drew = wC := ⟨_, rfl⟩
  have hbC : Below wB.heap.size wB wC := by rw [← hwC]; exact below_drewN ((Below.refl _ _).alloc (Nat.le_refl _) _) 1
  have hC : TabL W0 wC t := HB.out.1.below hbC
  have uC : Hid (KeepU w wC) := uB.out.below hbC
  have bC : wC.heap[b0]? = some (.cells #[.int .u64 o] 29 (0, 0)) := (hbC.block _ (lt_of_block HB.out.2)).trans HB.out.2
  have kC : wC.heap[wB.heap.size]? = some (.cells #[.string ⟨#[]⟩, .int .i64 0] 33 (0, 0)) := by rw [← hwC]; exact heap_alloc_new wB _
  have hS0 : wB.drew.cell? ⟨t.T, 1, none⟩ = some (.map (some t.W)) ∧ wB.drew.cell? ⟨b0, 0, none⟩ = some (.int .u64 o) ∧ (Instr.lookup 63 (.map (some t.W)) (.int .u64 o) true).run Try.prog wB.drew = .ok (.tuple #[.agg #[.string ⟨#[]⟩, .int .i64 0], .bool false]) wB.drew :=
    ⟨cell_of_row wB.drew t.T 1 _ _ _ HB.out.1.rep.tab.blk, cell_of_row wB.drew b0 0 _ _ _ HB.out.2, HL2.out _ (HB.out.1.below (below_drewN (Below.refl _ _) 1))⟩
  have hS1 : wC.cell? ⟨t.T, 1, none⟩ = some (.map (some t.W)) ∧ wC.cell? ⟨b0, 0, none⟩ = some (.int .u64 o) ∧ (Instr.lookup 63 (.map (some t.W)) (.int .u64 o) true).run Try.prog wC = .ok (.tuple #[.agg #[.string ⟨#[]⟩, .int .i64 0], .bool false]) wC :=
    ⟨cell_of_row wC t.T 1 _ _ _ hC.rep.tab.blk, cell_of_row wC b0 0 _ _ _ bC, HL2.out _ hC⟩
  have HMC : Hid (GMap wC M [(s, Value.agg #[])]) := HMB.out.keep (hbC.block _ HMB.out.lt)
  have HC := Lib.hid (And.intro hC bC)
  have HKC := Lib.hid kC
  clear hbC hC bC kC
  refine wp_region_U (fun W => W.cell? ⟨t.T, 1, none⟩ = some (.map (some t.W)) ∧ W.cell? ⟨b0, 0, none⟩ = some (.int .u64 o) ∧ (Instr.lookup 63 (.map (some t.W)) (.int .u64 o) true).run Try.prog W = .ok (.tuple #[.agg #[.string ⟨#[]⟩, .int .i64 0], .bool false]) W) [] (by kernel_rfl) ?_
  refine wpAnyU_take (i := 0) [1, 2, 3, 5, 6, 7, 8, 10, 11] rfl (by as_aux_lemma => kernel_rfl) (by as_aux_lemma => kernel_rfl) (by as_aux_lemma => kernel_rfl) (by as_aux_lemma => kernel_rfl) (by as_aux_lemma => kernel_rfl) (by as_aux_lemma => kernel_rfl) (fun _ _ _ h => h) (Or.inl ⟨by rfl, (by intro W hSW; (try dsimp only at hSW); (try go_split_ands); go_simp <;> with_reducible rfl)⟩) hS0 ?_
  try simp only [Act.put, List.getElem_toArray, List.getElem_cons_succ, List.getElem_cons_zero, List.setIfInBounds_toArray, List.set_cons_zero, List.set_cons_succ]
  refine wpAnyU_take (i := 1) [2, 3, 5, 6, 7, 8, 10, 11] rfl (by as_aux_lemma => kernel_rfl) (by as_aux_lemma => kernel_rfl) (by as_aux_lemma => kernel_rfl) (by as_aux_lemma => kernel_rfl) (by as_aux_lemma => kernel_rfl) (by as_aux_lemma => kernel_rfl) (fun _ _ _ h => h) (Or.inl ⟨by rfl, (by intro W hSW; (try dsimp only at hSW); (try go_split_ands); go_simp <;> with_reducible rfl)⟩) hS0 ?_
  try simp only [Act.put, List.getElem_toArray, List.getElem_cons_succ, List.getElem_cons_zero, List.setIfInBounds_toArray, List.set_cons_zero, List.set_cons_succ]
  refine wpAnyU_take (i := 2) [3, 5, 6, 7, 8, 10, 11] rfl (by as_aux_lemma => kernel_rfl) (by as_aux_lemma => kernel_rfl) (by as_aux_lemma => kernel_rfl) (by as_aux_lemma => kernel_rfl) (by as_aux_lemma => kernel_rfl) (by as_aux_lemma => kernel_rfl) (fun _ _ _ h => h) (Or.inl ⟨by rfl, (by intro W hSW; (try dsimp only at hSW); (try go_split_ands); go_simp <;> with_reducible rfl)⟩) hS0 ?_
  try simp only [Act.put, List.getElem_toArray, List.getElem_cons_succ, List.getElem_cons_zero, List.setIfInBounds_toArray, List.set_cons_zero, List.set_cons_succ]
  refine wpAnyU_take (i := 3) [5, 6, 7, 8, 10, 11] rfl (by as_aux_lemma => kernel_rfl) (by as_aux_lemma => kernel_rfl) (by as_aux_lemma => kernel_rfl) (by as_aux_lemma => kernel_rfl) (by as_aux_lemma => kernel_rfl) (by as_aux_lemma => kernel_rfl) (fun _ _ _ h => h) (Or.inl ⟨by rfl, (by intro W hSW; (try dsimp only at hSW); (try go_split_ands); go_simp <;> with_reducible rfl)⟩) hS0 ?_
  try simp only [Act.put, List.getElem_toArray, List.getElem_cons_succ, List.getElem_cons_zero, List.setIfInBounds_toArray, List.set_cons_zero, List.set_cons_succ]
  refine wpAnyU_take (i := 4) [5, 6, 7, 8, 10, 11] rfl (by as_aux_lemma => kernel_rfl) (by as_aux_lemma => kernel_rfl) (by as_aux_lemma => kernel_rfl) (by as_aux_lemma => kernel_rfl) (by as_aux_lemma => kernel_rfl) (by as_aux_lemma => kernel_rfl) (fun _ _ _ h => h) (Or.inl ⟨by rfl, (by intro W hSW; (try dsimp only at hSW); (try go_split_ands); go_simp <;> with_reducible rfl)⟩) hS0 ?_
  try simp only [Act.put, List.getElem_toArray, List.getElem_cons_succ, List.getElem_cons_zero, List.setIfInBounds_toArray, List.set_cons_zero, List.set_cons_succ]
  refine wpAnyU_take (i := 5) [6, 7, 8, 10, 11] rfl (by as_aux_lemma => kernel_rfl) (by as_aux_lemma => kernel_rfl) (by as_aux_lemma => kernel_rfl) (by as_aux_lemma => kernel_rfl) (by as_aux_lemma => kernel_rfl) (by as_aux_lemma => kernel_rfl) (fun _ _ _ h => h) (Or.inl ⟨by rfl, (by intro W hSW; (try dsimp only at hSW); (try go_split_ands); go_simp <;> with_reducible rfl)⟩) hS0 ?_
  try simp only [Act.put, List.getElem_toArray, List.getElem_cons_succ, List.getElem_cons_zero, List.setIfInBounds_toArray, List.set_cons_zero, List.set_cons_succ]
  refine wpAnyU_take (i := 6) [7, 8, 10, 11] rfl (by as_aux_lemma => kernel_rfl) (by as_aux_lemma => kernel_rfl) (by as_aux_lemma => kernel_rfl) (by as_aux_lemma => kernel_rfl) (by as_aux_lemma => kernel_rfl) (by as_aux_lemma => kernel_rfl) (fun _ _ _ h => h) (Or.inl ⟨by rfl, (by intro W hSW; (try dsimp only at hSW); (try go_split_ands); go_simp <;> with_reducible rfl)⟩) hS0 ?_
  try simp only [Act.put, List.getElem_toArray, List.getElem_cons_succ, List.getElem_cons_zero, List.setIfInBounds_toArray, List.set_cons_zero, List.set_cons_succ]
  refine wpAnyU_take (i := 7) [10, 11] rfl (by as_aux_lemma => kernel_rfl) (by as_aux_lemma => kernel_rfl) (by as_aux_lemma => kernel_rfl) (by as_aux_lemma => kernel_rfl) (by as_aux_lemma => kernel_rfl) (by as_aux_lemma => kernel_rfl) (fun _ _ _ h => h) (Or.inl ⟨by rfl, (by intro W hSW; (try dsimp only at hSW); (try go_split_ands); go_simp <;> with_reducible rfl)⟩) hS0 ?_
  try simp only [Act.put, List.getElem_toArray, List.getElem_cons_succ, List.getElem_cons_zero, List.setIfInBounds_toArray, List.set_cons_zero, List.set_cons_succ]
  refine wpAnyU_take (i := 8) [11] rfl (by as_aux_lemma => kernel_rfl) (by as_aux_lemma => kernel_rfl) (by as_aux_lemma => kernel_rfl) (by as_aux_lemma => kernel_rfl) (by as_aux_lemma => kernel_rfl) (by as_aux_lemma => kernel_rfl) (fun _ _ _ h => h) (Or.inl ⟨by rfl, (by intro W hSW; (try dsimp only at hSW); (try go_split_ands); go_simp <;> with_reducible rfl)⟩) hS0 ?_
  try simp only [Act.put, List.getElem_toArray, List.getElem_cons_succ, List.getElem_cons_zero, List.setIfInBounds_toArray, List.set_cons_zero, List.set_cons_succ]
  refine wpAnyU_one (i := 9) (by kernel_rfl) rfl (fun K hK => ?_)
  go_simp
  try rw [hwC]
  refine hK.out _ _ (fun _ => hS1) (fun _ => ?_)
  clear hK K
  try simp only [Act.put, List.getElem_toArray, List.getElem_cons_succ, List.getElem_cons_zero, List.setIfInBounds_toArray, List.set_cons_zero, List.set_cons_succ]
  refine wpAnyU_one (i := 10) (by kernel_rfl) rfl (fun K hK => ?_)
  refine step_store_is2 rfl _ _ _ rfl wB.heap.size #[.string ⟨#[]⟩, .int .i64 0] rfl rfl _ _ HKC.out infoG rfl (by simp [Value.oneCell']) ?_
  rw [setRow_self _ _ _ _ _ HKC.out]
  refine hK.out _ _ (fun _ => hS1) (fun _ => ?_)
  clear hK K
  try simp only [Act.put, List.getElem_toArray, List.getElem_cons_succ, List.getElem_cons_zero, List.setIfInBounds_toArray, List.set_cons_zero, List.set_cons_succ]
  refine wpAnyU_take (i := 11) [] rfl (by as_aux_lemma => kernel_rfl) (by as_aux_lemma => kernel_rfl) (by as_aux_lemma => kernel_rfl) (by as_aux_lemma => kernel_rfl) (by as_aux_lemma => kernel_rfl) (by as_aux_lemma => kernel_rfl) (fun _ _ _ h => h) (Or.inl ⟨by rfl, (by intro W hSW; (try dsimp only at hSW); (try go_split_ands); go_simp <;> with_reducible rfl)⟩) hS1 ?_
  try simp only [Act.put, List.getElem_toArray, List.getElem_cons_succ, List.getElem_cons_zero, List.setIfInBounds_toArray, List.set_cons_zero, List.set_cons_succ]
  refine wpAnyU_done (by kernel_rfl) ?_ _
  clear hS0 hS1 hwC HKC
  go_upto_region 7 with (fail)
  obtain ⟨wD, hrD, htD, hD⟩ := TabL.nameDel (HC.out.1.below (below_drewN (Below.refl _ _) 1) : TabL W0 wC.drew t) o
  have uD : Hid (KeepU w wD) := KeepU.turn (wr := wC.drew) uC.out htD (fun cs e => cells_ne_map (w := wC) HC.out.1.rep.tab.nm e rfl)
  have bD : wD.heap[b0]? = some (.cells #[.int .u64 o] 29 (0, 0)) := htD.cells HC.out.2 (cells_ne_map HC.out.1.rep.tab.nm HC.out.2)
  have hS0 : wC.drew.cell? ⟨t.T, 2, none⟩ = some (.map (some t.N)) ∧ wC.drew.cell? ⟨b0, 0, none⟩ = some (.int .u64 o) := ⟨cell_of_row wC.drew t.T 2 _ _ _ HC.out.1.rep.tab.blk, cell_of_row wC.drew b0 0 _ _ _ HC.out.2⟩
  have hS1 : wD.cell? ⟨t.T, 2, none⟩ = some (.map (some t.N)) ∧ wD.cell? ⟨b0, 0, none⟩ = some (.int .u64 o) := ⟨cell_of_row wD t.T 2 _ _ _ hD.rep.tab.blk, cell_of_row wD b0 0 _ _ _ bD⟩
  have HMD : Hid (GMap wD M [(s, Value.agg #[])]) := HMC.out.keep (htD.2.2.2.2 _ HMN.out.2)
  have HD := Lib.hid (And.intro hD bD)
  clear htD hD bD
  refine wp_region_U (fun W => W.cell? ⟨t.T, 2, none⟩ = some (.map (some t.N)) ∧ W.cell? ⟨b0, 0, none⟩ = some (.int .u64 o)) [] (by kernel_rfl) ?_
  refine wpAnyU_take (i := 0) [1, 2, 3, 5] rfl (by as_aux_lemma => kernel_rfl) (by as_aux_lemma => kernel_rfl) (by as_aux_lemma => kernel_rfl) (by as_aux_lemma => kernel_rfl) (by as_aux_lemma => kernel_rfl) (by as_aux_lemma => kernel_rfl) (fun _ _ _ h => h) (Or.inl ⟨by rfl, (by intro W hSW; (try dsimp only at hSW); (try go_split_ands); go_simp <;> with_reducible rfl)⟩) hS0 ?_
  try simp only [Act.put, List.getElem_toArray, List.getElem_cons_succ, List.getElem_cons_zero, List.setIfInBounds_toArray, List.set_cons_zero, List.set_cons_succ]
  refine wpAnyU_take (i := 1) [2, 3, 5] rfl (by as_aux_lemma => kernel_rfl) (by as_aux_lemma => kernel_rfl) (by as_aux_lemma => kernel_rfl) (by as_aux_lemma => kernel_rfl) (by as_aux_lemma => kernel_rfl) (by as_aux_lemma => kernel_rfl) (fun _ _ _ h => h) (Or.inl ⟨by rfl, (by intro W hSW; (try dsimp only at hSW); (try go_split_ands); go_simp <;> with_reducible rfl)⟩) hS0 ?_
  try simp only [Act.put, List.getElem_toArray, List.getElem_cons_succ, List.getElem_cons_zero, List.setIfInBounds_toArray, List.set_cons_zero, List.set_cons_succ]
  refine wpAnyU_take (i := 2) [3, 5] rfl (by as_aux_lemma => kernel_rfl) (by as_aux_lemma => kernel_rfl) (by as_aux_lemma => kernel_rfl) (by as_aux_lemma => kernel_rfl) (by as_aux_lemma => kernel_rfl) (by as_aux_lemma => kernel_rfl) (fun _ _ _ h => h) (Or.inl ⟨by rfl, (by intro W hSW; (try dsimp only at hSW); (try go_split_ands); go_simp <;> with_reducible rfl)⟩) hS0 ?_
  try simp only [Act.put, List.getElem_toArray, List.getElem_cons_succ, List.getElem_cons_zero, List.setIfInBounds_toArray, List.set_cons_zero, List.set_cons_succ]
  refine wpAnyU_take (i := 3) [5] rfl (by as_aux_lemma => kernel_rfl) (by as_aux_lemma => kernel_rfl) (by as_aux_lemma => kernel_rfl) (by as_aux_lemma => kernel_rfl) (by as_aux_lemma => kernel_rfl) (by as_aux_lemma => kernel_rfl) (fun _ _ _ h => h) (Or.inl ⟨by rfl, (by intro W hSW; (try dsimp only at hSW); (try go_split_ands); go_simp <;> with_reducible rfl)⟩) hS0 ?_
  try simp only [Act.put, List.getElem_toArray, List.getElem_cons_succ, List.getElem_cons_zero, List.setIfInBounds_toArray, List.set_cons_zero, List.set_cons_succ]
  refine wpAnyU_take (i := 4) [5] rfl (by as_aux_lemma => kernel_rfl) (by as_aux_lemma => kernel_rfl) (by as_aux_lemma => kernel_rfl) (by as_aux_lemma => kernel_rfl) (by as_aux_lemma => kernel_rfl) (by as_aux_lemma => kernel_rfl) (fun _ _ _ h => h) (Or.inl ⟨by rfl, (by intro W hSW; (try dsimp only at hSW); (try go_split_ands); go_simp <;> with_reducible rfl)⟩) hS0 ?_
  try simp only [Act.put, List.getElem_toArray, List.getElem_cons_succ, List.getElem_cons_zero, List.setIfInBounds_toArray, List.set_cons_zero, List.set_cons_succ]
  refine wpAnyU_one (i := 5) (by kernel_rfl) rfl (fun K hK => ?_)
  go_simp
  refine hK.out _ _ (fun _ => hS1) (fun _ => ?_)
  clear hK K
  try simp only [Act.put, List.getElem_toArray, List.getElem_cons_succ, List.getElem_cons_zero, List.setIfInBounds_toArray, List.set_cons_zero, List.set_cons_succ]
  refine wpAnyU_done (by kernel_rfl) ?_ _
  clear hS0 hS1 hrD
  go_upto_region 8 with (fail)
  obtain ⟨wE, hrE, htE, hE⟩ := TabL.waitsDel (HD.out.1.below (below_drewN (Below.refl _ _) 1) : TabL W0 wD.drew _) o
  have hws : kdel t.ws o = t.ws := kdel_none hw
  simp only [hws] at hE hrE htE
  have uE : Hid (KeepU w wE) := KeepU.turn (wr := wD.drew) uD.out htE (fun cs e => cells_ne_map (w := wD) HD.out.1.rep.tab.wt e rfl)
  have bE : wE.heap[b0]? = some (.cells #[.int .u64 o] 29 (0, 0)) := htE.cells HD.out.2 (cells_ne_map HD.out.1.rep.tab.wt HD.out.2)
  have hS0 : wD.drew.cell? ⟨t.T, 1, none⟩ = some (.map (some t.W)) ∧ wD.drew.cell? ⟨b0, 0, none⟩ = some (.int .u64 o) := ⟨cell_of_row wD.drew t.T 1 _ _ _ HD.out.1.rep.tab.blk, cell_of_row wD.drew b0 0 _ _ _ HD.out.2⟩
  have hS1 : wE.cell? ⟨t.T, 1, none⟩ = some (.map (some t.W)) ∧ wE.cell? ⟨b0, 0, none⟩ = some (.int .u64 o) := ⟨cell_of_row wE t.T 1 _ _ _ hE.rep.tab.blk, cell_of_row wE b0 0 _ _ _ bE⟩
  have HME : Hid (GMap wE M [(s, Value.agg #[])]) := HMD.out.keep (htE.2.2.2.2 _ HMN.out.1)
  have HE := Lib.hid (And.intro hE bE)
  clear htE hE bE hws
  refine wp_region_U (fun W => W.cell? ⟨t.T, 1, none⟩ = some (.map (some t.W)) ∧ W.cell? ⟨b0, 0, none⟩ = some (.int .u64 o)) [] (by kernel_rfl) ?_
  refine wpAnyU_take (i := 0) [1, 2, 3, 5] rfl (by as_aux_lemma => kernel_rfl) (by as_aux_lemma => kernel_rfl) (by as_aux_lemma => kernel_rfl) (by as_aux_lemma => kernel_rfl) (by as_aux_lemma => kernel_rfl) (by as_aux_lemma => kernel_rfl) (fun _ _ _ h => h) (Or.inl ⟨by rfl, (by intro W hSW; (try dsimp only at hSW); (try go_split_ands); go_simp <;> with_reducible rfl)⟩) hS0 ?_
  try simp only [Act.put, List.getElem_toArray, List.getElem_cons_succ, List.getElem_cons_zero, List.setIfInBounds_toArray, List.set_cons_zero, List.set_cons_succ]
  refine wpAnyU_take (i := 1) [2, 3, 5] rfl (by as_aux_lemma => kernel_rfl) (by as_aux_lemma => kernel_rfl) (by as_aux_lemma => kernel_rfl) (by as_aux_lemma => kernel_rfl) (by as_aux_lemma => kernel_rfl) (by as_aux_lemma => kernel_rfl) (fun _ _ _ h => h) (Or.inl ⟨by rfl, (by intro W hSW; (try dsimp only at hSW); (try go_split_ands); go_simp <;> with_reducible rfl)⟩) hS0 ?_
  try simp only [Act.put, List.getElem_toArray, List.getElem_cons_succ, List.getElem_cons_zero, List.setIfInBounds_toArray, List.set_cons_zero, List.set_cons_succ]
  refine wpAnyU_take (i := 2) [3, 5] rfl (by as_aux_lemma => kernel_rfl) (by as_aux_lemma => kernel_rfl) (by as_aux_lemma => kernel_rfl) (by as_aux_lemma => kernel_rfl) (by as_aux_lemma => kernel_rfl) (by as_aux_lemma => kernel_rfl) (fun _ _ _ h => h) (Or.inl ⟨by rfl, (by intro W hSW; (try dsimp only at hSW); (try go_split_ands); go_simp <;> with_reducible rfl)⟩) hS0 ?_
  try simp only [Act.put, List.getElem_toArray, List.getElem_cons_succ, List.getElem_cons_zero, List.setIfInBounds_toArray, List.set_cons_zero, List.set_cons_succ]
  refine wpAnyU_take (i := 3) [5] rfl (by as_aux_lemma => kernel_rfl) (by as_aux_lemma => kernel_rfl) (by as_aux_lemma => kernel_rfl) (by as_aux_lemma => kernel_rfl) (by as_aux_lemma => kernel_rfl) (by as_aux_lemma => kernel_rfl) (fun _ _ _ h => h) (Or.inl ⟨by rfl, (by intro W hSW; (try dsimp only at hSW); (try go_split_ands); go_simp <;> with_reducible rfl)⟩) hS0 ?_
  try simp only [Act.put, List.getElem_toArray, List.getElem_cons_succ, List.getElem_cons_zero, List.setIfInBounds_toArray, List.set_cons_zero, List.set_cons_succ]
  refine wpAnyU_take (i := 4) [5] rfl (by as_aux_lemma => kernel_rfl) (by as_aux_lemma => kernel_rfl) (by as_aux_lemma => kernel_rfl) (by as_aux_lemma => kernel_rfl) (by as_aux_lemma => kernel_rfl) (by as_aux_lemma => kernel_rfl) (fun _ _ _ h => h) (Or.inl ⟨by rfl, (by intro W hSW; (try dsimp only at hSW); (try go_split_ands); go_simp <;> with_reducible rfl)⟩) hS0 ?_
  try simp only [Act.put, List.getElem_toArray, List.getElem_cons_succ, List.getElem_cons_zero, List.setIfInBounds_toArray, List.set_cons_zero, List.set_cons_succ]
  refine wpAnyU_one (i := 5) (by kernel_rfl) rfl (fun K hK => ?_)
  go_simp
  refine hK.out _ _ (fun _ => hS1) (fun _ => ?_)
  clear hK K
  try simp only [Act.put, List.getElem_toArray, List.getElem_cons_succ, List.getElem_cons_zero, List.setIfInBounds_toArray, List.set_cons_zero, List.set_cons_succ]
  refine wpAnyU_done (by kernel_rfl) ?_ _
  clear hS0 hS1 hrE
  have hke := keys_any (some M) wE
  have hso := sorted_one wE M s hs HME.out
  have HKE := Lib.hid hke
  have HSO := Lib.hid hso
  clear hke hso
  go_wp2_with fail
  refine HKE.out.mono ?_
  rintro e w4 ⟨rfl, rfl⟩
  go_wp2_with fail
  refine HSO.out.mono ?_
  rintro e w5 ⟨g, gc, rfl, cg, hgl, hgw, hb5⟩
  have h5 := HE.out.1.below hb5
  have u5 : Hid (KeepU w w5) := uE.out.below hb5
  have b5 : w5.heap[b0]? = some (.cells #[.int .u64 o] 29 (0, 0)) := (hb5.block _ (lt_of_block HE.out.2)).trans HE.out.2
  have H5 := Lib.hid (And.intro h5 (And.intro b5 cg))
  clear h5 b5 cg hgw hb5 HKE HSO HMA HMB HMC HMD HME HMN HA HB HC HD HE HL2
  go_wp2_with fail
  go_loopw [55] (fun iv wr => (iv = .int .i64 0 ∧ wr = w5) ∨ (iv = .int .i64 1 ∧ TabL W0 wr { t with nm := kdel t.nm o, pl := t.pl.set i (s, { x with hs := kdel x.hs o }) } ∧ wr.heap[b0]? = some (.cells #[.int .u64 o] 29 (0, 0)) ∧ wr.cell? ⟨g, 0, none⟩ = some (.string s) ∧ KeepU w wr)) (fun iv _ => 1 - (Go.RowKit.intOf iv).toNat)
  case atStart => exact .inl ⟨rfl, rfl⟩
  case round =>
    rcases hrel with ⟨rfl, rfl⟩ | ⟨rfl, h6, b6, cg6, u6⟩
    · have c0 : wr.cell? ⟨t.T, 0, none⟩ = some (.map (some t.P)) := cell_of_row wr t.T 0 _ _ _ H5.out.1.rep.tab.blk
      have cg : wr.cell? ⟨g, 0, none⟩ = some (.string s) := H5.out.2.2
      have hpa2 : glook (plV t.pl) s = some (.pointer (some ⟨x.p, 0, none⟩)) := by
        have h9 := glook_map (fun y : PV => Value.pointer (some ⟨y.p, 0, none⟩)) t.pl s
        rw [hpa] at h9
        exact h9
      have hl3 : (Instr.lookup 62 (.map (some t.P)) (.string s) false).run Try.prog wr = .ok (.pointer (some ⟨x.p, 0, none⟩)) wr := by
        have h9 := gmap_lookup1 (P := Try.prog) Try.underlying62 Try.underlying9 (z67 wr) H5.out.1.rep.tab.pl s
        rw [hpa2] at h9
        exact h9
      have HPA := Lib.hid hpa2
      clear hpa2
      go_upto_region 14 with (fail)
      obtain ⟨wF, hrF, htF, hF⟩ := TabL.heldDel (H5.out.1.below (below_drewN (Below.refl _ _) 1) : TabL W0 wr.drew { t with nm := kdel t.nm o }) (i := i) (s := s) (x := x) hx o
      obtain ⟨hp5, hq5⟩ := H5.out.1.rep.pls i _ hx
      have bF : wF.heap[b0]? = some (.cells #[.int .u64 o] 29 (0, 0)) := htF.cells H5.out.2.1 (cells_ne_map hp5.hl H5.out.2.1)
      have uF : Hid (KeepU w wF) := KeepU.turn (wr := wr.drew) u5.out htF (fun cs e => cells_ne_map (w := wr) hp5.hl e rfl)
      have cgF : wF.cell? ⟨g, 0, none⟩ = some (.string s) := by
        have h9 : wF.cell? ⟨g, 0, none⟩ = wr.cell? ⟨g, 0, none⟩ := World.cell?_of_block (htF.2.2.2.2 g (fun e => by
          obtain ⟨l, c, hl, -⟩ := hp5.hl
          have hg9 : wr.heap[g]? = _ := e ▸ hl.2.2.2
          simp [World.cell?, hg9] at cg))
        rw [h9]
        exact cg
      have hS0 : wr.drew.cell? ⟨x.p, 0, none⟩ = some (.map (some x.H)) ∧ wr.drew.cell? ⟨b0, 0, none⟩ = some (.int .u64 o) := ⟨cell_of_row wr.drew x.p 0 _ _ _ hp5.blk, cell_of_row wr.drew b0 0 _ _ _ H5.out.2.1⟩
      have hxF : ({ t with nm := kdel t.nm o, pl := t.pl.set i (s, { x with hs := kdel x.hs o }) } : TV).pl[i]? = some (s, { x with hs := kdel x.hs o }) := by
        show (t.pl.set i _)[i]? = _
        rw [List.getElem?_set]
        simp [(List.getElem?_eq_some_iff.1 hx).1]
      obtain ⟨hpF, hqF⟩ := hF.rep.pls i _ hxF
      have hS1 : wF.cell? ⟨x.p, 0, none⟩ = some (.map (some x.H)) ∧ wF.cell? ⟨b0, 0, none⟩ = some (.int .u64 o) := ⟨cell_of_row wF x.p 0 _ _ _ hpF.blk, cell_of_row wF b0 0 _ _ _ bF⟩
      have hdf := deleteFunc_none hqF hql b0 o hS1.2 hqs
      have HDF := Lib.hid hdf
      have HF := Lib.hid (And.intro hF (And.intro bF (And.intro cgF (And.intro hpF hqF))))
      have HXF := Lib.hid hxF
      clear htF bF cgF hp5 hq5 hxF hpF hqF hdf hF c0 cg
      refine wp_region_U (fun W => W.cell? ⟨x.p, 0, none⟩ = some (.map (some x.H)) ∧ W.cell? ⟨b0, 0, none⟩ = some (.int .u64 o)) [] (by kernel_rfl) ?_
      refine wpAnyU_take (i := 0) [1, 2, 3, 5] rfl (by as_aux_lemma => kernel_rfl) (by as_aux_lemma => kernel_rfl) (by as_aux_lemma => kernel_rfl) (by as_aux_lemma => kernel_rfl) (by as_aux_lemma => kernel_rfl) (by as_aux_lemma => kernel_rfl) (fun _ _ _ h => h) (Or.inl ⟨by rfl, (by intro W hSW; (try dsimp only at hSW); (try go_split_ands); go_simp <;> with_reducible rfl)⟩) hS0 ?_
      try simp only [Act.put, List.getElem_toArray, List.getElem_cons_succ, List.getElem_cons_zero, List.setIfInBounds_toArray, List.set_cons_zero, List.set_cons_succ]
      refine wpAnyU_take (i := 1) [2, 3, 5] rfl (by as_aux_lemma => kernel_rfl) (by as_aux_lemma => kernel_rfl) (by as_aux_lemma => kernel_rfl) (by as_aux_lemma => kernel_rfl) (by as_aux_lemma => kernel_rfl) (by as_aux_lemma => kernel_rfl) (fun _ _ _ h => h) (Or.inl ⟨by rfl, (by intro W hSW; (try dsimp only at hSW); (try go_split_ands); go_simp <;> with_reducible rfl)⟩) hS0 ?_
      try simp only [Act.put, List.getElem_toArray, List.getElem_cons_succ, List.getElem_cons_zero, List.setIfInBounds_toArray, List.set_cons_zero, List.set_cons_succ]
      refine wpAnyU_take (i := 2) [3, 5] rfl (by as_aux_lemma => kernel_rfl) (by as_aux_lemma => kernel_rfl) (by as_aux_lemma => kernel_rfl) (by as_aux_lemma => kernel_rfl) (by as_aux_lemma => kernel_rfl) (by as_aux_lemma => kernel_rfl) (fun _ _ _ h => h) (Or.inl ⟨by rfl, (by intro W hSW; (try dsimp only at hSW); (try go_split_ands); go_simp <;> with_reducible rfl)⟩) hS0 ?_
      try simp only [Act.put, List.getElem_toArray, List.getElem_cons_succ, List.getElem_cons_zero, List.setIfInBounds_toArray, List.set_cons_zero, List.set_cons_succ]
      refine wpAnyU_take (i := 3) [5] rfl (by as_aux_lemma => kernel_rfl) (by as_aux_lemma => kernel_rfl) (by as_aux_lemma => kernel_rfl) (by as_aux_lemma => kernel_rfl) (by as_aux_lemma => kernel_rfl) (by as_aux_lemma => kernel_rfl) (fun _ _ _ h => h) (Or.inl ⟨by rfl, (by intro W hSW; (try dsimp only at hSW); (try go_split_ands); go_simp <;> with_reducible rfl)⟩) hS0 ?_
      try simp only [Act.put, List.getElem_toArray, List.getElem_cons_succ, List.getElem_cons_zero, List.setIfInBounds_toArray, List.set_cons_zero, List.set_cons_succ]
      refine wpAnyU_take (i := 4) [5] rfl (by as_aux_lemma => kernel_rfl) (by as_aux_lemma => kernel_rfl) (by as_aux_lemma => kernel_rfl) (by as_aux_lemma => kernel_rfl) (by as_aux_lemma => kernel_rfl) (by as_aux_lemma => kernel_rfl) (fun _ _ _ h => h) (Or.inl ⟨by rfl, (by intro W hSW; (try dsimp only at hSW); (try go_split_ands); go_simp <;> with_reducible rfl)⟩) hS0 ?_
      try simp only [Act.put, List.getElem_toArray, List.getElem_cons_succ, List.getElem_cons_zero, List.setIfInBounds_toArray, List.set_cons_zero, List.set_cons_succ]
      refine wpAnyU_one (i := 5) (by kernel_rfl) rfl (fun K hK => ?_)
      go_simp
      refine hK.out _ _ (fun _ => hS1) (fun _ => ?_)
      clear hK K
      try simp only [Act.put, List.getElem_toArray, List.getElem_cons_succ, List.getElem_cons_zero, List.setIfInBounds_toArray, List.set_cons_zero, List.set_cons_succ]
      refine wpAnyU_done (by kernel_rfl) ?_ _
      clear hS0 hS1 hrF hl3
      have cq : wF.cell? ⟨x.p, 1, none⟩ = some x.q := cell_of_row wF x.p 1 _ _ _ HF.out.2.2.2.1.blk
      obtain ⟨qa, qn, qc, hqe⟩ : ∃ qa qn qc, x.q = .slice qa qn qc := by
        rcases HF.out.2.2.2.2 with ⟨e, e2⟩ | ⟨g, off, c, cur, e, -⟩
        · exact ⟨none, 0, 0, e⟩
        · exact ⟨some ⟨g, off, none⟩, _, c, e⟩
      simp only [hqe] at HDF cq
      go_wp2_with fail
      refine HDF.out.mono ?_
      rintro e wG ⟨rfl, hbG⟩
      have hG := HF.out.1.below hbG
      obtain ⟨hpG, hqG⟩ := hG.rep.pls i _ HXF.out
      have fG : wG.frozen? ⟨x.p, 1, none⟩ = false := by simp [World.frozen?, hpG.blk]
      have cG : wG.cell? ⟨x.p, 1, none⟩ = some x.q := cell_of_row wG x.p 1 _ _ _ hpG.blk
      rw [hqe] at cG
      obtain ⟨htH, hH⟩ := hG.queueSet HXF.out hqG (fun g hg => hg)
      simp only [List.set_set] at hH
      have bH : (wG.setCell ⟨x.p, 1, none⟩ x.q).heap[b0]? = some (.cells #[.int .u64 o] 29 (0, 0)) := htH.cells ((hbG.block _ (lt_of_block HF.out.2.1)).trans HF.out.2.1) (cells_ty_ne ((hbG.block _ (lt_of_block HF.out.2.1)).trans HF.out.2.1) hpG.blk (by decide))
      have cgH : (wG.setCell ⟨x.p, 1, none⟩ x.q).cell? ⟨g, 0, none⟩ = some (.string s) := by
        have h8 : wG.cell? ⟨g, 0, none⟩ = some (.string s) := by
          rw [World.cell?_of_block (hbG.block g (World.block_lt_of_cell? _ _ HF.out.2.2.1))]
          exact HF.out.2.2.1
        by_cases e : g = x.p
        · subst e
          have h9 : wG.cell? ⟨x.p, 0, none⟩ = some (.map (some x.H)) := cell_of_row wG x.p 0 _ _ _ hpG.blk
          rw [h8] at h9
          cases h9
        · rw [World.cell?_of_block (htH.2.2.2.2 g e)]
          exact h8
      have uH : Hid (KeepU w (wG.setCell ⟨x.p, 1, none⟩ x.q)) := KeepU.turn (uF.out.below hbG) htH (fun cs e => by rw [hpG.blk] at e; injection e with e; injection e with _ e _; exact absurd e (by decide))
      rw [hqe] at uH
      have HH := Lib.hid (And.intro hH (And.intro bH cgH))
      have hqe2 := hqe
      clear hG hpG hqG htH hH bH cgH hbG HDF HF HXF cq
      rw [hqe2] at HH
      go_wp2
      go_roundw
      case rel => exact .inr ⟨by go_num, by have h9 := HH.out.1; rw [← hqe2] at h9 ⊢; exact h9, HH.out.2.1, HH.out.2.2, uH.out⟩
      case measure => simp [Go.RowKit.intOf]
    · have H6 := Lib.hid (And.intro h6 (And.intro b6 cg6))
      have HU6 : Hid (KeepU w wr) := u6
      clear h6 b6 cg6 u6 H5
      have hsz6 : W0.heap.size ≤ wr.heap.size := H6.out.1.bl.size
      obtain ⟨w6, rfl⟩ : ∃ w6 : World, w6 = wr := ⟨_, rfl⟩
      go_wp2_with fail
      go_loopw [12, 82] (fun ov_ iv wr => (iv = .int .i64 0 ∧ ov_ = .slice none 0 0 ∧ wr = w6) ∨
        (iv = .int .i64 1 ∧ FreeStK w W0 t i s x o wr ov_)) (fun _ iv _ => 1 - (Go.RowKit.intOf iv).toNat)
      case atStart => exact .inl ⟨rfl, rfl, rfl⟩
      case round =>
        rcases hrel with ⟨rfl, rfl, rfl⟩ | ⟨rfl, hfin⟩
        · have c0 : wr.cell? ⟨t.T, 0, none⟩ = some (.map (some t.P)) := cell_of_row wr t.T 0 _ _ _ H6.out.1.rep.tab.blk
          have cg : wr.cell? ⟨g, 0, none⟩ = some (.string s) := H6.out.2.2
          have hxn : (t.pl.set i (s, { x with hs := kdel x.hs o }))[i]? = some (s, { x with hs := kdel x.hs o }) := by
            rw [List.getElem?_set]
            simp [(List.getElem?_eq_some_iff.1 hx).1]
          have hpv : plV (t.pl.set i (s, { x with hs := kdel x.hs o })) = plV t.pl := map_set_same _ hx rfl
          have hl3 : (Instr.lookup 62 (.map (some t.P)) (.string s) false).run Try.prog wr = .ok (.pointer (some ⟨x.p, 0, none⟩)) wr := by
            have h9 := gmap_lookup1 (P := Try.prog) Try.underlying62 Try.underlying9 (z67 wr) H6.out.1.rep.tab.pl s
            have h8 : glook (plV (t.pl.set i (s, { x with hs := kdel x.hs o }))) s = some (.pointer (some ⟨x.p, 0, none⟩)) := by
              rw [hpv]
              have h7 := glook_map (fun y : PV => Value.pointer (some ⟨y.p, 0, none⟩)) t.pl s
              rw [hpa] at h7
              exact h7
            rw [h8] at h9
            exact h9
          have HXN := Lib.hid (And.intro hxn hpv)
          have hil : i < t.pl.length := (List.getElem?_eq_some_iff.1 hx).1
          have HIL := Lib.hid hil
          clear hxn hpv hil
          obtain ⟨w7, rfl⟩ : ∃ w7 : World, w7 = wr := ⟨_, rfl⟩
          go_wp2_with fail
          go_loopw [12] (fun ov_ wr => ∃ (oa : Option Addr) (on oc : Nat), ov_ = .slice oa on oc ∧ ∃ pre q hs cur ws nm, pre.length = on ∧ FreeMidK w W0 t i s x o pre wr (.slice oa on oc) q hs cur ws nm) (fun ov_ _ => x.qs.length - slen ov_)
          case atStart => exact ⟨none, 0, 0, rfl, [], x.q, kdel x.hs o, x.qs, t.ws, kdel t.nm o, rfl, H6.out.1, rfl, rfl, rfl, fun _ => rfl, World.ownsRow_nil _ _ _ _, HU6.out⟩
          case round =>
            obtain ⟨oa, on, oc, rfl, pre, q, hs, cur, ws, nm, hon, hm⟩ := hrel
            have HON := Lib.hid hon
            clear hon
            have hxc := freeT_get (s := s) (x := x) (q := q) (hs := hs) (cur := cur) (ws := ws) (nm := nm) HIL.out
            obtain ⟨hp, hq⟩ := hm.tab.rep.pls i _ hxc
            obtain ⟨qa, qn, qc, hqe, hqn⟩ : ∃ qa qn qc, q = .slice qa qn qc ∧ cur.length = qn := by
              rcases hq with ⟨e, e2⟩ | ⟨g, off, c, cur2, e, -⟩
              · exact ⟨none, 0, 0, e, by show cur.length = 0; rw [show cur = [] from e2]; rfl⟩
              · exact ⟨some ⟨g, off, none⟩, _, c, e, rfl⟩
            subst hqe
            have HM := Lib.hid (And.intro hm (And.intro hxc (And.intro hp hq)))
            go_upto_region 22 with fail
            go_cut [115] (fun sv wx => ∃ b, sv = .bool b ∧ FreeMidK w W0 t i s x o pre wx (.slice oa on oc) (.slice qa qn qc) hs cur ws nm ∧ (b = true → ∃ a rest, cur = a :: rest ∧ goesP (hsV hs) a.1 a.2 = true) ∧ (b = false → popQ hs cur = (hs, cur, [])))
            case first =>
              have cq : wr.cell? ⟨x.p, 1, none⟩ = some (.slice qa qn qc) := cell_of_row wr x.p 1 _ _ _ hp.blk
              cases cur with
              | nil =>
                obtain rfl : qn = 0 := hqn.symm
                clear hm hxc hp hq
                go_quiet (fail)
                go_wp2
                go_meet
                exact ⟨false, rfl, HM.out.1.below (below_drewN (Below.refl _ _) _), (fun h => by cases h), fun _ => rfl⟩
              | cons a rest =>
                obtain ⟨qg, qo, qc2, e, ca, cb⟩ := hq.at_ 0 (by simp)
                injection e with e1 e2 e3
                subst e1 e3
                simp only [Nat.zero_mul, Nat.add_zero, List.getElem_cons_zero] at ca cb
                have hmo : ModesAt (hsV hs) := fun q hq => by obtain ⟨y, -, rfl⟩ := List.mem_map.1 hq; exact ⟨y.2, rfl⟩
                have hgo : Calls Try.prog 29 #[.pointer (some ⟨x.p, 0, none⟩), .int .u64 a.1, .int .i64 a.2] wr.drew fun e w' => e = .returned (.bool (goesP (hsV hs) a.1 a.2)) ∧ Below wr.drew.heap.size wr.drew w' :=
                  goes_any wr.drew x.p x.H _ (hsV hs) a.1 a.2 ⟨hp.blk, hp.hl⟩ hmo
                obtain ⟨gb, hgb⟩ : ∃ gb, goesP (hsV hs) a.1 a.2 = gb := ⟨_, rfl⟩
                rw [hgb] at hgo
                have hS0 : wr.drew.cell? ⟨x.p, 1, none⟩ = some (.slice (some ⟨qg, qo, none⟩) qn qc) ∧ wr.drew.cell? ⟨qg, qo, none⟩ = some (.int .u64 a.1) ∧ wr.drew.cell? ⟨qg, qo + 1, none⟩ = some (.int .i64 a.2) := ⟨cq, ca, cb⟩
                have hqn0 : (0 : Int) < (qn : Int) := by have h9 : rest.length + 1 = qn := hqn; omega
                have hqn1 : decide (0 < qn) = true := by simp; omega
                have hqn2 : 0 < qn := by omega
                have HGO := Lib.hid hgo
                have HGB := Lib.hid hgb
                clear hm hxc hp hq hmo hgo hgb cq ca cb hqn e2
                refine wp_region_U (fun W => W.cell? ⟨x.p, 1, none⟩ = some (.slice (some ⟨qg, qo, none⟩) qn qc) ∧ W.cell? ⟨qg, qo, none⟩ = some (.int .u64 a.1) ∧ W.cell? ⟨qg, qo + 1, none⟩ = some (.int .i64 a.2)) [] (by kernel_rfl) ?_
                refine wpAnyU_take (i := 0) [1, 2, 3, 4, 5, 6, 7, 8, 9, 10, 11, 12, 13, 14, 15, 16, 17, 18, 19, 20, 21, 22, 23] rfl (by as_aux_lemma => kernel_rfl) (by as_aux_lemma => kernel_rfl) (by as_aux_lemma => kernel_rfl) (by as_aux_lemma => kernel_rfl) (by as_aux_lemma => kernel_rfl) (by as_aux_lemma => kernel_rfl) (fun _ _ _ h => h) (Or.inl ⟨by rfl, (by intro W hSW; (try dsimp only at hSW); (try go_split_ands); go_simp <;> with_reducible rfl)⟩) hS0 ?_
                try simp only [Act.put, List.getElem_toArray, List.getElem_cons_succ, List.getElem_cons_zero, List.setIfInBounds_toArray, List.set_cons_zero, List.set_cons_succ]
                refine wpAnyU_take (i := 1) [2, 3, 4, 5, 6, 7, 8, 9, 10, 11, 12, 13, 14, 15, 16, 17, 18, 19, 20, 21, 22, 23] rfl (by as_aux_lemma => kernel_rfl) (by as_aux_lemma => kernel_rfl) (by as_aux_lemma => kernel_rfl) (by as_aux_lemma => kernel_rfl) (by as_aux_lemma => kernel_rfl) (by as_aux_lemma => kernel_rfl) (fun _ _ _ h => h) (Or.inl ⟨by rfl, (by intro W hSW; (try dsimp only at hSW); (try go_split_ands); go_simp <;> with_reducible rfl)⟩) hS0 ?_
                try simp only [Act.put, List.getElem_toArray, List.getElem_cons_succ, List.getElem_cons_zero, List.setIfInBounds_toArray, List.set_cons_zero, List.set_cons_succ]
                refine wpAnyU_take (i := 2) [3, 4, 5, 6, 7, 8, 9, 10, 11, 12, 13, 14, 15, 16, 17, 18, 19, 20, 21, 22, 23] rfl (by as_aux_lemma => kernel_rfl) (by as_aux_lemma => kernel_rfl) (by as_aux_lemma => kernel_rfl) (by as_aux_lemma => kernel_rfl) (by as_aux_lemma => kernel_rfl) (by as_aux_lemma => kernel_rfl) (fun _ _ _ h => h) (Or.inl ⟨by rfl, (by intro W hSW; (try dsimp only at hSW); (try go_split_ands); go_simp <;> with_reducible rfl)⟩) hS0 ?_
                try simp only [Act.put, List.getElem_toArray, List.getElem_cons_succ, List.getElem_cons_zero, List.setIfInBounds_toArray, List.set_cons_zero, List.set_cons_succ]
                refine wpAnyU_take (i := 3) [4, 5, 6, 7, 8, 9, 10, 11, 12, 13, 14, 15, 16, 17, 18, 19, 20, 21, 22, 23] rfl (by as_aux_lemma => kernel_rfl) (by as_aux_lemma => kernel_rfl) (by as_aux_lemma => kernel_rfl) (by as_aux_lemma => kernel_rfl) (by as_aux_lemma => kernel_rfl) (by as_aux_lemma => kernel_rfl) (fun _ _ _ h => h) (Or.inl ⟨by rfl, (by intro W hSW; (try dsimp only at hSW); (try go_split_ands); go_simp <;> with_reducible rfl)⟩) hS0 ?_
                try simp only [Act.put, List.getElem_toArray, List.getElem_cons_succ, List.getElem_cons_zero, List.setIfInBounds_toArray, List.set_cons_zero, List.set_cons_succ]
                refine wpAnyU_take (i := 4) [5, 6, 7, 8, 9, 10, 11, 12, 13, 14, 15, 16, 17, 18, 19, 20, 21, 22, 23] rfl (by as_aux_lemma => kernel_rfl) (by as_aux_lemma => kernel_rfl) (by as_aux_lemma => kernel_rfl) (by as_aux_lemma => kernel_rfl) (by as_aux_lemma => kernel_rfl) (by as_aux_lemma => kernel_rfl) (fun _ _ _ h => h) (Or.inl ⟨by rfl, (by intro W hSW; (try dsimp only at hSW); (try go_split_ands); go_simp <;> with_reducible rfl)⟩) hS0 ?_
                try simp only [Act.put, List.getElem_toArray, List.getElem_cons_succ, List.getElem_cons_zero, List.setIfInBounds_toArray, List.set_cons_zero, List.set_cons_succ]
                refine wpAnyU_take (i := 5) [6, 7, 8, 9, 10, 11, 12, 13, 14, 15, 16, 17, 18, 19, 20, 21, 22, 23] rfl (by as_aux_lemma => kernel_rfl) (by as_aux_lemma => kernel_rfl) (by as_aux_lemma => kernel_rfl) (by as_aux_lemma => kernel_rfl) (by as_aux_lemma => kernel_rfl) (by as_aux_lemma => kernel_rfl) (fun _ _ _ h => h) (Or.inl ⟨by rfl, (by intro W hSW; (try dsimp only at hSW); (try go_split_ands); go_simp <;> with_reducible rfl)⟩) hS0 ?_
                try simp only [Act.put, List.getElem_toArray, List.getElem_cons_succ, List.getElem_cons_zero, List.setIfInBounds_toArray, List.set_cons_zero, List.set_cons_succ]
                refine wpAnyU_take (i := 6) [7, 8, 9, 10, 11, 12, 13, 14, 15, 16, 17, 18, 19, 20, 21, 22, 23] rfl (by as_aux_lemma => kernel_rfl) (by as_aux_lemma => kernel_rfl) (by as_aux_lemma => kernel_rfl) (by as_aux_lemma => kernel_rfl) (by as_aux_lemma => kernel_rfl) (by as_aux_lemma => kernel_rfl) (fun _ _ _ h => h) (Or.inl ⟨by rfl, (by intro W hSW; (try dsimp only at hSW); (try go_split_ands); go_simp <;> with_reducible rfl)⟩) hS0 ?_
                try simp only [Act.put, List.getElem_toArray, List.getElem_cons_succ, List.getElem_cons_zero, List.setIfInBounds_toArray, List.set_cons_zero, List.set_cons_succ]
                refine wpAnyU_take (i := 7) [22, 23] rfl (by as_aux_lemma => kernel_rfl) (by as_aux_lemma => kernel_rfl) (by as_aux_lemma => kernel_rfl) (by as_aux_lemma => kernel_rfl) (by as_aux_lemma => kernel_rfl) (by as_aux_lemma => kernel_rfl) (fun _ _ _ h => h) (by first | exact Or.inl ⟨by rfl, (by intro W hSW; (try dsimp only at hSW); (try go_split_ands); go_simp <;> with_reducible rfl)⟩ | exact Or.inr ⟨by rfl, rfl⟩) hS0 ?_
                try simp only [Act.put, List.getElem_toArray, List.getElem_cons_succ, List.getElem_cons_zero, List.setIfInBounds_toArray, List.set_cons_zero, List.set_cons_succ]
                refine wpAnyU_take (i := 8) [9, 10, 11, 12, 13, 14, 22, 23] rfl (by as_aux_lemma => kernel_rfl) (by as_aux_lemma => kernel_rfl) (by as_aux_lemma => kernel_rfl) (by as_aux_lemma => kernel_rfl) (by as_aux_lemma => kernel_rfl) (by as_aux_lemma => kernel_rfl) (fun _ _ _ h => h) (by first | exact Or.inl ⟨by rfl, (by intro W hSW; (try dsimp only at hSW); (try go_split_ands); go_simp <;> with_reducible rfl)⟩ | exact Or.inr ⟨by rfl, rfl⟩) hS0 ?_
                try simp only [Act.put, List.getElem_toArray, List.getElem_cons_succ, List.getElem_cons_zero, List.setIfInBounds_toArray, List.set_cons_zero, List.set_cons_succ]
                refine wpAnyU_take (i := 9) [10, 11, 12, 13, 14, 22, 23] rfl (by as_aux_lemma => kernel_rfl) (by as_aux_lemma => kernel_rfl) (by as_aux_lemma => kernel_rfl) (by as_aux_lemma => kernel_rfl) (by as_aux_lemma => kernel_rfl) (by as_aux_lemma => kernel_rfl) (fun _ _ _ h => h) (by first | exact Or.inl ⟨by rfl, (by intro W hSW; (try dsimp only at hSW); (try go_split_ands); go_simp <;> with_reducible rfl)⟩ | exact Or.inr ⟨by rfl, rfl⟩) hS0 ?_
                try simp only [Act.put, List.getElem_toArray, List.getElem_cons_succ, List.getElem_cons_zero, List.setIfInBounds_toArray, List.set_cons_zero, List.set_cons_succ]
                refine wpAnyU_take (i := 10) [11, 12, 13, 14, 22, 23] rfl (by as_aux_lemma => kernel_rfl) (by as_aux_lemma => kernel_rfl) (by as_aux_lemma => kernel_rfl) (by as_aux_lemma => kernel_rfl) (by as_aux_lemma => kernel_rfl) (by as_aux_lemma => kernel_rfl) (fun _ _ _ h => h) (by first | exact Or.inl ⟨by rfl, (by intro W hSW; (try dsimp only at hSW); (try go_split_ands); go_simp <;> with_reducible rfl)⟩ | exact Or.inr ⟨by rfl, rfl⟩) hS0 ?_
                try simp only [Act.put, List.getElem_toArray, List.getElem_cons_succ, List.getElem_cons_zero, List.setIfInBounds_toArray, List.set_cons_zero, List.set_cons_succ]
                refine wpAnyU_take (i := 11) [12, 13, 14, 22, 23] rfl (by as_aux_lemma => kernel_rfl) (by as_aux_lemma => kernel_rfl) (by as_aux_lemma => kernel_rfl) (by as_aux_lemma => kernel_rfl) (by as_aux_lemma => kernel_rfl) (by as_aux_lemma => kernel_rfl) (fun _ _ _ h => h) (by first | exact Or.inl ⟨by rfl, (by intro W hSW; (try dsimp only at hSW); (try go_split_ands); go_simp <;> with_reducible rfl)⟩ | exact Or.inr ⟨by rfl, rfl⟩) hS0 ?_
                try simp only [Act.put, List.getElem_toArray, List.getElem_cons_succ, List.getElem_cons_zero, List.setIfInBounds_toArray, List.set_cons_zero, List.set_cons_succ]
                refine wpAnyU_take (i := 12) [13, 14, 22, 23] rfl (by as_aux_lemma => kernel_rfl) (by as_aux_lemma => kernel_rfl) (by as_aux_lemma => kernel_rfl) (by as_aux_lemma => kernel_rfl) (by as_aux_lemma => kernel_rfl) (by as_aux_lemma => kernel_rfl) (fun _ _ _ h => h) (by first | exact Or.inl ⟨by rfl, (by intro W hSW; (try dsimp only at hSW); (try go_split_ands); go_simp <;> with_reducible rfl)⟩ | exact Or.inr ⟨by rfl, rfl⟩) hS0 ?_
                try simp only [Act.put, List.getElem_toArray, List.getElem_cons_succ, List.getElem_cons_zero, List.setIfInBounds_toArray, List.set_cons_zero, List.set_cons_succ]
                refine wpAnyU_take (i := 13) [14, 22, 23] rfl (by as_aux_lemma => kernel_rfl) (by as_aux_lemma => kernel_rfl) (by as_aux_lemma => kernel_rfl) (by as_aux_lemma => kernel_rfl) (by as_aux_lemma => kernel_rfl) (by as_aux_lemma => kernel_rfl) (fun _ _ _ h => h) (by first | exact Or.inl ⟨by rfl, (by intro W hSW; (try dsimp only at hSW); (try go_split_ands); go_simp <;> with_reducible rfl)⟩ | exact Or.inr ⟨by rfl, rfl⟩) hS0 ?_
                try simp only [Act.put, List.getElem_toArray, List.getElem_cons_succ, List.getElem_cons_zero, List.setIfInBounds_toArray, List.set_cons_zero, List.set_cons_succ]
                refine wpAnyU_take (i := 14) [22, 23] rfl (by as_aux_lemma => kernel_rfl) (by as_aux_lemma => kernel_rfl) (by as_aux_lemma => kernel_rfl) (by as_aux_lemma => kernel_rfl) (by as_aux_lemma => kernel_rfl) (by as_aux_lemma => kernel_rfl) (fun _ _ _ h => h) (by first | exact Or.inl ⟨by rfl, (by intro W hSW; (try dsimp only at hSW); (try go_split_ands); go_simp <;> with_reducible rfl)⟩ | exact Or.inr ⟨by rfl, rfl⟩) hS0 ?_
                try simp only [Act.put, List.getElem_toArray, List.getElem_cons_succ, List.getElem_cons_zero, List.setIfInBounds_toArray, List.set_cons_zero, List.set_cons_succ]
                refine wpAnyU_take (i := 15) [16, 17, 18, 19, 20, 21, 22, 23] rfl (by as_aux_lemma => kernel_rfl) (by as_aux_lemma => kernel_rfl) (by as_aux_lemma => kernel_rfl) (by as_aux_lemma => kernel_rfl) (by as_aux_lemma => kernel_rfl) (by as_aux_lemma => kernel_rfl) (fun _ _ _ h => h) (by first | exact Or.inl ⟨by rfl, (by intro W hSW; (try dsimp only at hSW); (try go_split_ands); go_simp <;> with_reducible rfl)⟩ | exact Or.inr ⟨by rfl, rfl⟩) hS0 ?_
                try simp only [Act.put, List.getElem_toArray, List.getElem_cons_succ, List.getElem_cons_zero, List.setIfInBounds_toArray, List.set_cons_zero, List.set_cons_succ]
                refine wpAnyU_take (i := 16) [17, 18, 19, 20, 21, 22, 23] rfl (by as_aux_lemma => kernel_rfl) (by as_aux_lemma => kernel_rfl) (by as_aux_lemma => kernel_rfl) (by as_aux_lemma => kernel_rfl) (by as_aux_lemma => kernel_rfl) (by as_aux_lemma => kernel_rfl) (fun _ _ _ h => h) (by first | exact Or.inl ⟨by rfl, (by intro W hSW; (try dsimp only at hSW); (try go_split_ands); go_simp <;> with_reducible rfl)⟩ | exact Or.inr ⟨by rfl, rfl⟩) hS0 ?_
                try simp only [Act.put, List.getElem_toArray, List.getElem_cons_succ, List.getElem_cons_zero, List.setIfInBounds_toArray, List.set_cons_zero, List.set_cons_succ]
                refine wpAnyU_take (i := 17) [18, 19, 20, 21, 22, 23] rfl (by as_aux_lemma => kernel_rfl) (by as_aux_lemma => kernel_rfl) (by as_aux_lemma => kernel_rfl) (by as_aux_lemma => kernel_rfl) (by as_aux_lemma => kernel_rfl) (by as_aux_lemma => kernel_rfl) (fun _ _ _ h => h) (by first | exact Or.inl ⟨by rfl, (by intro W hSW; (try dsimp only at hSW); (try go_split_ands); go_simp <;> with_reducible rfl)⟩ | exact Or.inr ⟨by rfl, rfl⟩) hS0 ?_
                try simp only [Act.put, List.getElem_toArray, List.getElem_cons_succ, List.getElem_cons_zero, List.setIfInBounds_toArray, List.set_cons_zero, List.set_cons_succ]
                refine wpAnyU_take (i := 18) [19, 20, 21, 22, 23] rfl (by as_aux_lemma => kernel_rfl) (by as_aux_lemma => kernel_rfl) (by as_aux_lemma => kernel_rfl) (by as_aux_lemma => kernel_rfl) (by as_aux_lemma => kernel_rfl) (by as_aux_lemma => kernel_rfl) (fun _ _ _ h => h) (by first | exact Or.inl ⟨by rfl, (by intro W hSW; (try dsimp only at hSW); (try go_split_ands); go_simp <;> with_reducible rfl)⟩ | exact Or.inr ⟨by rfl, rfl⟩) hS0 ?_
                try simp only [Act.put, List.getElem_toArray, List.getElem_cons_succ, List.getElem_cons_zero, List.setIfInBounds_toArray, List.set_cons_zero, List.set_cons_succ]
                refine wpAnyU_take (i := 19) [20, 21, 22, 23] rfl (by as_aux_lemma => kernel_rfl) (by as_aux_lemma => kernel_rfl) (by as_aux_lemma => kernel_rfl) (by as_aux_lemma => kernel_rfl) (by as_aux_lemma => kernel_rfl) (by as_aux_lemma => kernel_rfl) (fun _ _ _ h => h) (by first | exact Or.inl ⟨by rfl, (by intro W hSW; (try dsimp only at hSW); (try go_split_ands); go_simp <;> with_reducible rfl)⟩ | exact Or.inr ⟨by rfl, rfl⟩) hS0 ?_
                try simp only [Act.put, List.getElem_toArray, List.getElem_cons_succ, List.getElem_cons_zero, List.setIfInBounds_toArray, List.set_cons_zero, List.set_cons_succ]
                refine wpAnyU_take (i := 20) [21, 22, 23] rfl (by as_aux_lemma => kernel_rfl) (by as_aux_lemma => kernel_rfl) (by as_aux_lemma => kernel_rfl) (by as_aux_lemma => kernel_rfl) (by as_aux_lemma => kernel_rfl) (by as_aux_lemma => kernel_rfl) (fun _ _ _ h => h) (by first | exact Or.inl ⟨by rfl, (by intro W hSW; (try dsimp only at hSW); (try go_split_ands); go_simp <;> with_reducible rfl)⟩ | exact Or.inr ⟨by rfl, rfl⟩) hS0 ?_
                try simp only [Act.put, List.getElem_toArray, List.getElem_cons_succ, List.getElem_cons_zero, List.setIfInBounds_toArray, List.set_cons_zero, List.set_cons_succ]
                refine wpAnyU_take (i := 21) [22, 23] rfl (by as_aux_lemma => kernel_rfl) (by as_aux_lemma => kernel_rfl) (by as_aux_lemma => kernel_rfl) (by as_aux_lemma => kernel_rfl) (by as_aux_lemma => kernel_rfl) (by as_aux_lemma => kernel_rfl) (fun _ _ _ h => h) (by first | exact Or.inl ⟨by rfl, (by intro W hSW; (try dsimp only at hSW); (try go_split_ands); go_simp <;> with_reducible rfl)⟩ | exact Or.inr ⟨by rfl, rfl⟩) hS0 ?_
                try simp only [Act.put, List.getElem_toArray, List.getElem_cons_succ, List.getElem_cons_zero, List.setIfInBounds_toArray, List.set_cons_zero, List.set_cons_succ]
                refine wpAnyU_one (i := 22) (by kernel_rfl) rfl (fun K hK => ?_)
                go_simp
                go_at_call 29
                (with_reducible refine HGO.out.mono ?_)
                rintro e w8 ⟨rfl, hb8⟩
                have hb8' : Below wr.heap.size wr w8 := (below_drewN (Below.refl _ _) 1).trans hb8
                have hS1 : w8.cell? ⟨x.p, 1, none⟩ = some (.slice (some ⟨qg, qo, none⟩) qn qc) ∧ w8.cell? ⟨qg, qo, none⟩ = some (.int .u64 a.1) ∧ w8.cell? ⟨qg, qo + 1, none⟩ = some (.int .i64 a.2) := by
                  obtain ⟨y1, y2, y3⟩ := hS0
                  exact ⟨by rw [World.cell?_of_block (hb8.block _ (World.block_lt_of_cell? _ _ y1))]; exact y1, by rw [World.cell?_of_block (hb8.block _ (World.block_lt_of_cell? _ _ y2))]; exact y2, by rw [World.cell?_of_block (hb8.block _ (World.block_lt_of_cell? _ _ y3))]; exact y3⟩
                have HB8 := Lib.hid hb8'
                clear hb8 hb8'
                refine hK.out _ _ (fun _ => hS1) (fun _ => ?_)
                clear hK K
                try simp only [Act.put, List.getElem_toArray, List.getElem_cons_succ, List.getElem_cons_zero, List.setIfInBounds_toArray, List.set_cons_zero, List.set_cons_succ]
                refine wpAnyU_take (i := 23) [] rfl (by as_aux_lemma => kernel_rfl) (by as_aux_lemma => kernel_rfl) (by as_aux_lemma => kernel_rfl) (by as_aux_lemma => kernel_rfl) (by as_aux_lemma => kernel_rfl) (by as_aux_lemma => kernel_rfl) (fun _ _ _ h => h) (Or.inl ⟨by rfl, (by intro W hSW; (try dsimp only at hSW); (try go_split_ands); go_simp <;> with_reducible rfl)⟩) hS1 ?_
                try simp only [Act.put, List.getElem_toArray, List.getElem_cons_succ, List.getElem_cons_zero, List.setIfInBounds_toArray, List.set_cons_zero, List.set_cons_succ]
                refine wpAnyU_done (by kernel_rfl) ?_ _
                clear hS0 hS1 HGO
                go_wp2
                go_meet
                refine ⟨gb, rfl, HM.out.1.below HB8.out, (fun h => ⟨a, rest, rfl, by rw [HGB.out]; exact h⟩), fun h => ?_⟩
                show popQ hs (a :: rest) = _
                rw [popQ, if_neg (by rw [HGB.out, h]; decide)]
            case rest =>
              obtain ⟨b, rfl, hm8, hb1, hb2⟩ := hcut
              clear HM hm hxc hp hq
              obtain ⟨w8, hw8⟩ : ∃ w8, wc = w8 := ⟨_, rfl⟩
              rw [hw8] at hm8 ⊢
              clear hw8
              cases b with
              | false =>
                have hstop := hb2 rfl
                have hpop := hm8.pop
                rw [hstop] at hpop
                simp only [List.append_nil] at hpop
                have hxc := freeT_get (s := s) (x := x) (q := .slice qa qn qc) (hs := hs) (cur := cur) (ws := ws) (nm := nm) HIL.out
                obtain ⟨hp8, hq8⟩ := hm8.tab.rep.pls i _ hxc
                have cq : w8.cell? ⟨x.p, 1, none⟩ = some (.slice qa qn qc) := cell_of_row w8 x.p 1 _ _ _ hp8.blk
                have ch : w8.cell? ⟨x.p, 0, none⟩ = some (.map (some x.H)) := cell_of_row w8 x.p 0 _ _ _ hp8.blk
                have c00 : w8.cell? ⟨t.T, 0, none⟩ = some (.map (some t.P)) := cell_of_row w8 t.T 0 _ _ _ hm8.tab.rep.tab.blk
                obtain ⟨hn9, hhn⟩ : ∃ hn9, hs.length = hn9 := ⟨_, rfl⟩
                have hlen9 : ∀ ty, (Builtin.len_ #[68] ty #[.map (some x.H)]).run Try.prog w8 = .ok (.int .i64 hn9) w8 := fun ty => by
                  have h9 := gmap_len (P := Try.prog) (ty := ty) Try.underlying68 hp8.hl
                  rw [show (hsV hs).length = hn9 by rw [← hhn]; simp [hsV]] at h9
                  exact h9
                have row8 := hm8.row
                have hrow9 : w8.ownsRow w.heap.size 29 1 (.slice oa on oc) (popQ (kdel x.hs o) x.qs).2.2.length (ov (popQ (kdel x.hs o) x.qs).2.2) := by rw [hpop]; exact row8
                by_cases hz : hn9 = 0 ∧ qn = 0
                · obtain ⟨rfl, rfl⟩ := hz
                  obtain rfl : hs = [] := List.eq_nil_of_length_eq_zero hhn
                  obtain rfl : cur = [] := List.eq_nil_of_length_eq_zero hqn
                  obtain ⟨w9, hr9, ht9, htab9⟩ := TabL.placeDel hm8.tab s
                  have hr9' : ∀ ty, (Builtin.delete_ #[62, 9] ty #[.map (some t.P), .string s]).run Try.prog w8 = .ok (.tuple #[]) w9 := hr9
                  have hst : FreeStK w W0 t i s x o w9 (.slice oa on oc) := by
                    refine ⟨.slice qa 0 qc, ws, nm, _, hm8.keep.turn ht9 (fun cs e => cells_ne_map hm8.tab.rep.tab.pl e rfl), rowKeep hrow9 ht9 (fun cs e => cells_ne_map hm8.tab.rep.tab.pl e rfl), htab9, by rw [hpop]; exact hm8.ws, fun u => by rw [hpop]; exact hm8.nm u, ?_⟩
                    rw [hpop]
                    rw [if_pos ⟨rfl, rfl⟩]
                  have HST := Lib.hid hst
                  clear hst hr9 ht9 htab9 hxc hp8 hq8 hrow9 row8 hpop hstop hm8 hb1 hb2 hhn hqn
                  go_wp2
                  go_roundw
                  case rel => exact .inr ⟨by go_num, HST.out⟩
                  case measure => simp [Go.RowKit.intOf]
                · have hst : FreeStK w W0 t i s x o w8 (.slice oa on oc) := by
                    refine ⟨.slice qa qn qc, ws, nm, _, hm8.keep, hrow9, hm8.tab, by rw [hpop]; exact hm8.ws, fun u => by rw [hpop]; exact hm8.nm u, ?_⟩
                    rw [hpop]
                    rw [if_neg (fun h => hz ⟨by rw [← hhn, show hs = [] from h.1]; rfl, by rw [← hqn, show cur = [] from h.2]; rfl⟩)]
                  have HST := Lib.hid hst
                  have hz9 : (decide (hn9 = 0) && decide (qn = 0)) = false := by simp; omega
                  clear hst hxc hp8 hq8 hrow9 row8 hpop hstop hm8 hb1 hb2 hhn hqn
                  by_cases hh0 : hn9 = 0
                  · subst hh0
                    have hq1 : ((qn : Int) == 0) = false := by simp; omega
                    have hq2 : ¬ qn = 0 := by omega
                    clear hz hz9
                    go_wp2
                    go_roundw
                    case rel => exact .inr ⟨by go_num, HST.out⟩
                    case measure => simp [Go.RowKit.intOf]
                  · have hq1 : ((hn9 : Int) == 0) = false := by simp; omega
                    clear hz hz9
                    go_wp2
                    go_roundw
                    case rel => exact .inr ⟨by go_num, HST.out⟩
                    case measure => simp [Go.RowKit.intOf]
              | true =>
                obtain ⟨a, rest, rfl, hg⟩ := hb1 rfl
                have hxc := freeT_get (s := s) (x := x) (q := .slice qa qn qc) (hs := hs) (cur := a :: rest) (ws := ws) (nm := nm) HIL.out
                obtain ⟨hp8, hq8⟩ := hm8.tab.rep.pls i _ hxc
                obtain ⟨qg, qo, qc2, e, ca, cb⟩ := hq8.at_ 0 (by simp)
                injection e with e1 e2 e3
                subst e1 e3
                simp only [Nat.zero_mul, Nat.add_zero, List.getElem_cons_zero] at ca cb
                have cq : w8.cell? ⟨x.p, 1, none⟩ = some (.slice (some ⟨qg, qo, none⟩) qn qc) := cell_of_row w8 x.p 1 _ _ _ hp8.blk
                obtain ⟨w9, hw9⟩ : ∃ w9, w8.alloc (.cells #[.int .u64 a.1, .int .i64 a.2] 77) = w9 := ⟨_, rfl⟩
                have hb9 : Below w8.heap.size w8 w9 := by rw [← hw9]; exact (Below.refl _ _).alloc (Nat.le_refl _) _
                have hm9 := hm8.below hb9
                have k9 : w9.heap[w8.heap.size]? = some (.cells #[.int .u64 a.1, .int .i64 a.2] 77 (0, 0)) := by rw [← hw9]; exact heap_alloc_new w8 _
                obtain ⟨hp9, hq9⟩ := hm9.tab.rep.pls i _ hxc
                obtain ⟨q2, c2, hsl, hq9', hqb⟩ := hq9.pop
                obtain ⟨ht10, htab10⟩ := hm9.tab.queueSet hxc hq9' hqb
                simp only at ht10 htab10
                have cq9 : w9.cell? ⟨x.p, 1, none⟩ = some (.slice (some ⟨qg, qo, none⟩) qn qc) := cell_of_row w9 x.p 1 _ _ _ hp9.blk
                have fq9 : w9.frozen? ⟨x.p, 1, none⟩ = false := by simp [World.frozen?, hp9.blk]
                obtain ⟨w10, hw10⟩ : ∃ w10, w9.setCell ⟨x.p, 1, none⟩ (.slice (some q2) rest.length c2) = w10 := ⟨_, rfl⟩
                rw [hw10] at ht10 htab10
                have k10 := ht10.cells k9 (cells_ty_ne k9 hp9.blk (by decide))
                have d0 : w10.cell? ⟨w8.heap.size, 0, none⟩ = some (.int .u64 a.1) := cell_of_row w10 _ 0 _ _ _ k10
                have d1 : w10.cell? ⟨w8.heap.size, 1, none⟩ = some (.int .i64 a.2) := cell_of_row w10 _ 1 _ _ _ k10
                have row10 : w10.ownsRow w.heap.size 29 1 (.slice oa on oc) pre.length (ov pre) := rowKeep hm9.row ht10 (fun cs e => by rw [hp9.blk] at e; injection e with e; injection e with _ e _; exact absurd e (by decide))
                have hx10 : ((freeT t i s x (.slice (some ⟨qg, qo, none⟩) qn qc) hs (a :: rest) ws nm).pl.set i (s, { x with q := .slice (some q2) rest.length c2, hs := hs, qs := rest }))[i]? = some (s, { x with q := .slice (some q2) rest.length c2, hs := hs, qs := rest }) := by
                  rw [List.getElem?_set]
                  simp [freeT, HIL.out]
                have hh := hold_fr htab10 hx10 a.1 a.2
                have HH := Lib.hid hh
                have u10 : Hid (KeepU w w10) := hm9.keep.turn ht10 (fun cs e => by rw [hp9.blk] at e; injection e with e; injection e with _ e _; exact absurd e (by decide))
                have H8 := Lib.hid (And.intro hm8 (And.intro hg (And.intro k10 row10)))
                have hqn0 : (0 : Int) < (qn : Int) := by have h9 : rest.length + 1 = qn := hqn; omega
                have hqn2 : 0 < qn := by omega
                clear hm8 hxc hp8 hq8 hb9 hm9 k9 hp9 hq9 hq9' hqb ht10 htab10 k10 row10 hx10 hh hg hb1 hb2 hqn e2
                go_wp2_with fail
                refine HH.out.mono ?_
                rintro e w11 ⟨rfl, nm', htab11, hnm11, hfr11⟩
                have htab : TabL W0 w11 (freeT t i s x (.slice (some q2) rest.length c2) (kset hs a.1 a.2) rest ws nm') := by
                  have h9 := htab11
                  simp only [held1, freeT, List.set_set] at h9
                  exact h9
                have k11 := hfr11 _ _ _ _ H8.out.2.2.1
                have row11 : w11.ownsRow w.heap.size 29 1 (.slice oa on oc) pre.length (ov pre) := rowU_keep H8.out.2.2.2 (fun k e => by
                  obtain ⟨cur9, hc9⟩ := rowU_blk H8.out.2.2.2 e
                  exact (hfr11 _ _ _ _ hc9).trans hc9.symm)
                have d0' : w11.cell? ⟨w8.heap.size, 0, none⟩ = some (.int .u64 a.1) := cell_of_row w11 _ 0 _ _ _ k11
                have hsz1011 : w.heap.size ≤ w11.heap.size := by
                  have h9 := (Array.getElem?_eq_some_iff.1 k11).1
                  have h8 := H8.out.1.keep.1
                  omega
                obtain ⟨w12, hr12, ht12, htab12⟩ := TabL.waitsDel (htab.below (below_drewN (Below.refl _ _) 1) : TabL W0 w11.drew _) a.1
                have hr12' : ∀ ty, (Builtin.delete_ #[63, 29] ty #[.map (some t.W), .int .u64 a.1]).run Try.prog w11.drew = .ok (.tuple #[]) w12 := hr12
                clear hr12
                have k12 : w12.heap[w8.heap.size]? = some (.cells #[.int .u64 a.1, .int .i64 a.2] 77 (0, 0)) := ht12.cells k11 (cells_ne_map htab.rep.tab.wt k11)
                have row12 : w12.ownsRow w.heap.size 29 1 (.slice oa on oc) pre.length (ov pre) := rowKeep (w := w11.drew) row11 ht12 (fun cs e => cells_ne_map (w := w11) htab.rep.tab.wt e rfl)
                have hS0 : w11.drew.cell? ⟨t.T, 1, none⟩ = some (.map (some t.W)) ∧ w11.drew.cell? ⟨w8.heap.size, 0, none⟩ = some (.int .u64 a.1) := ⟨cell_of_row w11.drew t.T 1 _ _ _ htab.rep.tab.blk, d0'⟩
                have hS1 : w12.cell? ⟨t.T, 1, none⟩ = some (.map (some t.W)) ∧ w12.cell? ⟨w8.heap.size, 0, none⟩ = some (.int .u64 a.1) := ⟨cell_of_row w12 t.T 1 _ _ _ htab12.rep.tab.blk, cell_of_row w12 _ 0 _ _ _ k12⟩
                have u11 : KeepU w w11 := ⟨hsz1011, fun k cs hk => hfr11 _ _ _ _ (u10.out.2 k cs hk)⟩
                have u12 : KeepU w w12 := KeepU.turn (wr := w11.drew) u11 ht12 (fun cs e => cells_ne_map (w := w11) htab.rep.tab.wt e rfl)
                have hpl : pre.length < 4398046511104 := by
                  have h8 := congrArg List.length H8.out.1.all
                  simp at h8
                  omega
                obtain ⟨R, cp, w13, hr13, hrow13, z1, z2, z3, z4, z5⟩ := push_o (ty := 36) a row12 u12.1 hpl
                rw [HON.out] at hr13
                have htab13 := htab12.rowTurn (rowU_mono row12 HW0.out) z1 z2 z3 z4 z5
                have hmid : FreeMidK w W0 t i s x o (pre ++ [a]) w13 (.slice (some ⟨R, 0, none⟩) (on + 1) cp) (.slice (some q2) rest.length c2) (kset hs a.1 a.2) rest (kdel ws a.1) nm' := by
                  refine ⟨htab13, ?_, ?_, ?_, fun u => ?_, ?_, ⟨Nat.le_trans u12.1 z1, fun k cs hk => (z5 k (Array.getElem?_eq_some_iff.1 (u12.2 k cs hk)).1 (fun e => by have h8 := (row12.lt k e).1; have h9 := (Array.getElem?_eq_some_iff.1 hk).1; omega)).trans (u12.2 k cs hk)⟩⟩
                  · rw [H8.out.1.pop, popQ, if_pos H8.out.2.1]
                    simp
                  · rw [← H8.out.1.all]; simp
                  · rw [wsPop_snoc, H8.out.1.ws]
                  · rw [nmPop_snoc]
                    have h9 := hnm11 u
                    have h8 := H8.out.1.nm u
                    have h7 := H8.out.1.nm a.1
                    unfold nmGet at h7 h8 ⊢
                    rw [h9]
                    show (if u = a.1 then _ else _) = (if u = a.1 then _ else _)
                    by_cases hu : u = a.1
                    · rw [if_pos hu, if_pos hu, ← h7]; rfl
                    · rw [if_neg hu, if_neg hu, ← h8]; rfl
                  · have h9 := hrow13
                    rw [HON.out] at h9
                    exact h9
                have hpn : (pre ++ [a]).length = on + 1 := by rw [← HON.out]; simp
                have HMID := Lib.hid (And.intro hmid hpn)
                have hlen : on < x.qs.length := by
                  have h8 := congrArg List.length H8.out.1.all
                  simp at h8
                  have h9 := HON.out
                  omega
                have HLEN := Lib.hid hlen
                have HR13 := Lib.hid hr13
                clear htab11 hnm11 hfr11 htab k11 row11 d0' htab12 k12 row12 ht12 hpl hr13 hrow13 z1 z2 z3 z4 z5 htab13 hmid hpn hlen u11 u12
                go_upto_region 26 with fail
                refine wp_region_U (fun W => W.cell? ⟨t.T, 1, none⟩ = some (.map (some t.W)) ∧ W.cell? ⟨w8.heap.size, 0, none⟩ = some (.int .u64 a.1)) [] (by kernel_rfl) ?_
                refine wpAnyU_take (i := 0) [1, 2, 3, 6] rfl (by as_aux_lemma => kernel_rfl) (by as_aux_lemma => kernel_rfl) (by as_aux_lemma => kernel_rfl) (by as_aux_lemma => kernel_rfl) (by as_aux_lemma => kernel_rfl) (by as_aux_lemma => kernel_rfl) (fun _ _ _ h => h) (Or.inl ⟨by rfl, (by intro W hSW; (try dsimp only at hSW); (try go_split_ands); go_simp <;> with_reducible rfl)⟩) hS0 ?_
                try simp only [Act.put, List.getElem_toArray, List.getElem_cons_succ, List.getElem_cons_zero, List.setIfInBounds_toArray, List.set_cons_zero, List.set_cons_succ]
                refine wpAnyU_take (i := 1) [2, 3, 6] rfl (by as_aux_lemma => kernel_rfl) (by as_aux_lemma => kernel_rfl) (by as_aux_lemma => kernel_rfl) (by as_aux_lemma => kernel_rfl) (by as_aux_lemma => kernel_rfl) (by as_aux_lemma => kernel_rfl) (fun _ _ _ h => h) (Or.inl ⟨by rfl, (by intro W hSW; (try dsimp only at hSW); (try go_split_ands); go_simp <;> with_reducible rfl)⟩) hS0 ?_
                try simp only [Act.put, List.getElem_toArray, List.getElem_cons_succ, List.getElem_cons_zero, List.setIfInBounds_toArray, List.set_cons_zero, List.set_cons_succ]
                refine wpAnyU_take (i := 2) [3, 6] rfl (by as_aux_lemma => kernel_rfl) (by as_aux_lemma => kernel_rfl) (by as_aux_lemma => kernel_rfl) (by as_aux_lemma => kernel_rfl) (by as_aux_lemma => kernel_rfl) (by as_aux_lemma => kernel_rfl) (fun _ _ _ h => h) (Or.inl ⟨by rfl, (by intro W hSW; (try dsimp only at hSW); (try go_split_ands); go_simp <;> with_reducible rfl)⟩) hS0 ?_
                try simp only [Act.put, List.getElem_toArray, List.getElem_cons_succ, List.getElem_cons_zero, List.setIfInBounds_toArray, List.set_cons_zero, List.set_cons_succ]
                refine wpAnyU_take (i := 3) [6] rfl (by as_aux_lemma => kernel_rfl) (by as_aux_lemma => kernel_rfl) (by as_aux_lemma => kernel_rfl) (by as_aux_lemma => kernel_rfl) (by as_aux_lemma => kernel_rfl) (by as_aux_lemma => kernel_rfl) (fun _ _ _ h => h) (Or.inl ⟨by rfl, (by intro W hSW; (try dsimp only at hSW); (try go_split_ands); go_simp <;> with_reducible rfl)⟩) hS0 ?_
                try simp only [Act.put, List.getElem_toArray, List.getElem_cons_succ, List.getElem_cons_zero, List.setIfInBounds_toArray, List.set_cons_zero, List.set_cons_succ]
                refine wpAnyU_take (i := 4) [5, 6] rfl (by as_aux_lemma => kernel_rfl) (by as_aux_lemma => kernel_rfl) (by as_aux_lemma => kernel_rfl) (by as_aux_lemma => kernel_rfl) (by as_aux_lemma => kernel_rfl) (by as_aux_lemma => kernel_rfl) (fun _ _ _ h => h) (Or.inl ⟨by rfl, (by intro W hSW; (try dsimp only at hSW); (try go_split_ands); go_simp <;> with_reducible rfl)⟩) hS0 ?_
                try simp only [Act.put, List.getElem_toArray, List.getElem_cons_succ, List.getElem_cons_zero, List.setIfInBounds_toArray, List.set_cons_zero, List.set_cons_succ]
                refine wpAnyU_take (i := 5) [6] rfl (by as_aux_lemma => kernel_rfl) (by as_aux_lemma => kernel_rfl) (by as_aux_lemma => kernel_rfl) (by as_aux_lemma => kernel_rfl) (by as_aux_lemma => kernel_rfl) (by as_aux_lemma => kernel_rfl) (fun _ _ _ h => h) (Or.inl ⟨by rfl, (by intro W hSW; (try dsimp only at hSW); (try go_split_ands); go_simp <;> with_reducible rfl)⟩) hS0 ?_
                try simp only [Act.put, List.getElem_toArray, List.getElem_cons_succ, List.getElem_cons_zero, List.setIfInBounds_toArray, List.set_cons_zero, List.set_cons_succ]
                refine wpAnyU_one (i := 6) (by kernel_rfl) rfl (fun K hK => ?_)
                go_simp
                refine hK.out _ _ (fun _ => hS1) (fun _ => ?_)
                clear hK K
                try simp only [Act.put, List.getElem_toArray, List.getElem_cons_succ, List.getElem_cons_zero, List.setIfInBounds_toArray, List.set_cons_zero, List.set_cons_succ]
                refine wpAnyU_done (by kernel_rfl) ?_ _
                obtain ⟨d2, d3⟩ := hS1
                clear hS0 hr12'
                go_wp2_with (at_builtin; refine wpList_append_eq rfl rfl HR13.out rfl rfl ?_; clear HR13)
                go_roundw
                case rel => exact ⟨some ⟨R, 0, none⟩, on + 1, cp, rfl, pre ++ [a], _, _, rest, _, nm', HMID.out.2, HMID.out.1⟩
                case measure => have := HLEN.out; simp [slen]; omega
        · obtain ⟨q, ws, nm, t', hku, hrow, htab, hws, hnm, ht'⟩ := hfin
          obtain ⟨oa, oc, rfl, -⟩ := (RdV.of_own (F := NoF) hrow (fun _ _ => noF _)).form
          obtain ⟨pn, hpn⟩ : ∃ pn, (popQ (kdel x.hs o) x.qs).2.2.length = pn := ⟨_, rfl⟩
          have hpn2 : pn ≤ 4398046511104 := by rw [← hpn]; exact Nat.le_trans (popQ_len _ _) hql
          have hrow2 := hrow
          rw [hpn] at hrow2 ⊢
          rw [← hpn] at hrow2
          obtain ⟨wm, v', w', hmk, hap, hown, hbl⟩ := copy_out (n := pn) (by have h9 := hrow; rw [hpn] at h9 ⊢; exact h9) hpn hpn2 hku.1
          have hst : FreeStK w W0 t i s x o w' v' := ⟨q, ws, nm, t', hku.below hbl, hown, htab.below hbl, hws, hnm, ht'⟩
          have HST := Lib.hid hst
          have HAP := Lib.hid hap
          have hpb : (pn : Int) ≤ 4398046511104 := by omega
          clear hrow hrow2 htab hws hnm ht' hown hbl hst hap hpn
          go_wp2_with (at_builtin; refine wpList_append_eq rfl rfl HAP.out rfl rfl ?_; clear HAP)
          go_ret
          exact ⟨v', rfl, HST.out⟩
end Mun
