/- Texts of mine, one behind the other: LockX, TbH, TbD, TbI, LockO, LockHf, LockPp, LockMk, FairN. -/
import Derived.Test.YtbdkhegfmnladaaMgE
import Derived.Test.YtbdkhegfmnladaaMgF
import Derived.Test.YtbdkhegfmnladaaMgD
import Derived.Test.YtbdkhegfmnladaaMgA
section
/- Free over a whole table: what each of its steps does. -/
set_option maxRecDepth 100000
set_option linter.unusedVariables false
set_option linter.unusedSimpArgs false
namespace Mun
open Go Go.RowKit
open Go.Proofs

/-- one block has turned -/
def Turn1 (w w' : World) (B : Nat) : Prop := w'.heap.size = w.heap.size ∧ w'.os = w.os ∧ w'.tape = w.tape ∧ w'.output = w.output ∧ ∀ k, k ≠ B → w'.heap[k]? = w.heap[k]?
theorem turn1_obj (w : World) (B : Nat) (o : Obj) : Turn1 w (setObjW w B o) B := ⟨setObjW_size _ _ _, rfl, rfl, rfl, fun k hk => setObjW_other _ _ _ _ hk⟩
theorem Turn1.cells {w w' : World} {B b : Nat} {cs : Array Value} {ty : TypeId} {fr : Nat × Nat} (h : Turn1 w w' B) (hb : w.heap[b]? = some (.cells cs ty fr)) (hne : b ≠ B) : w'.heap[b]? = some (.cells cs ty fr) := (h.2.2.2.2 b hne).trans hb

theorem TabL.turn {W0 w w' : World} {t t' : TV} {B : Nat} (h : TabL W0 w t) (hB : W0.heap.size ≤ B) (ht : Turn1 w w' B) (hr : TabR w' t') (hlo : W0.heap.size ≤ t'.T ∧ W0.heap.size ≤ t'.P ∧ W0.heap.size ≤ t'.W ∧ W0.heap.size ≤ t'.N)
    (hp : ∀ (i : Nat) (x : ByteArray × PV), t'.pl[i]? = some x → W0.heap.size ≤ x.2.p ∧ W0.heap.size ≤ x.2.H ∧ ∀ g, qblk x.2.q = some g → W0.heap.size ≤ g)
    (hn : ∀ (i : Nat) (y : Int × (Nat × List ByteArray)), t'.nm[i]? = some y → W0.heap.size ≤ y.2.1) : TabL W0 w' t' := by
  obtain ⟨h1, h2, h3, h4, h5⟩ := ht
  exact ⟨hr, ⟨h2.trans h.bl.os, h3.trans h.bl.tape, h4.trans h.bl.output, by rw [h1]; exact h.bl.size, fun k hk => by rw [h5 k (by omega), h.bl.block k hk]⟩, hlo, hp, hn⟩

theorem del_ty (a : Array TypeId) (ty ty' : TypeId) (b : Array Value) : Builtin.delete_ a ty b = Builtin.delete_ a ty' b := rfl

/-- an owner's names are taken out -/
theorem TabL.nameDel {W0 w : World} {t : TV} (h : TabL W0 w t) (o : Int) :
    ∃ w', (∀ ty, (Builtin.delete_ #[64, 29] ty #[.map (some t.N), .int .u64 o]).run Try.prog w = .ok (.tuple #[]) w') ∧ Turn1 w w' t.N ∧ TabL W0 w' { t with nm := kdel t.nm o } := by
  obtain ⟨ob, hrun, hg⟩ := gmap_delete (P := Try.prog) (ty := 0) Try.underlying64 Try.underlying29 h.rep.tab.nm o 29
  have ht := turn1_obj w t.N ob
  obtain ⟨f, -, hx⟩ := kdel_idx t.nm o
  exact ⟨_, fun ty => hrun, ht, h.turn h.lo.2.2.2 ht (h.rep.nameDel o hg (fun k _ hk => ht.2.2.2.2 k hk)) h.lo h.loP (fun i y hy => h.loN _ y (hx i y hy))⟩

/-- an owner's wait is taken out -/
theorem TabL.waitsDel {W0 w : World} {t : TV} (h : TabL W0 w t) (o : Int) :
    ∃ w', (∀ ty, (Builtin.delete_ #[63, 29] ty #[.map (some t.W), .int .u64 o]).run Try.prog w = .ok (.tuple #[]) w') ∧ Turn1 w w' t.W ∧ TabL W0 w' { t with ws := kdel t.ws o } := by
  obtain ⟨ob, hrun, hg⟩ := gmap_delete (P := Try.prog) (ty := 0) Try.underlying63 Try.underlying29 h.rep.tab.wt o 29
  have ht := turn1_obj w t.W ob
  have hws : wsV (kdel t.ws o) = gdel (wsV t.ws) o := (gdel_map (fun a : Int × (ByteArray × Int) => (a.1, Value.agg #[.string a.2.1, .int .i64 a.2.2])) (fun _ => rfl) t.ws o).symm
  exact ⟨_, fun ty => hrun, ht, h.turn h.lo.2.2.1 ht (h.rep.waits (ws := kdel t.ws o) (by rw [hws]; exact hg) (fun k _ hk => ht.2.2.2.2 k hk)) h.lo h.loP h.loN⟩

/-- a holder is taken out of a place -/
theorem TabL.heldDel {W0 w : World} {t : TV} (h : TabL W0 w t) {i : Nat} {s : ByteArray} {x : PV} (hx : t.pl[i]? = some (s, x)) (o : Int) :
    ∃ w', (∀ ty, (Builtin.delete_ #[68, 29] ty #[.map (some x.H), .int .u64 o]).run Try.prog w = .ok (.tuple #[]) w') ∧ Turn1 w w' x.H ∧ TabL W0 w' { t with pl := t.pl.set i (s, { x with hs := kdel x.hs o }) } := by
  obtain ⟨hp, hQ⟩ := h.rep.pls i _ hx
  obtain ⟨l1, l2, l3⟩ := h.loP i _ hx
  obtain ⟨ob, hrun, hg⟩ := gmap_delete (P := Try.prog) (ty := 0) Try.underlying68 Try.underlying29 hp.hl o 29
  have ht := turn1_obj w x.H ob
  have hhs : hsV (kdel x.hs o) = gdel (hsV x.hs) o := (gdel_map (fun a : Int × Int => (a.1, Value.int .i64 a.2)) (fun _ => rfl) x.hs o).symm
  refine ⟨_, fun ty => hrun, ht, h.turn l2 ht (h.rep.held hx (hs := kdel x.hs o) (by rw [hhs]; exact hg) (fun k _ hk => ht.2.2.2.2 k hk)) h.lo (fun k y hy => ?_) h.loN⟩
  rcases set_cases hy with ⟨rfl, rfl, -⟩ | ⟨-, h9⟩
  · exact ⟨l1, l2, l3⟩
  · exact h.loP k y h9

/-- a place is taken out -/
theorem TabL.placeDel {W0 w : World} {t : TV} (h : TabL W0 w t) (s : ByteArray) :
    ∃ w', (∀ ty, (Builtin.delete_ #[62, 9] ty #[.map (some t.P), .string s]).run Try.prog w = .ok (.tuple #[]) w') ∧ Turn1 w w' t.P ∧ TabL W0 w' { t with pl := kdel t.pl s } := by
  obtain ⟨ob, hrun, hg⟩ := gmap_delete (P := Try.prog) (ty := 0) Try.underlying62 Try.underlying9 h.rep.tab.pl s 9
  have ht := turn1_obj w t.P ob
  obtain ⟨f, -, hx⟩ := kdel_idx t.pl s
  exact ⟨_, fun ty => hrun, ht, h.turn h.lo.2.1 ht (h.rep.placeDel s hg (fun k _ hk => ht.2.2.2.2 k hk)) h.lo (fun i y hy => h.loP _ y (hx i y hy)) h.loN⟩

/-- a place's queue is laid anew, in the block that it had -/
theorem TabL.queueSet {W0 w : World} {t : TV} (h : TabL W0 w t) {i : Nat} {s : ByteArray} {x : PV} (hx : t.pl[i]? = some (s, x)) {q : Value} {qs : List (Int × Int)} (hq : QAt w q qs) (hqb : ∀ g, qblk q = some g → qblk x.q = some g) :
    Turn1 w (w.setCell ⟨x.p, 1, none⟩ q) x.p ∧ TabL W0 (w.setCell ⟨x.p, 1, none⟩ q) { t with pl := t.pl.set i (s, { x with q := q, qs := qs }) } := by
  obtain ⟨hp, hQ⟩ := h.rep.pls i _ hx
  obtain ⟨l1, l2, l3⟩ := h.loP i _ hx
  have ht : Turn1 w (w.setCell ⟨x.p, 1, none⟩ q) x.p := ⟨setCell_sizeL _ _ _, by unfold World.setCell; split <;> rfl, by unfold World.setCell; split <;> rfl, by unfold World.setCell; split <;> rfl, fun k hk => setCell_heapL _ _ _ _ hk⟩
  refine ⟨ht, h.turn l1 ht (h.rep.queue hx (setCell_blkL hp.blk _) (hq.keep (fun g hg => ht.2.2.2.2 g (fun e => ?_))) (fun g hg => .inl (hqb g hg)) (fun k _ hk _ => ht.2.2.2.2 k hk)) h.lo (fun k y hy => ?_) h.loN⟩
  · obtain ⟨cur, hc⟩ := hq.blk hg
    exact cells_ty_ne hc hp.blk (by decide) e
  · rcases set_cases hy with ⟨rfl, rfl, -⟩ | ⟨-, h9⟩
    · exact ⟨l1, l2, fun g hg => l3 g (hqb g hg)⟩
    · exact h.loP k y h9
end Mun
end

section
/- Ask of a holder that must wait, over a whole table, and what stays beside it. Printed by tools/genwait.py out of LockYk's text. -/
set_option maxRecDepth 100000
set_option linter.unusedVariables false
set_option linter.unusedSimpArgs false
namespace Mun
open Go Go.RowKit
open Go.Proofs

set_option maxHeartbeats 4000000 in
theorem ask_hold_s {W0 : Bnd} {w : World} {t : TV} (h : TabS W0 w t) {i : Nat} {s : ByteArray} {x : PV} (hx : t.pl[i]? = some (s, x)) (hpa : klook t.pl s = some x) (o m : Int) (ho : o ≠ 0) (him : isM m = true) (hw : klook t.ws o = none) (m0 mj : Int) (hh : klook x.hs o = some m0) (hmj : jn m0 m = mj) (hj : mj ≠ m0) (hg : goesP (hsV x.hs) o mj = false) (hqx : x.qs.length ≤ 8796093022200) :
    Calls Try.prog 17 #[.pointer (some ⟨t.T, 0, none⟩), .int .u64 o, .string s, .int .i64 m] w fun e w' => e = .returned (.int .i64 10) ∧ ∃ q', TabS W0 w' { t with pl := t.pl.set i (s, { x with q := q', qs := qins x.qs (x.qs.findIdx (fun a => isFree x.hs a.1)) (o, mj) }), ws := kset t.ws o (s, mj) } := by
  have hpa2 : glook (plV t.pl) s = some (.pointer (some ⟨x.p, 0, none⟩)) := by
    have h9 := glook_map (fun y : PV => Value.pointer (some ⟨y.p, 0, none⟩)) t.pl s
    rw [hpa] at h9
    exact h9
  have hw2 : glook (wsV t.ws) o = none := by
    have h9 := glook_map (fun y : ByteArray × Int => Value.agg #[.string y.1, .int .i64 y.2]) t.ws o
    rw [hw] at h9
    exact h9
  have hhl : glook (hsV x.hs) o = (klook x.hs o).map (fun k : Int => Value.int .i64 k) := glook_map (fun k : Int => Value.int .i64 k) x.hs o
  have hm : ModesAt (hsV x.hs) := fun q hq => by obtain ⟨y, -, rfl⟩ := List.mem_map.1 hq; exact ⟨y.2, rfl⟩
  have ht := h.rep.tab
  have hpl := h.rep.pls i _ hx
  have HL := Lib.hid (And.intro h hx)
  obtain ⟨T, P, W, N, pl, ws0, nm⟩ := t
  obtain ⟨p, H, q, hs0, qs⟩ := x
  simp only at ht hpl hpa2 hw2 hhl hm ⊢
  obtain ⟨hp, hq⟩ := hpl
  obtain ⟨ps, hps⟩ : ∃ ps, plV pl = ps := ⟨_, rfl⟩
  obtain ⟨ws, hws⟩ : ∃ ws, wsV ws0 = ws := ⟨_, rfl⟩
  obtain ⟨ns, hns⟩ : ∃ ns, nmV nm = ns := ⟨_, rfl⟩
  obtain ⟨hs, hhs⟩ : ∃ hs, hsV hs0 = hs := ⟨_, rfl⟩
  rw [hps, hws, hns] at ht
  rw [hps] at hpa2
  rw [hws] at hw2
  rw [hhs] at hhl hm hp
  have hh2 : glook hs o = some (.int .i64 m0) := by rw [hhl, show klook hs0 o = some m0 from hh]; rfl
  rw [show hsV (PV.hs ⟨p, H, q, hs0, qs⟩) = hs from hhs] at hg
  obtain ⟨qa, qn, qc, rfl, hqn⟩ : ∃ qa qn qc, q = .slice qa qn qc ∧ qs.length = qn := by
    rcases hq with ⟨e, e2⟩ | ⟨g, off, c, cur, e, -⟩
    · exact ⟨none, 0, 0, e, by rw [e2]; rfl⟩
    · exact ⟨some ⟨g, off, none⟩, _, c, e, rfl⟩
  have hql : qs.length ≤ 8796093022200 := hqx
  have hqi : (0 : Int) ≤ (qn : Int) := by omega
  clear hqx
  have hims := isMode_any w m
  rw [him] at hims
  have hob : (o == 0) = false := by simpa using ho
  have c1 : w.cell? ⟨T, 1, none⟩ = some (.map (some W)) := cell_of_row w T 1 _ _ _ ht.blk
  have hl1 := gmap_lookup (P := Try.prog) Try.underlying63 Try.underlying29 (z33 w) ht.wt o
  rw [hw2] at hl1
  change (Instr.lookup 63 (.map (some W)) (.int .u64 o) true).run Try.prog w = .ok (.tuple #[.agg #[.string ⟨#[]⟩, .int .i64 0], .bool false]) w at hl1
  obtain ⟨wA, hwA⟩ : ∃ wA, w.alloc (.cells #[.string ⟨#[]⟩, .int .i64 0] 33) = wA := ⟨_, rfl⟩
  have kA : ∀ k, k < w.heap.size → wA.heap[k]? = w.heap[k]? := fun k hk => by rw [← hwA, heap_alloc_old _ _ hk]
  have sA : wA.heap.size = w.heap.size + 1 := by rw [← hwA, World.size_alloc]
  have htA := ht.keep kA
  have hpA := hp.keep kA
  have c2 : wA.cell? ⟨T, 0, none⟩ = some (.map (some P)) := cell_of_row wA T 0 _ _ _ htA.blk
  have hl2 := gmap_lookup1 (P := Try.prog) Try.underlying62 Try.underlying9 (z67 wA) htA.pl s
  rw [hpa2] at hl2
  change (Instr.lookup 62 (.map (some P)) (.string s) false).run Try.prog wA = .ok (.pointer (some ⟨p, 0, none⟩)) wA at hl2
  obtain ⟨wB, hwB⟩ : ∃ wB, wA.alloc (.cells #[.pointer (some ⟨p, 0, none⟩)] 67) = wB := ⟨_, rfl⟩
  have kB : ∀ k, k < wA.heap.size → wB.heap[k]? = wA.heap[k]? := fun k hk => by rw [← hwB, heap_alloc_old _ _ hk]
  have sB : wB.heap.size = w.heap.size + 2 := by rw [← hwB, World.size_alloc, sA]
  have htB := htA.keep kB
  have hpB := hpA.keep kB
  have nB : wB.heap[w.heap.size + 1]? = some (.cells #[.pointer (some ⟨p, 0, none⟩)] 67 (0, 0)) := by rw [← hwB, ← sA]; exact heap_alloc_new wA _
  have c3 : wB.cell? ⟨w.heap.size + 1, 0, none⟩ = some (.pointer (some ⟨p, 0, none⟩)) := cell_of_row wB _ 0 _ _ _ nB
  have c4 : wB.cell? ⟨p, 0, none⟩ = some (.map (some H)) := cell_of_row wB p 0 _ _ _ hpB.blk
  have c5 : wB.cell? ⟨p, 1, none⟩ = some (.slice qa qn qc) := cell_of_row wB p 1 _ _ _ hpB.blk
  have hl3 := gmap_lookup (P := Try.prog) Try.underlying68 Try.underlying29 (z3 wB) hpB.hl o
  rw [hh2] at hl3
  change (Instr.lookup 68 (.map (some H)) (.int .u64 o) true).run Try.prog wB = .ok (.tuple #[.int .i64 m0, .bool true]) wB at hl3
  have hjn := join_any wB m0 m
  have hgo := goes_any wB p H _ hs o mj hpB hm
  rw [hg] at hgo
  rw [hmj] at hjn
  have hjb : (mj == m0) = false := by simpa using hj
  have HG := Lib.hid hgo
  have HJ := Lib.hid hjn
  have HN := Lib.hid nB
  have HPB := Lib.hid hpB
  have HQB := Lib.hid (hq.keep (w' := wB) (fun g hg2 => by obtain ⟨cur, hc⟩ := hq.blk hg2; have h9 := (Array.getElem?_eq_some_iff.1 hc).1; exact (kB g (by omega)).trans (kA g h9)))
  have HQN : Hid (qs.length = qn ∧ qs.length ≤ 8796093022200) := ⟨hqn, hql⟩
  have HBB : Hid (Below w.heap.size w wB) := by
    show Below _ _ _
    rw [← hwB, ← hwA]
    exact below_more (below_more (Below.refl _ _) _) _
  clear hgo hjn hmj hqn hql hq ht hp htA hpA htB hpB kA kB sA sB nB h hx
  subst hwB
  subst hwA
  go_enter Try.func17, Try.ntmps17
  go_wp2_with fail
  refine hims.mono ?_
  rintro e w' ⟨rfl, rfl⟩
  go_wp2_with fail
  refine HJ.out.mono ?_
  rintro e wj ⟨rfl, rfl⟩
  go_wp2_with fail
  refine HG.out.mono ?_
  rintro e w1 ⟨rfl, hb1⟩
  have k1 : ∀ k, k < _ → w1.heap[k]? = _ := fun k hk => hb1.block k hk
  have nB1 : w1.heap[w'.heap.size + 1]? = _ := (k1 _ (Array.getElem?_eq_some_iff.1 HN.out).1).trans HN.out
  have hp1 := HPB.out.keep k1
  have hq1 := HQB.out.keep (w' := w1) (fun g hg2 => by obtain ⟨cur, hc⟩ := HQB.out.blk hg2; exact k1 g (Array.getElem?_eq_some_iff.1 hc).1)
  have d6 : w1.cell? ⟨w'.heap.size + 1, 0, none⟩ = some (.pointer (some ⟨p, 0, none⟩)) := cell_of_row w1 _ 0 _ _ _ nB1
  have d7 : w1.cell? ⟨p, 1, none⟩ = some (.slice qa qn qc) := cell_of_row w1 p 1 _ _ _ hp1.blk
  have hix := indexFunc_held hq1 HQN.out.2 (w'.heap.size + 1) (isFree hs0) (fun W u m hb => isHeld W _ p H _ hs0 u m ((World.cell?_of_block (hb.block _ (lt_of_block nB1))).trans d6) (by have h9 := hp1.keep hb.block; rw [← hhs] at h9; exact h9))
  have HIX := Lib.hid hix
  have HB1 := Lib.hid hb1
  clear hix hp1 hq1 nB1 k1 hb1
  go_wp2_with fail
  refine HIX.out.mono ?_
  rintro e w2 ⟨rfl, hb12⟩
  have hb2 := HB1.out.trans (hb12.mono HB1.out.size)
  clear HIX hb12 d6 d7
  have k2 : ∀ k, k < _ → w2.heap[k]? = _ := fun k hk => hb2.block k hk
  have nB2 : w2.heap[w'.heap.size + 1]? = _ := (k2 _ (Array.getElem?_eq_some_iff.1 HN.out).1).trans HN.out
  have hp2 := HPB.out.keep k2
  have hq2' := HQB.out.keep (w' := w2) (fun g hg2 => by obtain ⟨cur, hc⟩ := HQB.out.blk hg2; exact k2 g (Array.getElem?_eq_some_iff.1 hc).1)
  have c6 : w2.cell? ⟨w'.heap.size + 1, 0, none⟩ = some (.pointer (some ⟨p, 0, none⟩)) := cell_of_row w2 _ 0 _ _ _ nB2
  have c7 : w2.cell? ⟨p, 1, none⟩ = some (.slice qa qn qc) := cell_of_row w2 p 1 _ _ _ hp2.blk
  have HP2 := Lib.hid hp2
  have HQ2 := Lib.hid hq2'
  have HN2 := Lib.hid nB2
  have HTL := Lib.hid ((HL.out.1.below HBB.out).below hb2)
  clear hp2 hq2' nB2 k2 hb2
  obtain ⟨jn, hjn⟩ : ∃ jn : Nat, qs.findIdx (fun a => isFree hs0 a.1) = jn := ⟨_, rfl⟩
  have hjl : jn ≤ qs.length := by rw [← hjn]; exact List.findIdx_le_length
  have hix2 : idxI qs (isFree hs0) = if jn < qn then (jn : Int) else -1 := by unfold idxI; rw [hjn, HQN.out.1]
  rw [hix2]
  have HJN := Lib.hid hjn
  clear hjn hix2
  have hq2 : QAt w2.drew (.slice qa qn qc) qs := HQ2.out
  have hin : Calls Try.prog 33 #[.slice qa qn qc, .int .i64 jn, .slice (some ⟨w2.heap.size, 0, none⟩) 1 1] ((w2.alloc (.cells #[.int .u64 o, .int .i64 mj] 77)).drew) (QPostJ w2.drew (.slice qa qn qc) qs jn o mj) := by
    exact insert_any hq2 HQN.out.2 jn hjl o mj
  unfold QPostJ at hin
  have HIN := Lib.hid hin
  have hlt6 : w'.heap.size + 1 < w2.heap.size := (Array.getElem?_eq_some_iff.1 HN2.out).1
  have hlt7 : p < w2.heap.size := (Array.getElem?_eq_some_iff.1 HP2.out.blk).1
  have hnq : ∀ g, qblk (.slice qa qn qc) = some g → w'.heap.size + 1 ≠ g ∧ p ≠ g := fun g hg => by
    obtain ⟨cur, hc⟩ := HQ2.out.blk hg
    exact ⟨cells_ty_ne HN2.out hc (by decide), cells_ty_ne HP2.out.blk hc (by decide)⟩
  have HS : Hid (∀ W : World, (∀ k, k < w2.heap.size → (∀ g, qblk (.slice qa qn qc) = some g → k ≠ g) → W.heap[k]? = w2.heap[k]?) → W.cell? ⟨w'.heap.size + 1, 0, none⟩ = some (.pointer (some ⟨p, 0, none⟩)) ∧ W.cell? ⟨p, 1, none⟩ = some (.slice qa qn qc)) := by
    show ∀ _, _
    intro W hk
    exact ⟨cell_of_row W _ 0 _ _ _ ((hk _ hlt6 (fun g hg => (hnq g hg).1)).trans HN2.out), cell_of_row W p 1 _ _ _ ((hk _ hlt7 (fun g hg => (hnq g hg).2)).trans HP2.out.blk)⟩
  have HFZ : Hid (∀ W : World, (∀ k, k < w2.heap.size → (∀ g, qblk (.slice qa qn qc) = some g → k ≠ g) → W.heap[k]? = w2.heap[k]?) → W.frozen? ⟨p, 1, none⟩ = false) := by
    show ∀ _, _
    intro W hk
    have h9 := (hk _ hlt7 (fun g hg => (hnq g hg).2)).trans HP2.out.blk
    simp [World.frozen?, h9]
  have hS0 : w2.drew.cell? ⟨w'.heap.size + 1, 0, none⟩ = some (.pointer (some ⟨p, 0, none⟩)) ∧ w2.drew.cell? ⟨p, 1, none⟩ = some (.slice qa qn qc) := HS.out w2.drew (fun _ _ _ => rfl)
  have hSa : (w2.alloc (.cells #[.int .u64 o, .int .i64 mj] 77)).drew.cell? ⟨w'.heap.size + 1, 0, none⟩ = some (.pointer (some ⟨p, 0, none⟩)) ∧ (w2.alloc (.cells #[.int .u64 o, .int .i64 mj] 77)).drew.cell? ⟨p, 1, none⟩ = some (.slice qa qn qc) := HS.out _ (fun k hk _ => heap_alloc_old w2 _ hk)
  clear hin hlt6 hlt7 hnq hq2
  rcases Nat.lt_or_ge jn qn with hjq | hjq
  all_goals (first | rw [if_pos hjq] | rw [if_neg (by omega)])
  · have hjq0 : ¬ ((jn : Int) < 0) := by omega
    clear hjq
    go_upto_region 23 with (fail)
    refine wp_region_U (fun W => W.cell? ⟨w'.heap.size + 1, 0, none⟩ = some (.pointer (some ⟨p, 0, none⟩)) ∧ W.cell? ⟨p, 1, none⟩ = some (.slice qa qn qc)) [13] (by kernel_rfl) ?_
    refine wpAnyU_take (i := 0) [11, 12, 13] rfl (by kernel_rfl) (by kernel_rfl) (by kernel_rfl) (by kernel_rfl) (by kernel_rfl) (by kernel_rfl) (fun _ _ _ h => h) (Or.inl ⟨by rfl, (by intro W hSW; (try dsimp only at hSW); (try go_split_ands); go_simp <;> with_reducible rfl)⟩) hS0 ?_
    try simp only [Act.put, List.setIfInBounds_toArray, List.set_cons_zero, List.set_cons_succ]
    refine wpAnyU_take (i := 1) [2, 3, 4, 10, 11, 12, 13] rfl (by kernel_rfl) (by kernel_rfl) (by kernel_rfl) (by kernel_rfl) (by kernel_rfl) (by kernel_rfl) (fun _ _ _ h => h) (Or.inl ⟨by rfl, (by intro W hSW; (try dsimp only at hSW); (try go_split_ands); go_simp <;> with_reducible rfl)⟩) hS0 ?_
    try simp only [Act.put, List.setIfInBounds_toArray, List.set_cons_zero, List.set_cons_succ]
    refine wpAnyU_take (i := 2) [3, 4, 10, 11, 12, 13] rfl (by kernel_rfl) (by kernel_rfl) (by kernel_rfl) (by kernel_rfl) (by kernel_rfl) (by kernel_rfl) (fun _ _ _ h => h) (Or.inl ⟨by rfl, (by intro W hSW; (try dsimp only at hSW); (try go_split_ands); go_simp <;> with_reducible rfl)⟩) hS0 ?_
    try simp only [Act.put, List.setIfInBounds_toArray, List.set_cons_zero, List.set_cons_succ]
    refine wpAnyU_take (i := 3) [4, 10, 11, 12, 13] rfl (by kernel_rfl) (by kernel_rfl) (by kernel_rfl) (by kernel_rfl) (by kernel_rfl) (by kernel_rfl) (fun _ _ _ h => h) (Or.inl ⟨by rfl, (by intro W hSW; (try dsimp only at hSW); (try go_split_ands); go_simp <;> with_reducible rfl)⟩) hS0 ?_
    try simp only [Act.put, List.setIfInBounds_toArray, List.set_cons_zero, List.set_cons_succ]
    refine wpAnyU_take (i := 4) [10, 11, 12, 13] rfl (by kernel_rfl) (by kernel_rfl) (by kernel_rfl) (by kernel_rfl) (by kernel_rfl) (by kernel_rfl) (fun _ _ _ h => h) (Or.inl ⟨by rfl, (by intro W hSW; (try dsimp only at hSW); (try go_split_ands); go_simp <;> with_reducible rfl)⟩) hS0 ?_
    try simp only [Act.put, List.setIfInBounds_toArray, List.set_cons_zero, List.set_cons_succ]
    refine wpAnyU_take (i := 5) [10, 11, 12, 13] rfl (by kernel_rfl) (by kernel_rfl) (by kernel_rfl) (by kernel_rfl) (by kernel_rfl) (by kernel_rfl) (fun _ _ _ h => h) (Or.inl ⟨by rfl, (by intro W hSW; (try dsimp only at hSW); (try go_split_ands); go_simp <;> with_reducible rfl)⟩) hS0 ?_
    try simp only [Act.put, List.setIfInBounds_toArray, List.set_cons_zero, List.set_cons_succ]
    refine wpAnyU_take (i := 6) [8, 9, 10, 11, 12, 13] rfl (by kernel_rfl) (by kernel_rfl) (by kernel_rfl) (by kernel_rfl) (by kernel_rfl) (by kernel_rfl) (fun _ _ _ h => h) (Or.inl ⟨by rfl, (by intro W hSW; (try dsimp only at hSW); (try go_split_ands); go_simp <;> with_reducible rfl)⟩) hS0 ?_
    try simp only [Act.put, List.setIfInBounds_toArray, List.set_cons_zero, List.set_cons_succ]
    refine wpAnyU_take (i := 7) [8, 9, 10, 11, 12, 13] rfl (by kernel_rfl) (by kernel_rfl) (by kernel_rfl) (by kernel_rfl) (by kernel_rfl) (by kernel_rfl) (fun _ _ _ h => h) (Or.inl ⟨by rfl, (by intro W hSW; (try dsimp only at hSW); (try go_split_ands); go_simp <;> with_reducible rfl)⟩) hS0 ?_
    try simp only [Act.put, List.setIfInBounds_toArray, List.set_cons_zero, List.set_cons_succ]
    refine wpAnyU_take (i := 8) [9, 10, 11, 12, 13] rfl (by kernel_rfl) (by kernel_rfl) (by kernel_rfl) (by kernel_rfl) (by kernel_rfl) (by kernel_rfl) (fun _ _ _ h => h) (Or.inl ⟨by rfl, (by intro W hSW; (try dsimp only at hSW); (try go_split_ands); go_simp <;> with_reducible rfl)⟩) hS0 ?_
    try simp only [Act.put, List.setIfInBounds_toArray, List.set_cons_zero, List.set_cons_succ]
    refine wpAnyU_one (i := 9) (by kernel_rfl) rfl (fun K hK => ?_)
    go_simp
    refine hK.out _ _ (fun _ => hSa) (fun _ => ?_)
    clear hK K
    refine wpAnyU_one (i := 10) (by kernel_rfl) rfl (fun K hK => ?_)
    go_simp
    go_at_call 33
    refine HIN.out.mono ?_
    rintro e w5 ⟨q', rfl, hq5, hqb5, hk5, hs5, ⟨x1, x2, x3⟩, qa', qc', rfl⟩
    have hS5 : w5.cell? ⟨w'.heap.size + 1, 0, none⟩ = some (.pointer (some ⟨p, 0, none⟩)) ∧ w5.cell? ⟨p, 1, none⟩ = some (.slice qa qn qc) := HS.out w5 hk5
    have f5 : w5.frozen? ⟨p, 1, none⟩ = false := HFZ.out w5 hk5
    have H5 := Lib.hid (And.intro hq5 (And.intro hqb5 (And.intro hk5 (And.intro hs5 (And.intro x1 (And.intro x2 x3))))))
    clear hq5 hqb5 hk5 hs5 x1 x2 x3 HIN
    refine hK.out _ _ (fun _ => hS5) (fun _ => ?_)
    clear hK K
    refine wpAnyU_take (i := 11) [12, 13] rfl (by kernel_rfl) (by kernel_rfl) (by kernel_rfl) (by kernel_rfl) (by kernel_rfl) (by kernel_rfl) (fun _ _ _ h => h) (Or.inl ⟨by rfl, (by intro W hSW; (try dsimp only at hSW); (try go_split_ands); go_simp <;> with_reducible rfl)⟩) hS5 ?_
    try simp only [Act.put, List.setIfInBounds_toArray, List.set_cons_zero, List.set_cons_succ]
    refine wpAnyU_take (i := 12) [13] rfl (by kernel_rfl) (by kernel_rfl) (by kernel_rfl) (by kernel_rfl) (by kernel_rfl) (by kernel_rfl) (fun _ _ _ h => h) (Or.inl ⟨by rfl, (by intro W hSW; (try dsimp only at hSW); (try go_split_ands); go_simp <;> with_reducible rfl)⟩) hS5 ?_
    try simp only [Act.put, List.setIfInBounds_toArray, List.set_cons_zero, List.set_cons_succ]
    refine wpAnyU_one (i := 13) (by kernel_rfl) rfl (fun K hK => ?_)
    go_simp
    refine hK.out _ _ (fun h => absurd h (by decide)) (fun _ => ?_)
    clear hK K
    refine wpAnyU_done (by kernel_rfl) ?_ _

    obtain ⟨w6, hw6⟩ : ∃ w6, w5.setCell ⟨p, 1, none⟩ (.slice (some qa') (qs.length + 1) qc') = w6 := ⟨_, rfl⟩
    have h6 : TabS W0 w6 { (⟨T, P, W, N, pl, ws0, nm⟩ : TV) with pl := pl.set i (s, ⟨p, H, .slice (some qa') (qs.length + 1) qc', hs0, qins qs jn (o, mj)⟩) } := by
      have hTL := HTL.out
      have hb6 : w6.heap[p]? = some (.cells #[.map (some H), .slice (some qa') (qs.length + 1) qc'] 71 (0, 0)) := by
        rw [← hw6]
        have h9 := (H5.out.2.2.1 p (Array.getElem?_eq_some_iff.1 HP2.out.blk).1 (fun g hg => by obtain ⟨cur, hc⟩ := HQ2.out.blk hg; exact cells_ty_ne HP2.out.blk hc (by decide))).trans HP2.out.blk
        exact setCell_blkL h9 _
      have hq6 : QAt w6 (.slice (some qa') (qs.length + 1) qc') (qins qs jn (o, mj)) := H5.out.1.keep (fun g hg => by
        rw [← hw6]
        obtain ⟨cur, hc⟩ := H5.out.1.blk hg
        refine setCell_heapL _ _ _ _ (fun e9 => ?_)
        have h9 := (H5.out.2.2.1 p (Array.getElem?_eq_some_iff.1 HP2.out.blk).1 (fun g hg => by obtain ⟨cur, hc⟩ := HQ2.out.blk hg; exact cells_ty_ne HP2.out.blk hc (by decide))).trans HP2.out.blk
        exact cells_ty_ne h9 hc (by decide) e9.symm)
      have hk6 : ∀ k, k < w2.heap.size → k ≠ p → (∀ g, qblk (.slice qa qn qc) = some g → k ≠ g) → w6.heap[k]? = w2.heap[k]? := fun k hk hkp hkg => by
        rw [← hw6, setCell_heapL _ _ _ _ hkp]
        exact H5.out.2.2.1 k hk hkg
      have hsz : w2.heap.size ≤ w6.heap.size := by rw [← hw6, setCell_sizeL]; exact H5.out.2.2.2.1
      obtain ⟨l1, l2, l3⟩ := hTL.loP i _ HL.out.2
      refine ⟨hTL.rep.queue HL.out.2 hb6 hq6 H5.out.2.1 hk6, hTL.bl.step hsz (by rw [← hw6]; exact H5.out.2.2.2.2.1) (by rw [← hw6]; exact H5.out.2.2.2.2.2.1) (by rw [← hw6]; exact H5.out.2.2.2.2.2.2) (fun k hk => hk6 k (hTL.bl.lt2 hk) (fun e => l1 (e ▸ hk)) (fun g hg e => l3 g hg (e ▸ hk))), hTL.lo, fun k y hy => ?_, hTL.loN⟩
      rcases set_cases hy with ⟨rfl, rfl, -⟩ | ⟨-, h9⟩
      · exact ⟨l1, l2, fun g hg => (H5.out.2.1 g hg).elim (l3 g) (fun h8 => hTL.bl.nS h8)⟩
      · exact hTL.loP k y h9
    have c8 : w6.cell? ⟨T, 1, none⟩ = some (.map (some W)) := cell_of_row w6 T 1 _ _ _ h6.rep.tab.blk
    obtain ⟨oW, huW, hgW⟩ := gmap_update (P := Try.prog) Try.underlying63 Try.underlying29 h6.rep.tab.wt o (.agg #[.string s, .int .i64 mj])
    change (Instr.mapUpdate 63 (.map (some W)) (.int .u64 o) (.agg #[.string s, .int .i64 mj])).run Try.prog w6 = _ at huW
    have hgm := gset_map (fun y : ByteArray × Int => Value.agg #[.string y.1, .int .i64 y.2]) ws0 o (s, mj)
    have h7 : TabS W0 (setObjW w6 W oW) { (⟨T, P, W, N, pl, ws0, nm⟩ : TV) with pl := pl.set i (s, ⟨p, H, .slice (some qa') (qs.length + 1) qc', hs0, qins qs jn (o, mj)⟩), ws := kset ws0 o (s, mj) } := by
      refine ⟨h6.rep.waits (ws := kset ws0 o (s, mj)) ?_ (fun k hk hkW => setObjW_other _ _ _ _ hkW), h6.bl.step (by rw [setObjW_size]; exact Nat.le_refl _) rfl rfl rfl (fun k hk => setObjW_other _ _ _ _ (fun e => h6.lo.2.2.1 (e ▸ hk))), h6.lo, h6.loP, h6.loN⟩
      have h9 := hgW
      unfold wsV at h9
      rw [hgm] at h9
      exact h9
    have H7 := Lib.hid h7
    clear h6 h7 hgW hgm H5 HTL HS HFZ hS0 hSa hS5
    try rw [hw6]
    go_wp2
    go_ret
    exact ⟨rfl, _, (by have h9 := H7.out; rw [← HJN.out] at h9; exact h9)⟩
  · obtain rfl : qn = jn := by have h9 := HQN.out.1; omega
    clear hjq
    go_upto_region 23 with (fail)
    refine wp_region_U (fun W => W.cell? ⟨w'.heap.size + 1, 0, none⟩ = some (.pointer (some ⟨p, 0, none⟩)) ∧ W.cell? ⟨p, 1, none⟩ = some (.slice qa qn qc)) [13] (by kernel_rfl) ?_
    refine wpAnyU_take (i := 0) [11, 12, 13] rfl (by kernel_rfl) (by kernel_rfl) (by kernel_rfl) (by kernel_rfl) (by kernel_rfl) (by kernel_rfl) (fun _ _ _ h => h) (Or.inl ⟨by rfl, (by intro W hSW; (try dsimp only at hSW); (try go_split_ands); go_simp <;> with_reducible rfl)⟩) hS0 ?_
    try simp only [Act.put, List.setIfInBounds_toArray, List.set_cons_zero, List.set_cons_succ]
    refine wpAnyU_take (i := 1) [2, 3, 4, 10, 11, 12, 13] rfl (by kernel_rfl) (by kernel_rfl) (by kernel_rfl) (by kernel_rfl) (by kernel_rfl) (by kernel_rfl) (fun _ _ _ h => h) (Or.inl ⟨by rfl, (by intro W hSW; (try dsimp only at hSW); (try go_split_ands); go_simp <;> with_reducible rfl)⟩) hS0 ?_
    try simp only [Act.put, List.setIfInBounds_toArray, List.set_cons_zero, List.set_cons_succ]
    refine wpAnyU_take (i := 2) [3, 4, 10, 11, 12, 13] rfl (by kernel_rfl) (by kernel_rfl) (by kernel_rfl) (by kernel_rfl) (by kernel_rfl) (by kernel_rfl) (fun _ _ _ h => h) (Or.inl ⟨by rfl, (by intro W hSW; (try dsimp only at hSW); (try go_split_ands); go_simp <;> with_reducible rfl)⟩) hS0 ?_
    try simp only [Act.put, List.setIfInBounds_toArray, List.set_cons_zero, List.set_cons_succ]
    refine wpAnyU_take (i := 3) [4, 10, 11, 12, 13] rfl (by kernel_rfl) (by kernel_rfl) (by kernel_rfl) (by kernel_rfl) (by kernel_rfl) (by kernel_rfl) (fun _ _ _ h => h) (Or.inl ⟨by rfl, (by intro W hSW; (try dsimp only at hSW); (try go_split_ands); go_simp <;> with_reducible rfl)⟩) hS0 ?_
    try simp only [Act.put, List.setIfInBounds_toArray, List.set_cons_zero, List.set_cons_succ]
    refine wpAnyU_take (i := 4) [10, 11, 12, 13] rfl (by kernel_rfl) (by kernel_rfl) (by kernel_rfl) (by kernel_rfl) (by kernel_rfl) (by kernel_rfl) (fun _ _ _ h => h) (Or.inl ⟨by rfl, (by intro W hSW; (try dsimp only at hSW); (try go_split_ands); go_simp <;> with_reducible rfl)⟩) hS0 ?_
    try simp only [Act.put, List.setIfInBounds_toArray, List.set_cons_zero, List.set_cons_succ]
    refine wpAnyU_take (i := 5) [10, 11, 12, 13] rfl (by kernel_rfl) (by kernel_rfl) (by kernel_rfl) (by kernel_rfl) (by kernel_rfl) (by kernel_rfl) (fun _ _ _ h => h) (Or.inl ⟨by rfl, (by intro W hSW; (try dsimp only at hSW); (try go_split_ands); go_simp <;> with_reducible rfl)⟩) hS0 ?_
    try simp only [Act.put, List.setIfInBounds_toArray, List.set_cons_zero, List.set_cons_succ]
    refine wpAnyU_take (i := 6) [8, 9, 10, 11, 12, 13] rfl (by kernel_rfl) (by kernel_rfl) (by kernel_rfl) (by kernel_rfl) (by kernel_rfl) (by kernel_rfl) (fun _ _ _ h => h) (Or.inl ⟨by rfl, (by intro W hSW; (try dsimp only at hSW); (try go_split_ands); go_simp <;> with_reducible rfl)⟩) hS0 ?_
    try simp only [Act.put, List.setIfInBounds_toArray, List.set_cons_zero, List.set_cons_succ]
    refine wpAnyU_take (i := 7) [8, 9, 10, 11, 12, 13] rfl (by kernel_rfl) (by kernel_rfl) (by kernel_rfl) (by kernel_rfl) (by kernel_rfl) (by kernel_rfl) (fun _ _ _ h => h) (Or.inl ⟨by rfl, (by intro W hSW; (try dsimp only at hSW); (try go_split_ands); go_simp <;> with_reducible rfl)⟩) hS0 ?_
    try simp only [Act.put, List.setIfInBounds_toArray, List.set_cons_zero, List.set_cons_succ]
    refine wpAnyU_take (i := 8) [9, 10, 11, 12, 13] rfl (by kernel_rfl) (by kernel_rfl) (by kernel_rfl) (by kernel_rfl) (by kernel_rfl) (by kernel_rfl) (fun _ _ _ h => h) (Or.inl ⟨by rfl, (by intro W hSW; (try dsimp only at hSW); (try go_split_ands); go_simp <;> with_reducible rfl)⟩) hS0 ?_
    try simp only [Act.put, List.setIfInBounds_toArray, List.set_cons_zero, List.set_cons_succ]
    refine wpAnyU_one (i := 9) (by kernel_rfl) rfl (fun K hK => ?_)
    go_simp
    refine hK.out _ _ (fun _ => hSa) (fun _ => ?_)
    clear hK K
    refine wpAnyU_one (i := 10) (by kernel_rfl) rfl (fun K hK => ?_)
    go_simp
    go_at_call 33
    refine HIN.out.mono ?_
    rintro e w5 ⟨q', rfl, hq5, hqb5, hk5, hs5, ⟨x1, x2, x3⟩, qa', qc', rfl⟩
    have hS5 : w5.cell? ⟨w'.heap.size + 1, 0, none⟩ = some (.pointer (some ⟨p, 0, none⟩)) ∧ w5.cell? ⟨p, 1, none⟩ = some (.slice qa qn qc) := HS.out w5 hk5
    have f5 : w5.frozen? ⟨p, 1, none⟩ = false := HFZ.out w5 hk5
    have H5 := Lib.hid (And.intro hq5 (And.intro hqb5 (And.intro hk5 (And.intro hs5 (And.intro x1 (And.intro x2 x3))))))
    clear hq5 hqb5 hk5 hs5 x1 x2 x3 HIN
    refine hK.out _ _ (fun _ => hS5) (fun _ => ?_)
    clear hK K
    refine wpAnyU_take (i := 11) [12, 13] rfl (by kernel_rfl) (by kernel_rfl) (by kernel_rfl) (by kernel_rfl) (by kernel_rfl) (by kernel_rfl) (fun _ _ _ h => h) (Or.inl ⟨by rfl, (by intro W hSW; (try dsimp only at hSW); (try go_split_ands); go_simp <;> with_reducible rfl)⟩) hS5 ?_
    try simp only [Act.put, List.setIfInBounds_toArray, List.set_cons_zero, List.set_cons_succ]
    refine wpAnyU_take (i := 12) [13] rfl (by kernel_rfl) (by kernel_rfl) (by kernel_rfl) (by kernel_rfl) (by kernel_rfl) (by kernel_rfl) (fun _ _ _ h => h) (Or.inl ⟨by rfl, (by intro W hSW; (try dsimp only at hSW); (try go_split_ands); go_simp <;> with_reducible rfl)⟩) hS5 ?_
    try simp only [Act.put, List.setIfInBounds_toArray, List.set_cons_zero, List.set_cons_succ]
    refine wpAnyU_one (i := 13) (by kernel_rfl) rfl (fun K hK => ?_)
    go_simp
    refine hK.out _ _ (fun h => absurd h (by decide)) (fun _ => ?_)
    clear hK K
    refine wpAnyU_done (by kernel_rfl) ?_ _

    obtain ⟨w6, hw6⟩ : ∃ w6, w5.setCell ⟨p, 1, none⟩ (.slice (some qa') (qs.length + 1) qc') = w6 := ⟨_, rfl⟩
    have h6 : TabS W0 w6 { (⟨T, P, W, N, pl, ws0, nm⟩ : TV) with pl := pl.set i (s, ⟨p, H, .slice (some qa') (qs.length + 1) qc', hs0, qins qs qn (o, mj)⟩) } := by
      have hTL := HTL.out
      have hb6 : w6.heap[p]? = some (.cells #[.map (some H), .slice (some qa') (qs.length + 1) qc'] 71 (0, 0)) := by
        rw [← hw6]
        have h9 := (H5.out.2.2.1 p (Array.getElem?_eq_some_iff.1 HP2.out.blk).1 (fun g hg => by obtain ⟨cur, hc⟩ := HQ2.out.blk hg; exact cells_ty_ne HP2.out.blk hc (by decide))).trans HP2.out.blk
        exact setCell_blkL h9 _
      have hq6 : QAt w6 (.slice (some qa') (qs.length + 1) qc') (qins qs qn (o, mj)) := H5.out.1.keep (fun g hg => by
        rw [← hw6]
        obtain ⟨cur, hc⟩ := H5.out.1.blk hg
        refine setCell_heapL _ _ _ _ (fun e9 => ?_)
        have h9 := (H5.out.2.2.1 p (Array.getElem?_eq_some_iff.1 HP2.out.blk).1 (fun g hg => by obtain ⟨cur, hc⟩ := HQ2.out.blk hg; exact cells_ty_ne HP2.out.blk hc (by decide))).trans HP2.out.blk
        exact cells_ty_ne h9 hc (by decide) e9.symm)
      have hk6 : ∀ k, k < w2.heap.size → k ≠ p → (∀ g, qblk (.slice qa qn qc) = some g → k ≠ g) → w6.heap[k]? = w2.heap[k]? := fun k hk hkp hkg => by
        rw [← hw6, setCell_heapL _ _ _ _ hkp]
        exact H5.out.2.2.1 k hk hkg
      have hsz : w2.heap.size ≤ w6.heap.size := by rw [← hw6, setCell_sizeL]; exact H5.out.2.2.2.1
      obtain ⟨l1, l2, l3⟩ := hTL.loP i _ HL.out.2
      refine ⟨hTL.rep.queue HL.out.2 hb6 hq6 H5.out.2.1 hk6, hTL.bl.step hsz (by rw [← hw6]; exact H5.out.2.2.2.2.1) (by rw [← hw6]; exact H5.out.2.2.2.2.2.1) (by rw [← hw6]; exact H5.out.2.2.2.2.2.2) (fun k hk => hk6 k (hTL.bl.lt2 hk) (fun e => l1 (e ▸ hk)) (fun g hg e => l3 g hg (e ▸ hk))), hTL.lo, fun k y hy => ?_, hTL.loN⟩
      rcases set_cases hy with ⟨rfl, rfl, -⟩ | ⟨-, h9⟩
      · exact ⟨l1, l2, fun g hg => (H5.out.2.1 g hg).elim (l3 g) (fun h8 => hTL.bl.nS h8)⟩
      · exact hTL.loP k y h9
    have c8 : w6.cell? ⟨T, 1, none⟩ = some (.map (some W)) := cell_of_row w6 T 1 _ _ _ h6.rep.tab.blk
    obtain ⟨oW, huW, hgW⟩ := gmap_update (P := Try.prog) Try.underlying63 Try.underlying29 h6.rep.tab.wt o (.agg #[.string s, .int .i64 mj])
    change (Instr.mapUpdate 63 (.map (some W)) (.int .u64 o) (.agg #[.string s, .int .i64 mj])).run Try.prog w6 = _ at huW
    have hgm := gset_map (fun y : ByteArray × Int => Value.agg #[.string y.1, .int .i64 y.2]) ws0 o (s, mj)
    have h7 : TabS W0 (setObjW w6 W oW) { (⟨T, P, W, N, pl, ws0, nm⟩ : TV) with pl := pl.set i (s, ⟨p, H, .slice (some qa') (qs.length + 1) qc', hs0, qins qs qn (o, mj)⟩), ws := kset ws0 o (s, mj) } := by
      refine ⟨h6.rep.waits (ws := kset ws0 o (s, mj)) ?_ (fun k hk hkW => setObjW_other _ _ _ _ hkW), h6.bl.step (by rw [setObjW_size]; exact Nat.le_refl _) rfl rfl rfl (fun k hk => setObjW_other _ _ _ _ (fun e => h6.lo.2.2.1 (e ▸ hk))), h6.lo, h6.loP, h6.loN⟩
      have h9 := hgW
      unfold wsV at h9
      rw [hgm] at h9
      exact h9
    have H7 := Lib.hid h7
    clear h6 h7 hgW hgm H5 HTL HS HFZ hS0 hSa hS5
    try rw [hw6]
    go_wp2
    go_ret
    exact ⟨rfl, _, (by have h9 := H7.out; rw [← HJN.out] at h9; exact h9)⟩

end Mun
end

section
/- Ask of one that must wait, over a whole table, and what stays beside it. Printed by tools/genwait.py out of LockYk's text. -/
set_option maxRecDepth 100000
set_option linter.unusedVariables false
set_option linter.unusedSimpArgs false
namespace Mun
open Go Go.RowKit
open Go.Proofs

set_option maxHeartbeats 4000000 in
theorem ask_later_s {W0 : Bnd} {w : World} {t : TV} (h : TabS W0 w t) {i : Nat} {s : ByteArray} {x : PV} (hx : t.pl[i]? = some (s, x)) (hpa : klook t.pl s = some x) (o m : Int) (ho : o ≠ 0) (him : isM m = true) (hw : klook t.ws o = none) (hh : klook x.hs o = none) (hqs : x.qs = []) (hg : goesP (hsV x.hs) o m = false) :
    Calls Try.prog 17 #[.pointer (some ⟨t.T, 0, none⟩), .int .u64 o, .string s, .int .i64 m] w fun e w' => e = .returned (.int .i64 10) ∧ ∃ q', TabS W0 w' { t with pl := t.pl.set i (s, { x with q := q', qs := qins x.qs x.qs.length (o, m) }), ws := kset t.ws o (s, m) } := by
  have hpa2 : glook (plV t.pl) s = some (.pointer (some ⟨x.p, 0, none⟩)) := by
    have h9 := glook_map (fun y : PV => Value.pointer (some ⟨y.p, 0, none⟩)) t.pl s
    rw [hpa] at h9
    exact h9
  have hw2 : glook (wsV t.ws) o = none := by
    have h9 := glook_map (fun y : ByteArray × Int => Value.agg #[.string y.1, .int .i64 y.2]) t.ws o
    rw [hw] at h9
    exact h9
  have hhl : glook (hsV x.hs) o = (klook x.hs o).map (fun k : Int => Value.int .i64 k) := glook_map (fun k : Int => Value.int .i64 k) x.hs o
  have hm : ModesAt (hsV x.hs) := fun q hq => by obtain ⟨y, -, rfl⟩ := List.mem_map.1 hq; exact ⟨y.2, rfl⟩
  have ht := h.rep.tab
  have hpl := h.rep.pls i _ hx
  have HL := Lib.hid (And.intro h hx)
  obtain ⟨T, P, W, N, pl, ws0, nm⟩ := t
  obtain ⟨p, H, q, hs0, qs⟩ := x
  simp only at ht hpl hpa2 hw2 hhl hm ⊢
  obtain ⟨hp, hq⟩ := hpl
  obtain ⟨ps, hps⟩ : ∃ ps, plV pl = ps := ⟨_, rfl⟩
  obtain ⟨ws, hws⟩ : ∃ ws, wsV ws0 = ws := ⟨_, rfl⟩
  obtain ⟨ns, hns⟩ : ∃ ns, nmV nm = ns := ⟨_, rfl⟩
  obtain ⟨hs, hhs⟩ : ∃ hs, hsV hs0 = hs := ⟨_, rfl⟩
  rw [hps, hws, hns] at ht
  rw [hps] at hpa2
  rw [hws] at hw2
  rw [hhs] at hhl hm hp
  have hh2 : glook hs o = none := by rw [hhl, show klook hs0 o = none from hh]; rfl
  rw [show hsV (PV.hs ⟨p, H, q, hs0, qs⟩) = hs from hhs] at hg
  obtain ⟨qa, qn, qc, rfl, hqn⟩ : ∃ qa qn qc, q = .slice qa qn qc ∧ qs.length = qn := by
    rcases hq with ⟨e, e2⟩ | ⟨g, off, c, cur, e, -⟩
    · exact ⟨none, 0, 0, e, by rw [e2]; rfl⟩
    · exact ⟨some ⟨g, off, none⟩, _, c, e, rfl⟩
  have hql : qs.length ≤ 8796093022200 := by rw [show qs = [] from hqs]; decide
  have hq0 : qn = 0 := by rw [← hqn, show qs = [] from hqs]; rfl
  subst hq0
  have hims := isMode_any w m
  rw [him] at hims
  have hob : (o == 0) = false := by simpa using ho
  have c1 : w.cell? ⟨T, 1, none⟩ = some (.map (some W)) := cell_of_row w T 1 _ _ _ ht.blk
  have hl1 := gmap_lookup (P := Try.prog) Try.underlying63 Try.underlying29 (z33 w) ht.wt o
  rw [hw2] at hl1
  change (Instr.lookup 63 (.map (some W)) (.int .u64 o) true).run Try.prog w = .ok (.tuple #[.agg #[.string ⟨#[]⟩, .int .i64 0], .bool false]) w at hl1
  obtain ⟨wA, hwA⟩ : ∃ wA, w.alloc (.cells #[.string ⟨#[]⟩, .int .i64 0] 33) = wA := ⟨_, rfl⟩
  have kA : ∀ k, k < w.heap.size → wA.heap[k]? = w.heap[k]? := fun k hk => by rw [← hwA, heap_alloc_old _ _ hk]
  have sA : wA.heap.size = w.heap.size + 1 := by rw [← hwA, World.size_alloc]
  have htA := ht.keep kA
  have hpA := hp.keep kA
  have c2 : wA.cell? ⟨T, 0, none⟩ = some (.map (some P)) := cell_of_row wA T 0 _ _ _ htA.blk
  have hl2 := gmap_lookup1 (P := Try.prog) Try.underlying62 Try.underlying9 (z67 wA) htA.pl s
  rw [hpa2] at hl2
  change (Instr.lookup 62 (.map (some P)) (.string s) false).run Try.prog wA = .ok (.pointer (some ⟨p, 0, none⟩)) wA at hl2
  obtain ⟨wB, hwB⟩ : ∃ wB, wA.alloc (.cells #[.pointer (some ⟨p, 0, none⟩)] 67) = wB := ⟨_, rfl⟩
  have kB : ∀ k, k < wA.heap.size → wB.heap[k]? = wA.heap[k]? := fun k hk => by rw [← hwB, heap_alloc_old _ _ hk]
  have sB : wB.heap.size = w.heap.size + 2 := by rw [← hwB, World.size_alloc, sA]
  have htB := htA.keep kB
  have hpB := hpA.keep kB
  have nB : wB.heap[w.heap.size + 1]? = some (.cells #[.pointer (some ⟨p, 0, none⟩)] 67 (0, 0)) := by rw [← hwB, ← sA]; exact heap_alloc_new wA _
  have c3 : wB.cell? ⟨w.heap.size + 1, 0, none⟩ = some (.pointer (some ⟨p, 0, none⟩)) := cell_of_row wB _ 0 _ _ _ nB
  have c4 : wB.cell? ⟨p, 0, none⟩ = some (.map (some H)) := cell_of_row wB p 0 _ _ _ hpB.blk
  have c5 : wB.cell? ⟨p, 1, none⟩ = some (.slice qa 0 qc) := cell_of_row wB p 1 _ _ _ hpB.blk
  have hl3 := gmap_lookup (P := Try.prog) Try.underlying68 Try.underlying29 (z3 wB) hpB.hl o
  rw [hh2] at hl3
  change (Instr.lookup 68 (.map (some H)) (.int .u64 o) true).run Try.prog wB = .ok (.tuple #[.int .i64 0, .bool false]) wB at hl3
  have hgo := goes_any wB p H _ hs o m hpB hm
  rw [hg] at hgo
  have HG := Lib.hid hgo
  have HN := Lib.hid nB
  have HPB := Lib.hid hpB
  have HQB := Lib.hid (hq.keep (w' := wB) (fun g hg2 => by obtain ⟨cur, hc⟩ := hq.blk hg2; have h9 := (Array.getElem?_eq_some_iff.1 hc).1; exact (kB g (by omega)).trans (kA g h9)))
  have HQN : Hid (qs.length = 0 ∧ qs.length ≤ 8796093022200) := ⟨hqn, hql⟩
  have HBB : Hid (Below w.heap.size w wB) := by
    show Below _ _ _
    rw [← hwB, ← hwA]
    exact below_more (below_more (Below.refl _ _) _) _
  clear hqn hql hq hqs ht hp htA hpA htB hpB kA kB sA sB hgo nB h hx
  subst hwB
  subst hwA
  go_enter Try.func17, Try.ntmps17
  go_wp2_with fail
  refine hims.mono ?_
  rintro e w' ⟨rfl, rfl⟩
  go_wp2_with fail
  refine HG.out.mono ?_
  rintro e w2 ⟨rfl, hb2⟩
  have k2 : ∀ k, k < _ → w2.heap[k]? = _ := fun k hk => hb2.block k hk
  have nB2 : w2.heap[w'.heap.size + 1]? = _ := (k2 _ (Array.getElem?_eq_some_iff.1 HN.out).1).trans HN.out
  have hp2 := HPB.out.keep k2
  have hq2' := HQB.out.keep (w' := w2) (fun g hg2 => by obtain ⟨cur, hc⟩ := HQB.out.blk hg2; exact k2 g (Array.getElem?_eq_some_iff.1 hc).1)
  have c6 : w2.cell? ⟨w'.heap.size + 1, 0, none⟩ = some (.pointer (some ⟨p, 0, none⟩)) := cell_of_row w2 _ 0 _ _ _ nB2
  have c7 : w2.cell? ⟨p, 1, none⟩ = some (.slice qa 0 qc) := cell_of_row w2 p 1 _ _ _ hp2.blk
  have HP2 := Lib.hid hp2
  have HQ2 := Lib.hid hq2'
  have HN2 := Lib.hid nB2
  have HTL := Lib.hid ((HL.out.1.below HBB.out).below hb2)
  clear hp2 hq2' nB2 k2 hb2
  have hq2 : QAt w2.drew (.slice qa 0 qc) qs := HQ2.out
  have hin : Calls Try.prog 33 #[.slice qa 0 qc, .int .i64 0, .slice (some ⟨w2.heap.size, 0, none⟩) 1 1] ((w2.alloc (.cells #[.int .u64 o, .int .i64 m] 77)).drew) (QPostJ w2.drew (.slice qa 0 qc) qs qs.length o m) := by
    have h9 := insert_any hq2 HQN.out.2 qs.length (Nat.le_refl _) o m
    rw [HQN.out.1] at h9
    rw [HQN.out.1]
    exact h9
  unfold QPostJ at hin
  have HIN := Lib.hid hin
  have hlt6 : w'.heap.size + 1 < w2.heap.size := (Array.getElem?_eq_some_iff.1 HN2.out).1
  have hlt7 : p < w2.heap.size := (Array.getElem?_eq_some_iff.1 HP2.out.blk).1
  have hnq : ∀ g, qblk (.slice qa 0 qc) = some g → w'.heap.size + 1 ≠ g ∧ p ≠ g := fun g hg => by
    obtain ⟨cur, hc⟩ := HQ2.out.blk hg
    exact ⟨cells_ty_ne HN2.out hc (by decide), cells_ty_ne HP2.out.blk hc (by decide)⟩
  have HS : Hid (∀ W : World, (∀ k, k < w2.heap.size → (∀ g, qblk (.slice qa 0 qc) = some g → k ≠ g) → W.heap[k]? = w2.heap[k]?) → W.cell? ⟨w'.heap.size + 1, 0, none⟩ = some (.pointer (some ⟨p, 0, none⟩)) ∧ W.cell? ⟨p, 1, none⟩ = some (.slice qa 0 qc)) := by
    show ∀ _, _
    intro W hk
    exact ⟨cell_of_row W _ 0 _ _ _ ((hk _ hlt6 (fun g hg => (hnq g hg).1)).trans HN2.out), cell_of_row W p 1 _ _ _ ((hk _ hlt7 (fun g hg => (hnq g hg).2)).trans HP2.out.blk)⟩
  have HFZ : Hid (∀ W : World, (∀ k, k < w2.heap.size → (∀ g, qblk (.slice qa 0 qc) = some g → k ≠ g) → W.heap[k]? = w2.heap[k]?) → W.frozen? ⟨p, 1, none⟩ = false) := by
    show ∀ _, _
    intro W hk
    have h9 := (hk _ hlt7 (fun g hg => (hnq g hg).2)).trans HP2.out.blk
    simp [World.frozen?, h9]
  have hS0 : w2.drew.cell? ⟨w'.heap.size + 1, 0, none⟩ = some (.pointer (some ⟨p, 0, none⟩)) ∧ w2.drew.cell? ⟨p, 1, none⟩ = some (.slice qa 0 qc) := HS.out w2.drew (fun _ _ _ => rfl)
  have hSa : (w2.alloc (.cells #[.int .u64 o, .int .i64 m] 77)).drew.cell? ⟨w'.heap.size + 1, 0, none⟩ = some (.pointer (some ⟨p, 0, none⟩)) ∧ (w2.alloc (.cells #[.int .u64 o, .int .i64 m] 77)).drew.cell? ⟨p, 1, none⟩ = some (.slice qa 0 qc) := HS.out _ (fun k hk _ => heap_alloc_old w2 _ hk)
  clear hin hlt6 hlt7 hnq hq2
  go_upto_region 23 with (fail)
  refine wp_region_U (fun W => W.cell? ⟨w'.heap.size + 1, 0, none⟩ = some (.pointer (some ⟨p, 0, none⟩)) ∧ W.cell? ⟨p, 1, none⟩ = some (.slice qa 0 qc)) [13] (by kernel_rfl) ?_
  refine wpAnyU_take (i := 0) [11, 12, 13] rfl (by kernel_rfl) (by kernel_rfl) (by kernel_rfl) (by kernel_rfl) (by kernel_rfl) (by kernel_rfl) (fun _ _ _ h => h) (Or.inl ⟨by rfl, (by intro W hSW; (try dsimp only at hSW); (try go_split_ands); go_simp <;> with_reducible rfl)⟩) hS0 ?_
  try simp only [Act.put, List.setIfInBounds_toArray, List.set_cons_zero, List.set_cons_succ]
  refine wpAnyU_take (i := 1) [2, 3, 4, 10, 11, 12, 13] rfl (by kernel_rfl) (by kernel_rfl) (by kernel_rfl) (by kernel_rfl) (by kernel_rfl) (by kernel_rfl) (fun _ _ _ h => h) (Or.inl ⟨by rfl, (by intro W hSW; (try dsimp only at hSW); (try go_split_ands); go_simp <;> with_reducible rfl)⟩) hS0 ?_
  try simp only [Act.put, List.setIfInBounds_toArray, List.set_cons_zero, List.set_cons_succ]
  refine wpAnyU_take (i := 2) [3, 4, 10, 11, 12, 13] rfl (by kernel_rfl) (by kernel_rfl) (by kernel_rfl) (by kernel_rfl) (by kernel_rfl) (by kernel_rfl) (fun _ _ _ h => h) (Or.inl ⟨by rfl, (by intro W hSW; (try dsimp only at hSW); (try go_split_ands); go_simp <;> with_reducible rfl)⟩) hS0 ?_
  try simp only [Act.put, List.setIfInBounds_toArray, List.set_cons_zero, List.set_cons_succ]
  refine wpAnyU_take (i := 3) [4, 10, 11, 12, 13] rfl (by kernel_rfl) (by kernel_rfl) (by kernel_rfl) (by kernel_rfl) (by kernel_rfl) (by kernel_rfl) (fun _ _ _ h => h) (Or.inl ⟨by rfl, (by intro W hSW; (try dsimp only at hSW); (try go_split_ands); go_simp <;> with_reducible rfl)⟩) hS0 ?_
  try simp only [Act.put, List.setIfInBounds_toArray, List.set_cons_zero, List.set_cons_succ]
  refine wpAnyU_take (i := 4) [10, 11, 12, 13] rfl (by kernel_rfl) (by kernel_rfl) (by kernel_rfl) (by kernel_rfl) (by kernel_rfl) (by kernel_rfl) (fun _ _ _ h => h) (Or.inl ⟨by rfl, (by intro W hSW; (try dsimp only at hSW); (try go_split_ands); go_simp <;> with_reducible rfl)⟩) hS0 ?_
  try simp only [Act.put, List.setIfInBounds_toArray, List.set_cons_zero, List.set_cons_succ]
  refine wpAnyU_take (i := 5) [10, 11, 12, 13] rfl (by kernel_rfl) (by kernel_rfl) (by kernel_rfl) (by kernel_rfl) (by kernel_rfl) (by kernel_rfl) (fun _ _ _ h => h) (Or.inl ⟨by rfl, (by intro W hSW; (try dsimp only at hSW); (try go_split_ands); go_simp <;> with_reducible rfl)⟩) hS0 ?_
  try simp only [Act.put, List.setIfInBounds_toArray, List.set_cons_zero, List.set_cons_succ]
  refine wpAnyU_take (i := 6) [8, 9, 10, 11, 12, 13] rfl (by kernel_rfl) (by kernel_rfl) (by kernel_rfl) (by kernel_rfl) (by kernel_rfl) (by kernel_rfl) (fun _ _ _ h => h) (Or.inl ⟨by rfl, (by intro W hSW; (try dsimp only at hSW); (try go_split_ands); go_simp <;> with_reducible rfl)⟩) hS0 ?_
  try simp only [Act.put, List.setIfInBounds_toArray, List.set_cons_zero, List.set_cons_succ]
  refine wpAnyU_take (i := 7) [8, 9, 10, 11, 12, 13] rfl (by kernel_rfl) (by kernel_rfl) (by kernel_rfl) (by kernel_rfl) (by kernel_rfl) (by kernel_rfl) (fun _ _ _ h => h) (Or.inl ⟨by rfl, (by intro W hSW; (try dsimp only at hSW); (try go_split_ands); go_simp <;> with_reducible rfl)⟩) hS0 ?_
  try simp only [Act.put, List.setIfInBounds_toArray, List.set_cons_zero, List.set_cons_succ]
  refine wpAnyU_take (i := 8) [9, 10, 11, 12, 13] rfl (by kernel_rfl) (by kernel_rfl) (by kernel_rfl) (by kernel_rfl) (by kernel_rfl) (by kernel_rfl) (fun _ _ _ h => h) (Or.inl ⟨by rfl, (by intro W hSW; (try dsimp only at hSW); (try go_split_ands); go_simp <;> with_reducible rfl)⟩) hS0 ?_
  try simp only [Act.put, List.setIfInBounds_toArray, List.set_cons_zero, List.set_cons_succ]
  refine wpAnyU_one (i := 9) (by kernel_rfl) rfl (fun K hK => ?_)
  go_simp
  refine hK.out _ _ (fun _ => hSa) (fun _ => ?_)
  clear hK K
  refine wpAnyU_one (i := 10) (by kernel_rfl) rfl (fun K hK => ?_)
  go_simp
  go_at_call 33
  refine HIN.out.mono ?_
  rintro e w5 ⟨q', rfl, hq5, hqb5, hk5, hs5, ⟨x1, x2, x3⟩, qa', qc', rfl⟩
  have hS5 : w5.cell? ⟨w'.heap.size + 1, 0, none⟩ = some (.pointer (some ⟨p, 0, none⟩)) ∧ w5.cell? ⟨p, 1, none⟩ = some (.slice qa 0 qc) := HS.out w5 hk5
  have f5 : w5.frozen? ⟨p, 1, none⟩ = false := HFZ.out w5 hk5
  have H5 := Lib.hid (And.intro hq5 (And.intro hqb5 (And.intro hk5 (And.intro hs5 (And.intro x1 (And.intro x2 x3))))))
  clear hq5 hqb5 hk5 hs5 x1 x2 x3 HIN
  refine hK.out _ _ (fun _ => hS5) (fun _ => ?_)
  clear hK K
  refine wpAnyU_take (i := 11) [12, 13] rfl (by kernel_rfl) (by kernel_rfl) (by kernel_rfl) (by kernel_rfl) (by kernel_rfl) (by kernel_rfl) (fun _ _ _ h => h) (Or.inl ⟨by rfl, (by intro W hSW; (try dsimp only at hSW); (try go_split_ands); go_simp <;> with_reducible rfl)⟩) hS5 ?_
  try simp only [Act.put, List.setIfInBounds_toArray, List.set_cons_zero, List.set_cons_succ]
  refine wpAnyU_take (i := 12) [13] rfl (by kernel_rfl) (by kernel_rfl) (by kernel_rfl) (by kernel_rfl) (by kernel_rfl) (by kernel_rfl) (fun _ _ _ h => h) (Or.inl ⟨by rfl, (by intro W hSW; (try dsimp only at hSW); (try go_split_ands); go_simp <;> with_reducible rfl)⟩) hS5 ?_
  try simp only [Act.put, List.setIfInBounds_toArray, List.set_cons_zero, List.set_cons_succ]
  refine wpAnyU_one (i := 13) (by kernel_rfl) rfl (fun K hK => ?_)
  go_simp
  refine hK.out _ _ (fun h => absurd h (by decide)) (fun _ => ?_)
  clear hK K
  refine wpAnyU_done (by kernel_rfl) ?_ _

  obtain ⟨w6, hw6⟩ : ∃ w6, w5.setCell ⟨p, 1, none⟩ (.slice (some qa') (qs.length + 1) qc') = w6 := ⟨_, rfl⟩
  have h6 : TabS W0 w6 { (⟨T, P, W, N, pl, ws0, nm⟩ : TV) with pl := pl.set i (s, ⟨p, H, .slice (some qa') (qs.length + 1) qc', hs0, qins qs qs.length (o, m)⟩) } := by
    have hTL := HTL.out
    have hb6 : w6.heap[p]? = some (.cells #[.map (some H), .slice (some qa') (qs.length + 1) qc'] 71 (0, 0)) := by
      rw [← hw6]
      have h9 := (H5.out.2.2.1 p (Array.getElem?_eq_some_iff.1 HP2.out.blk).1 (fun g hg => by obtain ⟨cur, hc⟩ := HQ2.out.blk hg; exact cells_ty_ne HP2.out.blk hc (by decide))).trans HP2.out.blk
      exact setCell_blkL h9 _
    have hq6 : QAt w6 (.slice (some qa') (qs.length + 1) qc') (qins qs qs.length (o, m)) := H5.out.1.keep (fun g hg => by
      rw [← hw6]
      obtain ⟨cur, hc⟩ := H5.out.1.blk hg
      refine setCell_heapL _ _ _ _ (fun e9 => ?_)
      have h9 := (H5.out.2.2.1 p (Array.getElem?_eq_some_iff.1 HP2.out.blk).1 (fun g hg => by obtain ⟨cur, hc⟩ := HQ2.out.blk hg; exact cells_ty_ne HP2.out.blk hc (by decide))).trans HP2.out.blk
      exact cells_ty_ne h9 hc (by decide) e9.symm)
    have hk6 : ∀ k, k < w2.heap.size → k ≠ p → (∀ g, qblk (.slice qa 0 qc) = some g → k ≠ g) → w6.heap[k]? = w2.heap[k]? := fun k hk hkp hkg => by
      rw [← hw6, setCell_heapL _ _ _ _ hkp]
      exact H5.out.2.2.1 k hk hkg
    have hsz : w2.heap.size ≤ w6.heap.size := by rw [← hw6, setCell_sizeL]; exact H5.out.2.2.2.1
    obtain ⟨l1, l2, l3⟩ := hTL.loP i _ HL.out.2
    refine ⟨hTL.rep.queue HL.out.2 hb6 hq6 H5.out.2.1 hk6, hTL.bl.step hsz (by rw [← hw6]; exact H5.out.2.2.2.2.1) (by rw [← hw6]; exact H5.out.2.2.2.2.2.1) (by rw [← hw6]; exact H5.out.2.2.2.2.2.2) (fun k hk => hk6 k (hTL.bl.lt2 hk) (fun e => l1 (e ▸ hk)) (fun g hg e => l3 g hg (e ▸ hk))), hTL.lo, fun k y hy => ?_, hTL.loN⟩
    rcases set_cases hy with ⟨rfl, rfl, -⟩ | ⟨-, h9⟩
    · exact ⟨l1, l2, fun g hg => (H5.out.2.1 g hg).elim (l3 g) (fun h8 => hTL.bl.nS h8)⟩
    · exact hTL.loP k y h9
  have c8 : w6.cell? ⟨T, 1, none⟩ = some (.map (some W)) := cell_of_row w6 T 1 _ _ _ h6.rep.tab.blk
  obtain ⟨oW, huW, hgW⟩ := gmap_update (P := Try.prog) Try.underlying63 Try.underlying29 h6.rep.tab.wt o (.agg #[.string s, .int .i64 m])
  change (Instr.mapUpdate 63 (.map (some W)) (.int .u64 o) (.agg #[.string s, .int .i64 m])).run Try.prog w6 = _ at huW
  have hgm := gset_map (fun y : ByteArray × Int => Value.agg #[.string y.1, .int .i64 y.2]) ws0 o (s, m)
  have h7 : TabS W0 (setObjW w6 W oW) { (⟨T, P, W, N, pl, ws0, nm⟩ : TV) with pl := pl.set i (s, ⟨p, H, .slice (some qa') (qs.length + 1) qc', hs0, qins qs qs.length (o, m)⟩), ws := kset ws0 o (s, m) } := by
    refine ⟨h6.rep.waits (ws := kset ws0 o (s, m)) ?_ (fun k hk hkW => setObjW_other _ _ _ _ hkW), h6.bl.step (by rw [setObjW_size]; exact Nat.le_refl _) rfl rfl rfl (fun k hk => setObjW_other _ _ _ _ (fun e => h6.lo.2.2.1 (e ▸ hk))), h6.lo, h6.loP, h6.loN⟩
    have h9 := hgW
    unfold wsV at h9
    rw [hgm] at h9
    exact h9
  have H7 := Lib.hid h7
  clear h6 h7 hgW hgm H5 HTL HS HFZ hS0 hSa hS5
  try rw [hw6]
  go_wp2
  go_ret
  exact ⟨rfl, _, H7.out⟩


set_option maxHeartbeats 4000000 in
theorem ask_behind_s {W0 : Bnd} {w : World} {t : TV} (h : TabS W0 w t) {i : Nat} {s : ByteArray} {x : PV} (hx : t.pl[i]? = some (s, x)) (hpa : klook t.pl s = some x) (o m : Int) (ho : o ≠ 0) (him : isM m = true) (hw : klook t.ws o = none) (hh : klook x.hs o = none) (hqs : x.qs ≠ []) (hqx : x.qs.length ≤ 8796093022200) :
    Calls Try.prog 17 #[.pointer (some ⟨t.T, 0, none⟩), .int .u64 o, .string s, .int .i64 m] w fun e w' => e = .returned (.int .i64 10) ∧ ∃ q', TabS W0 w' { t with pl := t.pl.set i (s, { x with q := q', qs := qins x.qs x.qs.length (o, m) }), ws := kset t.ws o (s, m) } := by
  have hpa2 : glook (plV t.pl) s = some (.pointer (some ⟨x.p, 0, none⟩)) := by
    have h9 := glook_map (fun y : PV => Value.pointer (some ⟨y.p, 0, none⟩)) t.pl s
    rw [hpa] at h9
    exact h9
  have hw2 : glook (wsV t.ws) o = none := by
    have h9 := glook_map (fun y : ByteArray × Int => Value.agg #[.string y.1, .int .i64 y.2]) t.ws o
    rw [hw] at h9
    exact h9
  have hhl : glook (hsV x.hs) o = (klook x.hs o).map (fun k : Int => Value.int .i64 k) := glook_map (fun k : Int => Value.int .i64 k) x.hs o
  have hm : ModesAt (hsV x.hs) := fun q hq => by obtain ⟨y, -, rfl⟩ := List.mem_map.1 hq; exact ⟨y.2, rfl⟩
  have ht := h.rep.tab
  have hpl := h.rep.pls i _ hx
  have HL := Lib.hid (And.intro h hx)
  obtain ⟨T, P, W, N, pl, ws0, nm⟩ := t
  obtain ⟨p, H, q, hs0, qs⟩ := x
  simp only at ht hpl hpa2 hw2 hhl hm ⊢
  obtain ⟨hp, hq⟩ := hpl
  obtain ⟨ps, hps⟩ : ∃ ps, plV pl = ps := ⟨_, rfl⟩
  obtain ⟨ws, hws⟩ : ∃ ws, wsV ws0 = ws := ⟨_, rfl⟩
  obtain ⟨ns, hns⟩ : ∃ ns, nmV nm = ns := ⟨_, rfl⟩
  obtain ⟨hs, hhs⟩ : ∃ hs, hsV hs0 = hs := ⟨_, rfl⟩
  rw [hps, hws, hns] at ht
  rw [hps] at hpa2
  rw [hws] at hw2
  rw [hhs] at hhl hm hp
  have hh2 : glook hs o = none := by rw [hhl, show klook hs0 o = none from hh]; rfl
  obtain ⟨qa, qn, qc, rfl, hqn⟩ : ∃ qa qn qc, q = .slice qa qn qc ∧ qs.length = qn := by
    rcases hq with ⟨e, e2⟩ | ⟨g, off, c, cur, e, -⟩
    · exact ⟨none, 0, 0, e, by rw [e2]; rfl⟩
    · exact ⟨some ⟨g, off, none⟩, _, c, e, rfl⟩
  have hql : qs.length ≤ 8796093022200 := hqx
  have t0 : ((qn : Int) == 0) = false := by have h9 : qn ≠ 0 := (fun e => hqs (List.eq_nil_of_length_eq_zero (by show qs.length = 0; omega))); simpa using h9
  have hqi : (0 : Int) ≤ (qn : Int) := by omega
  clear hqx
  have hims := isMode_any w m
  rw [him] at hims
  have hob : (o == 0) = false := by simpa using ho
  have c1 : w.cell? ⟨T, 1, none⟩ = some (.map (some W)) := cell_of_row w T 1 _ _ _ ht.blk
  have hl1 := gmap_lookup (P := Try.prog) Try.underlying63 Try.underlying29 (z33 w) ht.wt o
  rw [hw2] at hl1
  change (Instr.lookup 63 (.map (some W)) (.int .u64 o) true).run Try.prog w = .ok (.tuple #[.agg #[.string ⟨#[]⟩, .int .i64 0], .bool false]) w at hl1
  obtain ⟨wA, hwA⟩ : ∃ wA, w.alloc (.cells #[.string ⟨#[]⟩, .int .i64 0] 33) = wA := ⟨_, rfl⟩
  have kA : ∀ k, k < w.heap.size → wA.heap[k]? = w.heap[k]? := fun k hk => by rw [← hwA, heap_alloc_old _ _ hk]
  have sA : wA.heap.size = w.heap.size + 1 := by rw [← hwA, World.size_alloc]
  have htA := ht.keep kA
  have hpA := hp.keep kA
  have c2 : wA.cell? ⟨T, 0, none⟩ = some (.map (some P)) := cell_of_row wA T 0 _ _ _ htA.blk
  have hl2 := gmap_lookup1 (P := Try.prog) Try.underlying62 Try.underlying9 (z67 wA) htA.pl s
  rw [hpa2] at hl2
  change (Instr.lookup 62 (.map (some P)) (.string s) false).run Try.prog wA = .ok (.pointer (some ⟨p, 0, none⟩)) wA at hl2
  obtain ⟨wB, hwB⟩ : ∃ wB, wA.alloc (.cells #[.pointer (some ⟨p, 0, none⟩)] 67) = wB := ⟨_, rfl⟩
  have kB : ∀ k, k < wA.heap.size → wB.heap[k]? = wA.heap[k]? := fun k hk => by rw [← hwB, heap_alloc_old _ _ hk]
  have sB : wB.heap.size = w.heap.size + 2 := by rw [← hwB, World.size_alloc, sA]
  have htB := htA.keep kB
  have hpB := hpA.keep kB
  have nB : wB.heap[w.heap.size + 1]? = some (.cells #[.pointer (some ⟨p, 0, none⟩)] 67 (0, 0)) := by rw [← hwB, ← sA]; exact heap_alloc_new wA _
  have c3 : wB.cell? ⟨w.heap.size + 1, 0, none⟩ = some (.pointer (some ⟨p, 0, none⟩)) := cell_of_row wB _ 0 _ _ _ nB
  have c4 : wB.cell? ⟨p, 0, none⟩ = some (.map (some H)) := cell_of_row wB p 0 _ _ _ hpB.blk
  have c5 : wB.cell? ⟨p, 1, none⟩ = some (.slice qa qn qc) := cell_of_row wB p 1 _ _ _ hpB.blk
  have hl3 := gmap_lookup (P := Try.prog) Try.underlying68 Try.underlying29 (z3 wB) hpB.hl o
  rw [hh2] at hl3
  change (Instr.lookup 68 (.map (some H)) (.int .u64 o) true).run Try.prog wB = .ok (.tuple #[.int .i64 0, .bool false]) wB at hl3
  have HN := Lib.hid nB
  have HPB := Lib.hid hpB
  have HQB := Lib.hid (hq.keep (w' := wB) (fun g hg2 => by obtain ⟨cur, hc⟩ := hq.blk hg2; have h9 := (Array.getElem?_eq_some_iff.1 hc).1; exact (kB g (by omega)).trans (kA g h9)))
  have HQN : Hid (qs.length = qn ∧ qs.length ≤ 8796093022200) := ⟨hqn, hql⟩
  have HBB : Hid (Below w.heap.size w wB) := by
    show Below _ _ _
    rw [← hwB, ← hwA]
    exact below_more (below_more (Below.refl _ _) _) _
  clear hqn hql hq hqs ht hp htA hpA htB hpB kA kB sA sB nB h hx
  subst hwB
  subst hwA
  go_enter Try.func17, Try.ntmps17
  go_wp2_with fail
  refine hims.mono ?_
  rintro e w' ⟨rfl, rfl⟩
  go_upto_region 18 with (fail)
  obtain ⟨w2, hw2e⟩ : ∃ w2 : World, (w'.alloc (.cells #[.string ⟨#[]⟩, .int .i64 0] 33)).alloc (.cells #[.pointer (some ⟨p, 0, none⟩)] 67) = w2 := ⟨_, rfl⟩
  rw [hw2e] at HN HPB HQB HBB ⊢
  clear hw2e c1 c2 c3 c4 c5 hl1 hl2 hl3
  have hb2 : Below w2.heap.size w2 w2 := Below.refl _ _
  have k2 : ∀ k, k < _ → w2.heap[k]? = _ := fun k hk => hb2.block k hk
  have nB2 : w2.heap[w'.heap.size + 1]? = _ := (k2 _ (Array.getElem?_eq_some_iff.1 HN.out).1).trans HN.out
  have hp2 := HPB.out.keep k2
  have hq2' := HQB.out.keep (w' := w2) (fun g hg2 => by obtain ⟨cur, hc⟩ := HQB.out.blk hg2; exact k2 g (Array.getElem?_eq_some_iff.1 hc).1)
  have c6 : w2.cell? ⟨w'.heap.size + 1, 0, none⟩ = some (.pointer (some ⟨p, 0, none⟩)) := cell_of_row w2 _ 0 _ _ _ nB2
  have c7 : w2.cell? ⟨p, 1, none⟩ = some (.slice qa qn qc) := cell_of_row w2 p 1 _ _ _ hp2.blk
  have HP2 := Lib.hid hp2
  have HQ2 := Lib.hid hq2'
  have HN2 := Lib.hid nB2
  have HTL := Lib.hid ((HL.out.1.below HBB.out).below hb2)
  clear hp2 hq2' nB2 k2 hb2
  have hq2 : QAt w2.drew (.slice qa qn qc) qs := HQ2.out
  have hin : Calls Try.prog 33 #[.slice qa qn qc, .int .i64 qn, .slice (some ⟨w2.heap.size, 0, none⟩) 1 1] ((w2.alloc (.cells #[.int .u64 o, .int .i64 m] 77)).drew) (QPostJ w2.drew (.slice qa qn qc) qs qs.length o m) := by
    have h9 := insert_any hq2 HQN.out.2 qs.length (Nat.le_refl _) o m
    rw [HQN.out.1] at h9
    rw [HQN.out.1]
    exact h9
  unfold QPostJ at hin
  have HIN := Lib.hid hin
  have hlt6 : w'.heap.size + 1 < w2.heap.size := (Array.getElem?_eq_some_iff.1 HN2.out).1
  have hlt7 : p < w2.heap.size := (Array.getElem?_eq_some_iff.1 HP2.out.blk).1
  have hnq : ∀ g, qblk (.slice qa qn qc) = some g → w'.heap.size + 1 ≠ g ∧ p ≠ g := fun g hg => by
    obtain ⟨cur, hc⟩ := HQ2.out.blk hg
    exact ⟨cells_ty_ne HN2.out hc (by decide), cells_ty_ne HP2.out.blk hc (by decide)⟩
  have HS : Hid (∀ W : World, (∀ k, k < w2.heap.size → (∀ g, qblk (.slice qa qn qc) = some g → k ≠ g) → W.heap[k]? = w2.heap[k]?) → W.cell? ⟨w'.heap.size + 1, 0, none⟩ = some (.pointer (some ⟨p, 0, none⟩)) ∧ W.cell? ⟨p, 1, none⟩ = some (.slice qa qn qc)) := by
    show ∀ _, _
    intro W hk
    exact ⟨cell_of_row W _ 0 _ _ _ ((hk _ hlt6 (fun g hg => (hnq g hg).1)).trans HN2.out), cell_of_row W p 1 _ _ _ ((hk _ hlt7 (fun g hg => (hnq g hg).2)).trans HP2.out.blk)⟩
  have HFZ : Hid (∀ W : World, (∀ k, k < w2.heap.size → (∀ g, qblk (.slice qa qn qc) = some g → k ≠ g) → W.heap[k]? = w2.heap[k]?) → W.frozen? ⟨p, 1, none⟩ = false) := by
    show ∀ _, _
    intro W hk
    have h9 := (hk _ hlt7 (fun g hg => (hnq g hg).2)).trans HP2.out.blk
    simp [World.frozen?, h9]
  have hS0 : w2.drew.cell? ⟨w'.heap.size + 1, 0, none⟩ = some (.pointer (some ⟨p, 0, none⟩)) ∧ w2.drew.cell? ⟨p, 1, none⟩ = some (.slice qa qn qc) := HS.out w2.drew (fun _ _ _ => rfl)
  have hSa : (w2.alloc (.cells #[.int .u64 o, .int .i64 m] 77)).drew.cell? ⟨w'.heap.size + 1, 0, none⟩ = some (.pointer (some ⟨p, 0, none⟩)) ∧ (w2.alloc (.cells #[.int .u64 o, .int .i64 m] 77)).drew.cell? ⟨p, 1, none⟩ = some (.slice qa qn qc) := HS.out _ (fun k hk _ => heap_alloc_old w2 _ hk)
  clear hin hlt6 hlt7 hnq hq2
  go_upto_region 23 with (fail)
  refine wp_region_U (fun W => W.cell? ⟨w'.heap.size + 1, 0, none⟩ = some (.pointer (some ⟨p, 0, none⟩)) ∧ W.cell? ⟨p, 1, none⟩ = some (.slice qa qn qc)) [13] (by kernel_rfl) ?_
  refine wpAnyU_take (i := 0) [11, 12, 13] rfl (by kernel_rfl) (by kernel_rfl) (by kernel_rfl) (by kernel_rfl) (by kernel_rfl) (by kernel_rfl) (fun _ _ _ h => h) (Or.inl ⟨by rfl, (by intro W hSW; (try dsimp only at hSW); (try go_split_ands); go_simp <;> with_reducible rfl)⟩) hS0 ?_
  try simp only [Act.put, List.setIfInBounds_toArray, List.set_cons_zero, List.set_cons_succ]
  refine wpAnyU_take (i := 1) [2, 3, 4, 10, 11, 12, 13] rfl (by kernel_rfl) (by kernel_rfl) (by kernel_rfl) (by kernel_rfl) (by kernel_rfl) (by kernel_rfl) (fun _ _ _ h => h) (Or.inl ⟨by rfl, (by intro W hSW; (try dsimp only at hSW); (try go_split_ands); go_simp <;> with_reducible rfl)⟩) hS0 ?_
  try simp only [Act.put, List.setIfInBounds_toArray, List.set_cons_zero, List.set_cons_succ]
  refine wpAnyU_take (i := 2) [3, 4, 10, 11, 12, 13] rfl (by kernel_rfl) (by kernel_rfl) (by kernel_rfl) (by kernel_rfl) (by kernel_rfl) (by kernel_rfl) (fun _ _ _ h => h) (Or.inl ⟨by rfl, (by intro W hSW; (try dsimp only at hSW); (try go_split_ands); go_simp <;> with_reducible rfl)⟩) hS0 ?_
  try simp only [Act.put, List.setIfInBounds_toArray, List.set_cons_zero, List.set_cons_succ]
  refine wpAnyU_take (i := 3) [4, 10, 11, 12, 13] rfl (by kernel_rfl) (by kernel_rfl) (by kernel_rfl) (by kernel_rfl) (by kernel_rfl) (by kernel_rfl) (fun _ _ _ h => h) (Or.inl ⟨by rfl, (by intro W hSW; (try dsimp only at hSW); (try go_split_ands); go_simp <;> with_reducible rfl)⟩) hS0 ?_
  try simp only [Act.put, List.setIfInBounds_toArray, List.set_cons_zero, List.set_cons_succ]
  refine wpAnyU_take (i := 4) [10, 11, 12, 13] rfl (by kernel_rfl) (by kernel_rfl) (by kernel_rfl) (by kernel_rfl) (by kernel_rfl) (by kernel_rfl) (fun _ _ _ h => h) (Or.inl ⟨by rfl, (by intro W hSW; (try dsimp only at hSW); (try go_split_ands); go_simp <;> with_reducible rfl)⟩) hS0 ?_
  try simp only [Act.put, List.setIfInBounds_toArray, List.set_cons_zero, List.set_cons_succ]
  refine wpAnyU_take (i := 5) [10, 11, 12, 13] rfl (by kernel_rfl) (by kernel_rfl) (by kernel_rfl) (by kernel_rfl) (by kernel_rfl) (by kernel_rfl) (fun _ _ _ h => h) (Or.inl ⟨by rfl, (by intro W hSW; (try dsimp only at hSW); (try go_split_ands); go_simp <;> with_reducible rfl)⟩) hS0 ?_
  try simp only [Act.put, List.setIfInBounds_toArray, List.set_cons_zero, List.set_cons_succ]
  refine wpAnyU_take (i := 6) [8, 9, 10, 11, 12, 13] rfl (by kernel_rfl) (by kernel_rfl) (by kernel_rfl) (by kernel_rfl) (by kernel_rfl) (by kernel_rfl) (fun _ _ _ h => h) (Or.inl ⟨by rfl, (by intro W hSW; (try dsimp only at hSW); (try go_split_ands); go_simp <;> with_reducible rfl)⟩) hS0 ?_
  try simp only [Act.put, List.setIfInBounds_toArray, List.set_cons_zero, List.set_cons_succ]
  refine wpAnyU_take (i := 7) [8, 9, 10, 11, 12, 13] rfl (by kernel_rfl) (by kernel_rfl) (by kernel_rfl) (by kernel_rfl) (by kernel_rfl) (by kernel_rfl) (fun _ _ _ h => h) (Or.inl ⟨by rfl, (by intro W hSW; (try dsimp only at hSW); (try go_split_ands); go_simp <;> with_reducible rfl)⟩) hS0 ?_
  try simp only [Act.put, List.setIfInBounds_toArray, List.set_cons_zero, List.set_cons_succ]
  refine wpAnyU_take (i := 8) [9, 10, 11, 12, 13] rfl (by kernel_rfl) (by kernel_rfl) (by kernel_rfl) (by kernel_rfl) (by kernel_rfl) (by kernel_rfl) (fun _ _ _ h => h) (Or.inl ⟨by rfl, (by intro W hSW; (try dsimp only at hSW); (try go_split_ands); go_simp <;> with_reducible rfl)⟩) hS0 ?_
  try simp only [Act.put, List.setIfInBounds_toArray, List.set_cons_zero, List.set_cons_succ]
  refine wpAnyU_one (i := 9) (by kernel_rfl) rfl (fun K hK => ?_)
  go_simp
  refine hK.out _ _ (fun _ => hSa) (fun _ => ?_)
  clear hK K
  refine wpAnyU_one (i := 10) (by kernel_rfl) rfl (fun K hK => ?_)
  go_simp
  go_at_call 33
  refine HIN.out.mono ?_
  rintro e w5 ⟨q', rfl, hq5, hqb5, hk5, hs5, ⟨x1, x2, x3⟩, qa', qc', rfl⟩
  have hS5 : w5.cell? ⟨w'.heap.size + 1, 0, none⟩ = some (.pointer (some ⟨p, 0, none⟩)) ∧ w5.cell? ⟨p, 1, none⟩ = some (.slice qa qn qc) := HS.out w5 hk5
  have f5 : w5.frozen? ⟨p, 1, none⟩ = false := HFZ.out w5 hk5
  have H5 := Lib.hid (And.intro hq5 (And.intro hqb5 (And.intro hk5 (And.intro hs5 (And.intro x1 (And.intro x2 x3))))))
  clear hq5 hqb5 hk5 hs5 x1 x2 x3 HIN
  refine hK.out _ _ (fun _ => hS5) (fun _ => ?_)
  clear hK K
  refine wpAnyU_take (i := 11) [12, 13] rfl (by kernel_rfl) (by kernel_rfl) (by kernel_rfl) (by kernel_rfl) (by kernel_rfl) (by kernel_rfl) (fun _ _ _ h => h) (Or.inl ⟨by rfl, (by intro W hSW; (try dsimp only at hSW); (try go_split_ands); go_simp <;> with_reducible rfl)⟩) hS5 ?_
  try simp only [Act.put, List.setIfInBounds_toArray, List.set_cons_zero, List.set_cons_succ]
  refine wpAnyU_take (i := 12) [13] rfl (by kernel_rfl) (by kernel_rfl) (by kernel_rfl) (by kernel_rfl) (by kernel_rfl) (by kernel_rfl) (fun _ _ _ h => h) (Or.inl ⟨by rfl, (by intro W hSW; (try dsimp only at hSW); (try go_split_ands); go_simp <;> with_reducible rfl)⟩) hS5 ?_
  try simp only [Act.put, List.setIfInBounds_toArray, List.set_cons_zero, List.set_cons_succ]
  refine wpAnyU_one (i := 13) (by kernel_rfl) rfl (fun K hK => ?_)
  go_simp
  refine hK.out _ _ (fun h => absurd h (by decide)) (fun _ => ?_)
  clear hK K
  refine wpAnyU_done (by kernel_rfl) ?_ _

  obtain ⟨w6, hw6⟩ : ∃ w6, w5.setCell ⟨p, 1, none⟩ (.slice (some qa') (qs.length + 1) qc') = w6 := ⟨_, rfl⟩
  have h6 : TabS W0 w6 { (⟨T, P, W, N, pl, ws0, nm⟩ : TV) with pl := pl.set i (s, ⟨p, H, .slice (some qa') (qs.length + 1) qc', hs0, qins qs qs.length (o, m)⟩) } := by
    have hTL := HTL.out
    have hb6 : w6.heap[p]? = some (.cells #[.map (some H), .slice (some qa') (qs.length + 1) qc'] 71 (0, 0)) := by
      rw [← hw6]
      have h9 := (H5.out.2.2.1 p (Array.getElem?_eq_some_iff.1 HP2.out.blk).1 (fun g hg => by obtain ⟨cur, hc⟩ := HQ2.out.blk hg; exact cells_ty_ne HP2.out.blk hc (by decide))).trans HP2.out.blk
      exact setCell_blkL h9 _
    have hq6 : QAt w6 (.slice (some qa') (qs.length + 1) qc') (qins qs qs.length (o, m)) := H5.out.1.keep (fun g hg => by
      rw [← hw6]
      obtain ⟨cur, hc⟩ := H5.out.1.blk hg
      refine setCell_heapL _ _ _ _ (fun e9 => ?_)
      have h9 := (H5.out.2.2.1 p (Array.getElem?_eq_some_iff.1 HP2.out.blk).1 (fun g hg => by obtain ⟨cur, hc⟩ := HQ2.out.blk hg; exact cells_ty_ne HP2.out.blk hc (by decide))).trans HP2.out.blk
      exact cells_ty_ne h9 hc (by decide) e9.symm)
    have hk6 : ∀ k, k < w2.heap.size → k ≠ p → (∀ g, qblk (.slice qa qn qc) = some g → k ≠ g) → w6.heap[k]? = w2.heap[k]? := fun k hk hkp hkg => by
      rw [← hw6, setCell_heapL _ _ _ _ hkp]
      exact H5.out.2.2.1 k hk hkg
    have hsz : w2.heap.size ≤ w6.heap.size := by rw [← hw6, setCell_sizeL]; exact H5.out.2.2.2.1
    obtain ⟨l1, l2, l3⟩ := hTL.loP i _ HL.out.2
    refine ⟨hTL.rep.queue HL.out.2 hb6 hq6 H5.out.2.1 hk6, hTL.bl.step hsz (by rw [← hw6]; exact H5.out.2.2.2.2.1) (by rw [← hw6]; exact H5.out.2.2.2.2.2.1) (by rw [← hw6]; exact H5.out.2.2.2.2.2.2) (fun k hk => hk6 k (hTL.bl.lt2 hk) (fun e => l1 (e ▸ hk)) (fun g hg e => l3 g hg (e ▸ hk))), hTL.lo, fun k y hy => ?_, hTL.loN⟩
    rcases set_cases hy with ⟨rfl, rfl, -⟩ | ⟨-, h9⟩
    · exact ⟨l1, l2, fun g hg => (H5.out.2.1 g hg).elim (l3 g) (fun h8 => hTL.bl.nS h8)⟩
    · exact hTL.loP k y h9
  have c8 : w6.cell? ⟨T, 1, none⟩ = some (.map (some W)) := cell_of_row w6 T 1 _ _ _ h6.rep.tab.blk
  obtain ⟨oW, huW, hgW⟩ := gmap_update (P := Try.prog) Try.underlying63 Try.underlying29 h6.rep.tab.wt o (.agg #[.string s, .int .i64 m])
  change (Instr.mapUpdate 63 (.map (some W)) (.int .u64 o) (.agg #[.string s, .int .i64 m])).run Try.prog w6 = _ at huW
  have hgm := gset_map (fun y : ByteArray × Int => Value.agg #[.string y.1, .int .i64 y.2]) ws0 o (s, m)
  have h7 : TabS W0 (setObjW w6 W oW) { (⟨T, P, W, N, pl, ws0, nm⟩ : TV) with pl := pl.set i (s, ⟨p, H, .slice (some qa') (qs.length + 1) qc', hs0, qins qs qs.length (o, m)⟩), ws := kset ws0 o (s, m) } := by
    refine ⟨h6.rep.waits (ws := kset ws0 o (s, m)) ?_ (fun k hk hkW => setObjW_other _ _ _ _ hkW), h6.bl.step (by rw [setObjW_size]; exact Nat.le_refl _) rfl rfl rfl (fun k hk => setObjW_other _ _ _ _ (fun e => h6.lo.2.2.1 (e ▸ hk))), h6.lo, h6.loP, h6.loN⟩
    have h9 := hgW
    unfold wsV at h9
    rw [hgm] at h9
    exact h9
  have H7 := Lib.hid h7
  clear h6 h7 hgW hgm H5 HTL HS HFZ hS0 hSa hS5
  try rw [hw6]
  go_wp2
  go_ret
  exact ⟨rfl, _, H7.out⟩

end Mun
end

section
/- slices.DeleteFunc of an owner's asks out of a queue. -/
set_option maxRecDepth 100000
set_option linter.unusedVariables false
set_option linter.unusedSimpArgs false
namespace Mun
open Go Go.RowKit
open Go.Proofs

theorem wpList_store_at {P : Program} {ops : Array Oper} {rest : List Oper} {o : Oper} {a : Act} {w : World} {Q : Exit → Act → World → Prop} (hgd : o.guard = none) (ty : TypeId) (x y : Operand) (ho : o.op = .store ty x y)
    (g off : Nat) (cells : Array Value) (hx : a.eval x = .pointer (some ⟨g, off, none⟩)) (hy : a.eval y = .agg cells)
    (t : TypeId) (old : Array Value) (hg : w.heap[g]? = some (.cells old t (0, 0))) (hi : (P.info? ty).map (·.size) = some cells.size)
    (hold : off + cells.size ≤ old.size) (h1 : cells.all (·.oneCell') = true)
    (h : wpList P ops Q rest (a.put o.dst undef) (w.setRow g (wrow old off cells.toList))) : wpList P ops Q (o :: rest) a w := by
  refine wpList_plain hgd fun _ hK => ?_
  have hst := run_storeCells_at (P := P) g off t cells.toList 0 old w hg (by simpa using hold) (fun v hv => (Array.all_eq_true_iff_forall_mem.1 h1) v (by simpa using hv))
  have hsv : (storeVar ty ⟨g, off, none⟩ (.agg cells)).run P w = .ok () (w.setRow g (wrow old off cells.toList)) := by
    cases hq : P.info? ty with
    | none => simp [hq] at hi
    | some i =>
      have hs : cells.size = i.size := by simp [hq] at hi; omega
      simp only [Nat.add_zero] at hst
      simp [storeVar, Go.sizeOf, typeInfo, hq, Value.cells, hs, hst, wrow]
  unfold Oper.wp execOp
  simp only [ho, hx, hy, Instr.storeAt, Instr.sureAddr, Sem.run_bind, Sem.run_pure, Result.andThen_ok, hsv]
  exact hK _ _ h

def neO (o : Int) (a : Int × Int) : Bool := a.1 != o

/-- within the loop of DeleteFunc: the first i cells hold what stays of the first j -/
structure DelAt (w : World) (g off : Nat) (cur0 : Array Value) (l : List (Int × Int)) (o : Int) (i j : Nat) (wr : World) (cur : Array Value) : Prop where
  len : ((l.take j).filter (neO o)).length = i
  lt : i < j
  le : j ≤ l.length
  blk : wr.heap[g]? = some (.cells cur 77 (0, 0))
  size : cur.size = cur0.size
  done : ∀ k, k < i * 2 → cur[off + k]? = (acells ((l.take j).filter (neO o)))[k]?
  rest : ∀ k, j * 2 ≤ k → k < l.length * 2 → cur[off + k]? = (acells l)[k]?
  os : wr.os = w.os
  tape : wr.tape = w.tape
  output : wr.output = w.output
  grow : w.heap.size ≤ wr.heap.size
  keep : ∀ k, k < w.heap.size → k ≠ g → wr.heap[k]? = w.heap[k]?

theorem DelAt.below {w wr w' : World} {g off : Nat} {cur0 cur : Array Value} {l : List (Int × Int)} {o : Int} {i j : Nat} (h : DelAt w g off cur0 l o i j wr cur) (hb : Below wr.heap.size wr w') : DelAt w g off cur0 l o i j w' cur :=
  ⟨h.len, h.lt, h.le, (hb.block g (lt_of_block h.blk)).trans h.blk, h.size, h.done, h.rest, hb.os.trans h.os, hb.tape.trans h.tape, hb.output.trans h.output, Nat.le_trans h.grow hb.size, fun k hk hn => (hb.block k (Nat.lt_of_lt_of_le hk h.grow)).trans (h.keep k hk hn)⟩

theorem filter_take_succ (l : List (Int × Int)) (f : Int × Int → Bool) (j : Nat) (hj : j < l.length) : (l.take (j + 1)).filter f = (l.take j).filter f ++ (if f l[j] then [l[j]] else []) := by
  rw [List.take_add_one, List.getElem?_eq_getElem hj, List.filter_append]
  simp [List.filter_cons]

theorem DelAt.skip {w wr : World} {g off : Nat} {cur0 cur : Array Value} {l : List (Int × Int)} {o : Int} {i j : Nat} (h : DelAt w g off cur0 l o i j wr cur) (hj : j < l.length) (hn : neO o l[j] = false) : DelAt w g off cur0 l o i (j + 1) wr cur := by
  have hf := filter_take_succ l (neO o) j hj
  rw [hn] at hf
  simp only [Bool.false_eq_true, if_false, List.append_nil] at hf
  exact ⟨by rw [hf]; exact h.len, by have := h.lt; omega, hj, h.blk, h.size, by rw [hf]; exact h.done, fun k h1 h2 => h.rest k (by omega) h2, h.os, h.tape, h.output, h.grow, h.keep⟩

theorem DelAt.move {w wr : World} {g off : Nat} {cur0 cur : Array Value} {l : List (Int × Int)} {o : Int} {i j : Nat} (h : DelAt w g off cur0 l o i j wr cur) (hj : j < l.length) (hn : neO o l[j] = true) (hfit : off + l.length * 2 ≤ cur0.size) :
    DelAt w g off cur0 l o (i + 1) (j + 1) (wr.setRow g (wrow cur (off + i * 2) [.int .u64 l[j].1, .int .i64 l[j].2])) (wrow cur (off + i * 2) [.int .u64 l[j].1, .int .i64 l[j].2]) := by
  have hf := filter_take_succ l (neO o) j hj
  rw [hn] at hf
  simp only [if_true] at hf
  have h1 := h.lt
  have h2 := h.size
  have hal : (acells ((l.take j).filter (neO o))).length = i * 2 := by rw [acells_length, h.len]
  have hw : off + i * 2 + [Value.int .u64 l[j].1, .int .i64 l[j].2].length ≤ cur.size := by simp; omega
  refine ⟨by rw [hf, List.length_append, h.len]; rfl, by omega, hj, setRow_heap _ g cur _ _ _ h.blk, by rw [wrow_size _ _ _ hw, h2], fun k hk => ?_, fun k h3 h4 => ?_, h.os, h.tape, h.output, ?_, fun k hk hn => ?_⟩
  · rw [wrow_get _ _ _ hw, hf, acells_append]
    by_cases hk2 : k < i * 2
    · rw [if_neg (by omega), h.done k hk2, List.getElem?_append_left (by omega)]
    · rw [if_pos (by simp; omega), List.getElem?_append_right (by omega), hal]
      have : off + k - (off + i * 2) = k - i * 2 := by omega
      rw [this]
      rfl
  · rw [wrow_get _ _ _ hw, if_neg (by simp; omega), h.rest k (by omega) h4]
  · show w.heap.size ≤ (wr.setRow g _).heap.size
    simp only [World.setRow, Array.size_modify]
    exact h.grow
  · rw [setRow_otherL _ _ _ _ hn]; exact h.keep k hk hn

def DelPost (w : World) (q : Value) (l : List (Int × Int)) (o : Int) (e : Ending) (w' : World) : Prop :=
  ∃ q', e = .returned q' ∧ QAt w' q' (l.filter (neO o)) ∧ (∀ g, qblk q' = some g → qblk q = some g) ∧ (∀ k, k < w.heap.size → (∀ g, qblk q = some g → k ≠ g) → w'.heap[k]? = w.heap[k]?) ∧ w.heap.size ≤ w'.heap.size ∧
    (w'.os = w.os ∧ w'.tape = w.tape ∧ w'.output = w.output) ∧ ∃ a n c, q' = .slice a n c

theorem clear_asks (w : World) (ty : TypeId) (g o m c : Nat) (cur : Array Value) (hb : w.heap[g]? = some (.cells cur 77 (0, 0))) (hm : 0 < m) (hfit : o + m * 2 ≤ cur.size) :
    ∃ cs, (Builtin.clear_ #[69] ty #[.slice (some ⟨g, o, none⟩) m c]).run Try.prog w = .ok (.tuple #[]) (w.setRow g cs) ∧ cs.size = cur.size ∧ ∀ k, k < o → cs[k]? = cur[k]? := by
  obtain ⟨i, hi, hz, hs1, hs2⟩ := info_of info_ask
  have hzv : (zeroValue 77).run Try.prog w = .ok (.agg #[.int .u64 0, .int .i64 0]) w := by simp [zeroValue, typeInfo, hi, hz]
  obtain ⟨zs, hzs⟩ : ∃ zs, Builtin.zeroCells (Value.agg #[.int .u64 0, .int .i64 0]).cells m = zs := ⟨_, rfl⟩
  have hzl : zs.toList.length = m * 2 := by rw [← hzs, Array.length_toList, size_zeroCells]; rfl
  have hst := run_storeCells_at (P := Try.prog) g o 77 zs.toList 0 cur w hb (by rw [hzl]; omega) (fun v hv => by
    rw [← hzs] at hv
    simp only [Builtin.zeroCells, Value.cells, Array.toList_map, List.mem_map] at hv
    obtain ⟨k, -, rfl⟩ := hv
    have h2 : k % 2 = 0 ∨ k % 2 = 1 := by omega
    show (#[Value.int .u64 0, .int .i64 0][k % 2]!).oneCell' = true
    rcases h2 with h2 | h2 <;> rw [h2] <;> rfl)
  simp only [Nat.add_zero] at hst
  refine ⟨wrow cur o zs.toList, ?_, wrow_size _ _ _ (by rw [hzl]; omega), fun k hk => by rw [wrow_get _ _ _ (by rw [hzl]; omega), if_neg (by omega)]⟩
  cases m with
  | zero => omega
  | succ m => simp [Builtin.clear_, run_underlying (P := Try.prog) Try.underlying69, hzv, hzs, hst, wrow]

theorem idxI_find {l : List (Int × Int)} {o : Int} (h : l.findIdx (fun a => a.1 == o) < l.length) : ∀ w g off cur0 wr, wr.heap[g]? = some (.cells cur0 77 (0, 0)) → (cur0.toList.drop off).take (l.length * 2) = acells l → Below w.heap.size w wr →
    DelAt w g off cur0 l o (l.findIdx (fun a => a.1 == o)) (l.findIdx (fun a => a.1 == o) + 1) wr cur0 := by
  intro w g off cur0 wr hb hrd hbl
  obtain ⟨i, hi⟩ : ∃ i, l.findIdx (fun a => a.1 == o) = i := ⟨_, rfl⟩
  rw [hi] at h ⊢
  have hno : ∀ k (hk : k < i), neO o l[k] = true := fun k hk => by
    have h9 := List.not_of_lt_findIdx (p := fun a : Int × Int => a.1 == o) (xs := l) (i := k) (by rw [hi]; exact hk)
    unfold neO
    simpa using h9
  have hyes : neO o l[i] = false := by
    have h9 := List.findIdx_getElem (p := fun a : Int × Int => a.1 == o) (xs := l) (w := by rw [hi]; exact h)
    unfold neO
    simp only [hi] at h9
    simpa using h9
  have hall : (l.take i).filter (neO o) = l.take i := by
    apply List.filter_eq_self.2
    intro a ha
    obtain ⟨k, hk, rfl⟩ := List.getElem_of_mem ha
    rw [List.getElem_take]
    exact hno k (by rw [List.length_take] at hk; omega)
  have hf : (l.take (i + 1)).filter (neO o) = l.take i := by rw [filter_take_succ l _ i h, hyes, hall]; simp
  have hget : ∀ k, k < l.length * 2 → cur0[off + k]? = (acells l)[k]? := fun k hk => by
    rw [← hrd, List.getElem?_take, if_pos hk, List.getElem?_drop, Array.getElem?_toList]
  refine ⟨by rw [hf, List.length_take]; omega, by omega, h, hb, rfl, fun k hk => ?_, fun k h1 h2 => hget k h2, hbl.os, hbl.tape, hbl.output, hbl.size, fun k hk _ => hbl.block k hk⟩
  rw [hf, hget k (by omega), ← acells_take, List.getElem?_take, if_pos hk]

set_option maxHeartbeats 4000000 in
theorem deleteFunc_any {w : World} {q : Value} {l : List (Int × Int)} (h : QAt w q l) (hn : l.length ≤ 8796093022200) (b : Nat) (o : Int) (hb : w.cell? ⟨b, 0, none⟩ = some (.int .u64 o)) (hbq : ∀ g, qblk q = some g → b ≠ g) :
    Calls Try.prog 38 #[q, .func (.func 39) #[] #[.pointer (some ⟨b, 0, none⟩)]] w (DelPost w q l o) := by
  have hbl := World.block_lt_of_cell? w _ hb
  have hix := indexFunc_owner h hn b (fun u => u == o) (fun W u m hW => isOwner W b u m o ((World.cell?_of_block (hW.block b hbl)).trans hb))
  by_cases hi : l.findIdx (fun a => a.1 == o) < l.length
  · -- one is there
    rcases h with ⟨rfl, rfl⟩ | ⟨g, off, c, cur, rfl, hg, hlc, hcm, hfit, hrd⟩
    · simp at hi
    · obtain ⟨i, hii⟩ : ∃ i, l.findIdx (fun a => a.1 == o) = i := ⟨_, rfl⟩
      obtain ⟨n, hnn⟩ : ∃ n, l.length = n := ⟨_, rfl⟩
      have hix2 : idxI l (fun u => u == o) = (i : Int) := by unfold idxI; rw [if_pos hi, hii]
      rw [hix2] at hix
      have hst := fun wr h1 h2 => idxI_find (o := o) hi w g off cur wr h1 hrd h2
      rw [hii] at hst hi
      rw [hnn] at hi hix ⊢
      have hbg : b ≠ g := hbq g rfl
      have HIX := Lib.hid hix
      have HST := Lib.hid hst
      have HQ := Lib.hid (And.intro hg (And.intro hlc (And.intro hcm (And.intro hfit (And.intro hnn (And.intro hn (And.intro hbl hbg)))))))
      have HB := Lib.hid hb
      have hi9 : (i : Int) < 8796093022200 := by omega
      have hi0 : (0 : Int) ≤ (i : Int) := by omega
      have hine : ((i : Int) == -1) = false := by simp
      clear hix hst hg hlc hcm hfit hnn hrd hbl hix2 hbq hb hbg hii
      go_enter Try.func38, Try.ntmps38
      go_wp2_with fail
      refine HIX.out.mono ?_
      rintro e w1 ⟨rfl, hb1⟩
      have hd := HST.out w1 ((hb1.block g (lt_of_block HQ.out.1)).trans HQ.out.1) hb1
      have HD := Lib.hid hd
      have HI := Lib.hid hi
      clear hd hb1 HIX hi
      go_wp2_with fail
      go_loopw [5, 6] (fun iv jv wr => ∃ (i j : Nat) (cur' : Array Value), iv = .int .i64 i ∧ jv = .int .i64 j ∧ DelAt w g off cur l o i j wr cur') (fun _ jv _ => n - (Go.RowKit.intOf jv).toNat)
      case atStart => exact ⟨i, i + 1, cur, rfl, by go_num, HD.out⟩
      case round =>
        clear HD HI
        obtain ⟨i, j, cur', rfl, rfl, hd⟩ := hrel
        by_cases hj : j < n
        · have hjl : j < l.length := by rw [HQ.out.2.2.2.2.1]; exact hj
          obtain ⟨y, hy⟩ : ∃ y, l[j] = y := ⟨_, rfl⟩
          obtain ⟨a0, a1⟩ := acells_get l j hjl
          rw [hy] at a0 a1
          have c0 : wr.cell? ⟨g, off + j * 2, none⟩ = some (.int .u64 y.1) := by rw [cell_of_row _ _ _ _ _ _ hd.blk, hd.rest _ (by omega) (by omega)]; exact a0
          have c1 : wr.cell? ⟨g, off + j * 2 + 1, none⟩ = some (.int .i64 y.2) := by rw [cell_of_row _ _ _ _ _ _ hd.blk, Nat.add_assoc, hd.rest _ (by omega) (by omega)]; exact a1
          obtain ⟨w2, hw2⟩ : ∃ w2, wr.alloc (.cells #[.int .u64 y.1, .int .i64 y.2] 77) = w2 := ⟨_, rfl⟩
          have hb2 : Below wr.heap.size wr w2 := by rw [← hw2]; exact (Below.refl _ _).alloc (Nat.le_refl _) _
          have n2 : w2.heap[wr.heap.size]? = some (.cells #[.int .u64 y.1, .int .i64 y.2] 77 (0, 0)) := by rw [← hw2]; exact heap_alloc_new wr _
          have e0 : w2.cell? ⟨wr.heap.size, 0, none⟩ = some (.int .u64 y.1) := cell_of_row w2 _ 0 _ _ _ n2
          have e1 : w2.cell? ⟨wr.heap.size, 1, none⟩ = some (.int .i64 y.2) := cell_of_row w2 _ 1 _ _ _ n2
          have hbb : w2.cell? ⟨b, 0, none⟩ = some (.int .u64 o) := by
            have hbl := HQ.out.2.2.2.2.2.2.1
            have hk1 : w2.cell? ⟨b, 0, none⟩ = wr.cell? ⟨b, 0, none⟩ := World.cell?_of_block (hb2.block b (Nat.lt_of_lt_of_le hbl hd.grow))
            have hk2 : wr.cell? ⟨b, 0, none⟩ = w.cell? ⟨b, 0, none⟩ := World.cell?_of_block (hd.keep b hbl HQ.out.2.2.2.2.2.2.2)
            rw [hk1, hk2]; exact HB.out
          have hcl := isOwner w2 b y.1 y.2 o hbb
          obtain ⟨r, hr⟩ : ∃ r, (y.1 == o) = r := ⟨_, rfl⟩
          rw [hr] at hcl
          have hne : neO o l[j] = !r := by rw [hy, ← hr]; rfl
          have HCL := Lib.hid hcl
          have HD := Lib.hid (And.intro hd (And.intro hjl (And.intro hb2 (And.intro n2 (And.intro hne hy)))))
          have hji : (j : Int) < (n : Int) := by omega
          have hj0 : (0 : Int) ≤ (j : Int) := by omega
          have hj9 : (j : Int) < 8796093022200 := by have h9 := HQ.out.2.2.2.2.2.1; have h8 := HQ.out.2.2.2.2.1; omega
          have hil : i < j := hd.lt
          have hi0' : (0 : Int) ≤ (i : Int) := by omega
          have hi9' : (i : Int) < 8796093022200 := by omega
          have hin : (i : Int) < (n : Int) := by omega
          obtain ⟨sz, hsz⟩ : ∃ sz, wr.heap.size = sz := ⟨_, rfl⟩
          rw [hsz] at e0 e1
          clear hcl hd hy a0 a1 hb2 n2 hbb hr hne hj hil
          cases r with
          | true =>
            go_wp2_with fail
            refine HCL.out.mono ?_
            rintro e w3 ⟨rfl, hb3⟩
            have hfin := ((HD.out.1.below HD.out.2.2.1).below hb3).skip HD.out.2.1 (by rw [HD.out.2.2.2.2.1]; rfl)
            have HF := Lib.hid hfin
            clear hfin hb3
            go_wp2
            go_roundw
            case rel => exact ⟨i, j + 1, cur', rfl, by go_num, HF.out⟩
            case measure => simp [Go.RowKit.intOf]; omega
          | false =>
            go_wp2_with fail
            refine HCL.out.mono ?_
            rintro e w3 ⟨rfl, hb3⟩
            have hd3 := (HD.out.1.below HD.out.2.2.1).below hb3
            have n3 : w3.heap[sz]? = some (.cells #[.int .u64 y.1, .int .i64 y.2] 77 (0, 0)) := by rw [← hsz]; exact (hb3.block _ (lt_of_block HD.out.2.2.2.1)).trans HD.out.2.2.2.1
            have g0 : w3.cell? ⟨sz, 0, none⟩ = some (.int .u64 y.1) := cell_of_row w3 _ 0 _ _ _ n3
            have g1 : w3.cell? ⟨sz, 1, none⟩ = some (.int .i64 y.2) := cell_of_row w3 _ 1 _ _ _ n3
            have hmv := hd3.move HD.out.2.1 (by rw [HD.out.2.2.2.2.1]; rfl) (by have h9 := HQ.out.2.2.2.1; have h8 := HQ.out.2.1; omega)
            rw [HD.out.2.2.2.2.2] at hmv
            have hinf : (Try.prog.info? 77).map (·.size) = some 2 := by kernel_rfl
            have hfit3 : off + i * 2 + 2 ≤ cur'.size := by
              have h9 := HQ.out.2.2.2.1; have h8 := HQ.out.2.1; have h7 := hd3.size; have h6 := hd3.lt; have h5 := hd3.le; omega
            have HST3 := Lib.hid (And.intro hd3.blk (And.intro hinf hfit3))
            have HF := Lib.hid hmv
            clear hd3 n3 hmv hinf hfit3 hb3
            go_wp2_with (refine wpList_store_at rfl _ _ _ rfl g (off + i * 2) #[.int .u64 y.1, .int .i64 y.2] rfl rfl _ _ HST3.out.1 HST3.out.2.1 HST3.out.2.2 (by simp [Value.oneCell']) ?_)
            go_roundw
            case rel => exact ⟨i + 1, j + 1, _, by go_num, by go_num, HF.out⟩
            case measure => simp [Go.RowKit.intOf]; omega
        · obtain rfl : j = n := by have h9 := hd.le; have h8 := HQ.out.2.2.2.2.1; omega
          have hil : i < j := hd.lt
          have hjj := HQ.out.2.2.2.2.1
          have hfull : (l.take j).filter (neO o) = l.filter (neO o) := by rw [List.take_of_length_le (by omega)]
          obtain ⟨cs, hclr, hcs, hck⟩ := clear_asks wr 3 g (off + i * 2) (j - i) (c - i) cur' hd.blk (by omega) (by have h9 := HQ.out.2.2.2.1; have h8 := HQ.out.2.1; have h7 := hd.size; omega)
          have hclr2 : ∀ ty, (Builtin.clear_ #[69] ty #[.slice (some ⟨g, off + i * 2, none⟩) (j - i) (c - i)]).run Try.prog wr = .ok (.tuple #[]) (wr.setRow g cs) := fun ty => hclr
          have hci : ¬ (c = i) := by have h8 := HQ.out.2.1; omega
          have hs0 : ∀ W, (Instr.sliceAt 69 (.slice (some ⟨g, off, none⟩) j c) (some (.int .i64 i)) none none).run Try.prog W = .ok (.slice (some ⟨g, off + i * 2, none⟩) (j - i) (c - i)) W := fun W => by
            rw [slice_asks_l _ j c i W _ rfl (by omega) (by have h8 := HQ.out.2.1; omega)]; simp [sliced, hci, Addr.add]
          have hs1 : ∀ W, (Instr.sliceAt 69 (.slice (some ⟨g, off, none⟩) j c) none (some (.int .i64 (i : Int))) none).run Try.prog W = .ok (.slice (some ⟨g, off, none⟩) i c) W := fun W => slice_asks_h g off j c i W _ rfl (by have h8 := HQ.out.2.1; omega)
          have hpost : DelPost w (.slice (some ⟨g, off, none⟩) j c) l o (.returned (.slice (some ⟨g, off, none⟩) i c)) (wr.setRow g cs) := by
            refine ⟨_, rfl, .inr ⟨g, off, c, cs, by rw [← hfull, hd.len], setRow_heap _ g cur' cs _ _ hd.blk, by rw [← hfull, hd.len]; have h8 := HQ.out.2.1; omega, HQ.out.2.2.1, by rw [hcs, hd.size]; exact HQ.out.2.2.2.1, ?_⟩, fun g2 hg2 => hg2, fun k hk hkg => ?_, ?_, ⟨hd.os, hd.tape, hd.output⟩, _, _, _, rfl⟩
            · apply List.ext_getElem?
              intro k
              rw [← hfull, hd.len]
              have hal : (acells ((l.take j).filter (neO o))).length = i * 2 := by rw [acells_length, hd.len]
              by_cases hk : k < i * 2
              · rw [List.getElem?_take, if_pos hk, List.getElem?_drop, Array.getElem?_toList, hck _ (by omega), hd.done k hk]
              · rw [List.getElem?_eq_none (by rw [List.length_take]; omega), List.getElem?_eq_none (by omega)]
            · rw [setRow_otherL _ _ _ _ (hkg g rfl)]; exact hd.keep k hk (hkg g rfl)
            · show w.heap.size ≤ (wr.setRow g cs).heap.size
              simp only [World.setRow, Array.size_modify]
              exact hd.grow
          have HP := Lib.hid hpost
          have hjd : ¬ ((j : Int) < (j : Int)) := by omega
          have hi0' : (0 : Int) ≤ (i : Int) := by omega
          clear hd hfull hclr hcs hck hci hpost hjj
          go_wp2
          go_ret
          exact HP.out
  · -- none is there
    have hix2 : idxI l (fun u => u == o) = -1 := by unfold idxI; rw [if_neg hi]
    have hfl : l.filter (neO o) = l := by
      apply List.filter_eq_self.2
      intro a ha
      have h9 : ¬ ∃ x ∈ l, (x.1 == o) = true := fun h9 => hi (List.findIdx_lt_length.2 h9)
      unfold neO
      simp only [not_exists, not_and, Bool.not_eq_true] at h9
      have := h9 a ha
      simpa using this
    rw [hix2] at hix
    obtain ⟨qa, qn, qc, rfl⟩ : ∃ qa qn qc, q = .slice qa qn qc := by
      rcases h with ⟨e, e2⟩ | ⟨g, off, c, cur, e, -⟩
      · exact ⟨none, 0, 0, e⟩
      · exact ⟨some ⟨g, off, none⟩, _, c, e⟩
    have HIX := Lib.hid hix
    have HQ := Lib.hid h
    clear hix h hn hb hbl hi hix2
    go_enter Try.func38, Try.ntmps38
    go_wp2_with fail
    refine HIX.out.mono ?_
    rintro e w2 ⟨rfl, hb2⟩
    go_wp2
    go_ret
    exact ⟨_, rfl, by rw [hfl]; exact HQ.out.keep (fun g hg => by obtain ⟨cur, hc⟩ := HQ.out.blk hg; exact hb2.block g (lt_of_block hc)), fun g hg => hg, fun k hk _ => hb2.block k hk, hb2.size, ⟨hb2.os, hb2.tape, hb2.output⟩, _, _, _, rfl⟩
end Mun
end

section
/- Free's own row of owners; what it pops, in plain words. -/
set_option maxRecDepth 100000
set_option linter.unusedVariables false
set_option linter.unusedSimpArgs false
namespace Mun
open Go Go.RowKit
open Go.Proofs

/-- those at the head of a queue that go together with all holders, one by one: the holders behind, the queue behind, the popped ones -/
def popQ : List (Int × Int) → List (Int × Int) → List (Int × Int) × List (Int × Int) × List (Int × Int)
  | hs, [] => (hs, [], [])
  | hs, a :: qs => if goesP (hsV hs) a.1 a.2 = true then ((popQ (kset hs a.1 a.2) qs).1, (popQ (kset hs a.1 a.2) qs).2.1, a :: (popQ (kset hs a.1 a.2) qs).2.2) else (hs, a :: qs, [])
/-- the names of owners, behind pops -/
def nmPop (s : ByteArray) : List (Int × Int) → (Int → Option (List ByteArray)) → Int → Option (List ByteArray)
  | [], f => f
  | a :: l, f => nmPop s l (fun u => if u = a.1 then some (sadd ((f a.1).getD []) s) else f u)
def nmGet (nm : List (Int × (Nat × List ByteArray))) (u : Int) : Option (List ByteArray) := (klook nm u).map (·.2)
def wsPop (l : List (Int × Int)) (ws : List (Int × (ByteArray × Int))) : List (Int × (ByteArray × Int)) := l.foldl (fun ws a => kdel ws a.1) ws
theorem nmPop_snoc (s : ByteArray) (a : Int × Int) : ∀ (l : List (Int × Int)) (f : Int → Option (List ByteArray)), nmPop s (l ++ [a]) f = fun u => if u = a.1 then some (sadd ((nmPop s l f a.1).getD []) s) else nmPop s l f u
  | [], f => rfl
  | b :: l, f => by simp only [List.cons_append, nmPop]; exact nmPop_snoc s a l _
theorem wsPop_snoc (l : List (Int × Int)) (a : Int × Int) (ws : List (Int × (ByteArray × Int))) : wsPop (l ++ [a]) ws = kdel (wsPop l ws) a.1 := by simp [wsPop]

def slen : Value → Nat
  | .slice _ n _ => n
  | _ => 0
def ov (l : List (Int × Int)) : List Value := l.map fun a => Value.int .u64 a.1
theorem ov_snoc (l : List (Int × Int)) (a : Int × Int) : ov (l ++ [a]) = ov l ++ [.int .u64 a.1] := by simp [ov]

theorem info_u64L : (Try.prog.info? 29).map (fun i => (i.zero, i.size, i.bytes)) = some (some (.int .u64 0), 1, 8) := by kernel_rfl

/-- an owner more -/
theorem push_o {w : World} {B : Nat} {ty : TypeId} {v : Value} {l : List (Int × Int)} (a : Int × Int) (h : w.ownsRow B 29 1 v l.length (ov l)) (hB : B ≤ w.heap.size) (hl : l.length < 8796093022200) :
    ∃ R cp w', (Builtin.append_ #[36, 36] ty #[v, .slice (some ⟨w.heap.size, 0, none⟩) 1 1]).run Try.prog (w.alloc (.cells #[.int .u64 a.1] 29)) = .ok (.slice (some ⟨R, 0, none⟩) (l.length + 1) cp) w' ∧
      w'.ownsRow B 29 1 (.slice (some ⟨R, 0, none⟩) (l.length + 1) cp) (l ++ [a]).length (ov (l ++ [a])) ∧ w.heap.size ≤ w'.heap.size ∧ w'.os = w.os ∧ w'.tape = w.tape ∧ w'.output = w.output ∧ ∀ k, k < w.heap.size → v.ownBlock ≠ some k → w'.heap[k]? = w.heap[k]? := by
  obtain ⟨i, hi, hz, h1, h2⟩ := info_of info_u64L
  have hsrc : RdV (fun _ => False) (w.alloc (.cells #[.int .u64 a.1] 29)) 1 (.slice (some ⟨w.heap.size, 0, none⟩) 1 1) 1 [Value.int .u64 a.1] :=
    ⟨rfl, _, _, rfl, Nat.le_refl _, by unfold maxLen; omega, by simp, fun _ => ⟨w.heap.size, 0, _, _, (0, 0), rfl, fun h => h, heap_alloc_new w _, by simp⟩⟩
  obtain ⟨v', w', hr, ho, hg, hob, hnil⟩ := run_append_rd (P := Try.prog) (base := B) (ty := ty) Try.underlying36 hi hz h1 h2 rfl (by decide) (World.ownsRow.alloc h _) hsrc (by intro u hu; simp only [List.mem_cons, List.not_mem_nil, or_false] at hu; subst hu; rfl) (by omega) (by decide) (by simp; omega)
  rcases ho.2 with ⟨rfl, h0⟩ | ⟨R, cp, cur, rfl, hb, hR, hrest⟩
  · exact absurd (hnil.1 rfl).2 (by omega)
  · refine ⟨R, cp, w', hr, ?_, ?_⟩
    · rw [ov_snoc, List.length_append]; exact ho
    · obtain ⟨g1, g2, g3, g4, g5⟩ := hg
      refine ⟨by have h9 := g4; rw [World.size_alloc] at h9; omega, g1, g2, g3, fun k hk hne => ?_⟩
      rw [g5 k (by rw [World.size_alloc]; omega) (Ne.symm hne), heap_alloc_old _ _ hk]

/-- the table, where a row of numbers alone has turned -/
theorem TabR.keepU {w w' : World} {t : TV} (h : TabR w t) (hk : ∀ k, k < w.heap.size → (∀ cs fr, w.heap[k]? ≠ some (.cells cs 29 fr)) → w'.heap[k]? = w.heap[k]?) : TabR w' t := by
  have hc : ∀ {y : Nat} {cs : Array Value} {ty : TypeId} {fr : Nat × Nat}, ty ≠ 29 → w.heap[y]? = some (.cells cs ty fr) → w'.heap[y]? = w.heap[y]? := fun hne hy => hk _ (Array.getElem?_eq_some_iff.1 hy).1 (fun cs fr e => by
    rw [hy] at e
    injection e with e
    injection e with _ e _
    exact hne e)
  have hm : ∀ {α : Type} [DecidableEq α] [KeyT α] {M : Nat} {es : List (α × Value)}, GMap w M es → GMap w' M es := fun hM => hM.keep (hk _ hM.lt (fun cs fr e => cells_ne_map hM e rfl))
  exact ⟨⟨(hc (by decide) h.tab.blk).trans h.tab.blk, hm h.tab.pl, hm h.tab.wt, hm h.tab.nm⟩,
    fun i x hx => ⟨⟨(hc (by decide) (h.pls i x hx).1.blk).trans (h.pls i x hx).1.blk, hm (h.pls i x hx).1.hl⟩, (h.pls i x hx).2.keep (fun g hg => by obtain ⟨cur, hq⟩ := (h.pls i x hx).2.blk hg; exact hc (by decide) hq)⟩,
    fun i y hy => hm (h.nms i y hy), h.d0, h.dH, h.dM, h.dHH, h.dMM, h.dHM⟩

theorem rowU_keep {w w' : World} {base : Nat} {e : TypeId} {size n : Nat} {v : Value} {xs : List Value} (h : w.ownsRow base e size v n xs) (hk : ∀ k, v.ownBlock = some k → w'.heap[k]? = w.heap[k]?) : w'.ownsRow base e size v n xs := by
  refine ⟨h.1, ?_⟩
  rcases h.2 with hn | ⟨g, cap, cur, rfl, hbg, hg, rest⟩
  · exact .inl hn
  · exact .inr ⟨g, cap, cur, rfl, hbg, by rw [hk g rfl]; exact hg, rest⟩
theorem rowU_blk {w : World} {base : Nat} {e : TypeId} {size n k : Nat} {v : Value} {xs : List Value} (h : w.ownsRow base e size v n xs) (hk : v.ownBlock = some k) : ∃ cur, w.heap[k]? = some (.cells cur e (0, 0)) := by
  rcases h.2 with ⟨rfl, _⟩ | ⟨g, cap, cur, rfl, hbg, hg, rest⟩
  · simp [Value.ownBlock] at hk
  · simp only [Value.ownBlock, Option.some.injEq] at hk
    subst hk
    exact ⟨cur, hg⟩

/-- a row of numbers of the law's own: it lies at no block of a table -/
theorem row_u {w : World} {B k n : Nat} {v : Value} {xs : List Value} (h : w.ownsRow B 29 1 v n xs) (hk : v.ownBlock = some k) : ∃ cs, w.heap[k]? = some (.cells cs 29 (0, 0)) := rowU_blk h hk

theorem TabL.rowTurn {W0 w w' : World} {t : TV} (h : TabL W0 w t) {v : Value} {n : Nat} {xs : List Value} (hv : w.ownsRow W0.heap.size 29 1 v n xs) (h1 : w.heap.size ≤ w'.heap.size) (h2 : w'.os = w.os) (h3 : w'.tape = w.tape) (h4 : w'.output = w.output)
    (h5 : ∀ k, k < w.heap.size → v.ownBlock ≠ some k → w'.heap[k]? = w.heap[k]?) : TabL W0 w' t := by
  refine ⟨h.rep.keepU (fun k hk hne => h5 k hk (fun e => ?_)), ⟨h2.trans h.bl.os, h3.trans h.bl.tape, h4.trans h.bl.output, Nat.le_trans h.bl.size h1, fun k hk => ?_⟩, h.lo, h.loP, h.loN⟩
  · obtain ⟨cs, hc⟩ := row_u hv e
    exact hne cs _ hc
  · rw [h5 k (by have := h.bl.size; omega) (fun e => by have := (hv.lt k e).1; omega), h.bl.block k hk]

/-- what turns a table's own blocks leaves a row of numbers -/
theorem rowKeep {w w' : World} {B n k : Nat} {v : Value} {xs : List Value} (h : w.ownsRow B 29 1 v n xs) (ht : Turn1 w w' k) (hne : ∀ cs, w.heap[k]? ≠ some (.cells cs 29 (0, 0))) : w'.ownsRow B 29 1 v n xs :=
  rowU_keep h (fun j e => ht.2.2.2.2 j (fun e2 => by
    subst e2
    obtain ⟨cs, hc⟩ := row_u h e
    exact hne cs hc))
end Mun
end

section
/- hold, with what it leaves: each block that is no map. -/
set_option maxRecDepth 100000
set_option linter.unusedVariables false
set_option linter.unusedSimpArgs false
namespace Mun
open Go Go.RowKit
open Go.Proofs

theorem hold_fr {W0 w : World} {t : TV} (h : TabL W0 w t) {i : Nat} {x : ByteArray × PV} (hx : t.pl[i]? = some x) (o m : Int) :
    Calls Try.prog 30 #[.pointer (some ⟨t.T, 0, none⟩), .pointer (some ⟨x.2.p, 0, none⟩), .int .u64 o, .string x.1, .int .i64 m] w fun e w' => e = .returned (.tuple #[]) ∧
      ∃ nm, TabL W0 w' (held1 t i x o m nm) ∧ (∀ o2, (klook nm o2).map (·.2) = if o2 = o then some (sadd (((klook t.nm o).map (·.2)).getD []) x.1) else (klook t.nm o2).map (·.2)) ∧ ∀ (k : Nat) (cs : Array Value) (ty : TypeId) (fr : Nat × Nat), w.heap[k]? = some (Obj.cells cs ty fr) → w'.heap[k]? = some (Obj.cells cs ty fr) := by
  obtain ⟨hp, hQ⟩ := h.rep.pls i x hx
  obtain ⟨d1, d2, d3⟩ := h.rep.dH i x hx
  obtain ⟨l1, l2, l3⟩ := h.loP i x hx
  have hHl := hp.hl.lt
  have hhs : ∀ hs : List (Int × Int), gset (hsV hs) o (.int .i64 m) = hsV (kset hs o m) := fun hs => gset_map (fun k : Int => Value.int .i64 k) hs o m
  cases hn : klook t.nm o with
  | none =>
    have hn2 : glook (nmV t.nm) o = none := by
      have h9 := glook_map (fun y : Nat × List ByteArray => Value.map (some y.1)) t.nm o
      rw [hn] at h9
      exact h9
    refine (hold_new w t.T t.P t.W t.N x.2.p x.2.H x.2.q _ _ _ _ o m x.1 h.rep.tab hp hn2 d3 d1 d2 h.rep.d0.2.1.symm h.rep.d0.2.2.symm).mono ?_
    rintro e w' ⟨rfl, t1, p1, s1, x1, x2, x3, g1, k1⟩
    rw [hhs] at p1
    have hmid : TabR (midW w w' x.2.H) { t with pl := t.pl.set i (x.1, { x.2 with hs := kset x.2.hs o m }) } :=
      h.rep.held hx (p1.hl.keep (midW_same hHl (by omega)).symm.symm) (fun k _ hk => midW_other _ _ _ _ hk)
    refine ⟨rfl, t.nm ++ [(o, (w.heap.size, [x.1]))], ⟨?_, ?_, h.lo, fun j y hy => ?_, fun j y hy => ?_⟩, fun o2 => ?_, fun k cs ty fr hk => ?_⟩
    · refine TabR.nameNew (t := { t with pl := t.pl.set i (x.1, { x.2 with hs := kset x.2.hs o m }) }) hmid ?_ g1 (by rw [midW_size]; exact Nat.le_refl _) (fun k hk hkN => ?_)
      · have h9 := gset_map (fun y : Nat × List ByteArray => Value.map (some y.1)) t.nm o (w.heap.size, [x.1])
        rw [kset_new hn] at h9
        have h8 := t1.nm
        unfold nmV at h8
        rw [h9] at h8
        exact h8
      · rw [midW_size] at hk
        by_cases hkH : k = x.2.H
        · subst hkH; exact (midW_same hHl (by omega)).symm
        · rw [midW_other _ _ _ _ hkH]; exact k1 k hk hkH hkN
    · have h5 := h.bl.size
      have h6 := h.lo
      exact ⟨x1.trans h.bl.os, x2.trans h.bl.tape, x3.trans h.bl.output, by omega, fun k hk => by rw [k1 k (by omega) (by omega) (by omega), h.bl.block k hk]⟩
    · rcases set_cases hy with ⟨rfl, rfl, -⟩ | ⟨-, h9⟩
      · exact ⟨l1, l2, l3⟩
      · exact h.loP j y h9
    · rcases snoc_idx hy with h9 | ⟨-, rfl⟩
      · exact h.loN j y h9
      · exact h.bl.size
    · by_cases ho : o2 = o
      · subst ho
        rw [if_pos rfl]
        have h9 : klook (t.nm ++ [(o2, (w.heap.size, [x.1]))]) o2 = some (w.heap.size, [x.1]) := by
          unfold klook at hn ⊢
          rw [List.find?_append]
          simp only [Option.map_eq_none_iff] at hn
          rw [hn]
          simp
        rw [h9]
        simp [sadd]
      · rw [if_neg ho]
        unfold klook
        rw [List.find?_append]
        cases hf : t.nm.find? (fun p => decide (p.1 = o2)) with
        | none => simp [Ne.symm ho]
        | some z => simp
    · rw [k1 k (Array.getElem?_eq_some_iff.1 hk).1 (cells_ne_map hp.hl hk) (cells_ne_map h.rep.tab.nm hk)]; exact hk
  | some y =>
    obtain ⟨j, hj, hset⟩ := klook_set hn
    have hn2 : glook (nmV t.nm) o = some (.map (some y.1)) := by
      have h9 := glook_map (fun y : Nat × List ByteArray => Value.map (some y.1)) t.nm o
      rw [hn] at h9
      exact h9
    obtain ⟨m1, m2, m3⟩ := h.rep.dM j _ hj
    have mH := h.rep.dHM i j x _ hx hj
    have hMl := (h.rep.nms j _ hj).lt
    refine (hold_old w t.T t.P t.W t.N x.2.p x.2.H y.1 x.2.q _ _ _ _ _ o m x.1 h.rep.tab hp hn2 (h.rep.nms j _ hj) d3 d1 d2 m1 m2 m3 mH.symm).mono ?_
    rintro e w' ⟨rfl, t1, p1, g1, s1, x1, x2, x3, k1⟩
    rw [hhs] at p1
    rw [gset_setV] at g1
    have hmid : TabR (midW w w' x.2.H) { t with pl := t.pl.set i (x.1, { x.2 with hs := kset x.2.hs o m }) } :=
      h.rep.held hx (p1.hl.keep (midW_same hHl (by omega)).symm.symm) (fun k _ hk => midW_other _ _ _ _ hk)
    refine ⟨rfl, kset t.nm o (y.1, sadd y.2 x.1), ⟨?_, ?_, h.lo, fun k z hz => ?_, fun k z hz => ?_⟩, fun o2 => ?_, fun k cs ty fr hk => ?_⟩
    · unfold held1
      rw [hset]
      refine TabR.names (t := { t with pl := t.pl.set i (x.1, { x.2 with hs := kset x.2.hs o m }) }) hmid hj g1 (fun k hk hkM => ?_)
      rw [midW_size] at hk
      by_cases hkH : k = x.2.H
      · subst hkH; exact (midW_same hHl (by omega)).symm
      · rw [midW_other _ _ _ _ hkH]; exact k1 k hkH hkM
    · have h5 := h.bl.size
      have h6 : W0.heap.size ≤ y.1 := h.loN j (o, y) hj
      exact ⟨x1.trans h.bl.os, x2.trans h.bl.tape, x3.trans h.bl.output, by omega, fun k hk => by rw [k1 k (by omega) (by omega), h.bl.block k hk]⟩
    · rcases set_cases hz with ⟨rfl, rfl, -⟩ | ⟨-, h9⟩
      · exact ⟨l1, l2, l3⟩
      · exact h.loP k z h9
    · have hz2 : (t.nm.set j (o, (y.1, sadd y.2 x.1)))[k]? = some z := by rw [← hset]; exact hz
      rcases set_cases hz2 with ⟨rfl, rfl, -⟩ | ⟨-, h9⟩
      · exact (h.loN j (o, y) hj : W0.heap.size ≤ y.1)
      · exact h.loN k z h9
    · rw [klook_kset]
      by_cases ho : o2 = o
      · simp [ho]
      · simp [ho]
    · rw [k1 k (cells_ne_map hp.hl hk) (cells_ne_map (h.rep.nms j _ hj) hk)]; exact hk
end Mun
end

section
/- A queue's first one is taken off. -/
set_option maxRecDepth 100000
set_option linter.unusedVariables false
set_option linter.unusedSimpArgs false
namespace Mun
open Go Go.RowKit
open Go.Proofs

theorem QAt.pop {w : World} {q : Value} {y : Int × Int} {rest : List (Int × Int)} (h : QAt w q (y :: rest)) :
    ∃ q2 c2, (∀ W, (Instr.sliceAt 69 q (some (.int .i64 1)) none none).run Try.prog W = .ok (.slice (some q2) rest.length c2) W) ∧ QAt w (.slice (some q2) rest.length c2) rest ∧ ∀ g, qblk (.slice (some q2) rest.length c2) = some g → qblk q = some g := by
  rcases h with ⟨-, e⟩ | ⟨g, off, c, cur, rfl, h1, h2, h3, h4, h5⟩
  · cases e
  simp only [List.length_cons] at h2 h5
  have h6 : (cur.toList.drop (off + 2)).take (rest.length * 2) = acells rest := by
    have h7 := congrArg (List.drop 2) h5
    rw [show acells (y :: rest) = [.int .u64 y.1, .int .i64 y.2] ++ acells rest from rfl, show (rest.length + 1) * 2 = rest.length * 2 + 2 by omega, List.drop_take, List.drop_drop] at h7
    have h8 : List.drop 2 ([Value.int .u64 y.1, Value.int .i64 y.2] ++ acells rest) = acells rest := rfl
    rw [h8] at h7
    simpa using h7
  have hrun : ∀ W, (Instr.sliceAt 69 (.slice (some ⟨g, off, none⟩) (rest.length + 1) c) (some (.int .i64 1)) none none).run Try.prog W = .ok (sliced (some ⟨g, off, none⟩) 1 (rest.length + 1) c 2) W := fun W => by
    obtain ⟨i, hi', hz, hs1, hs2⟩ := info_of info_ask
    have he : Try.prog.elem 69 = 77 := by kernel_rfl
    have ht : Try.prog.underlying 69 = some (.slice (Try.prog.elem 69)) := by rw [he]; exact Try.underlying69
    rw [run_sliceAt_slice _ _ _ _ _ _ ht, run_slice_l _ _ _ _ _ ht _ _ (by omega) (by omega), he]
    simp [Go.sizeOf, typeInfo, hi', hs1]
  by_cases hc : c = 1
  · subst hc
    obtain rfl : rest = [] := List.eq_nil_of_length_eq_zero (by omega)
    refine ⟨⟨g, off, none⟩, 0, fun W => by have h9 := hrun W; simp only [List.length_cons, List.length_nil] at h9 ⊢; rw [h9]; simp [sliced], .inr ⟨g, off, 0, cur, rfl, h1, by simp, by omega, by omega, by simp [acells]⟩, fun g' h => h⟩
  · refine ⟨⟨g, off + 2, none⟩, c - 1, fun W => by have h9 := hrun W; simp only [List.length_cons] at h9 ⊢; rw [h9]; simp [sliced, Addr.add, hc], .inr ⟨g, off + 2, c - 1, cur, rfl, h1, by omega, by omega, by omega, h6⟩, fun g' h => h⟩
end Mun
end

section
/- A row of owners copied into new memory. -/
set_option maxRecDepth 100000
set_option linter.unusedVariables false
set_option linter.unusedSimpArgs false
namespace Mun
open Go Go.RowKit
open Go.Proofs

theorem popQ_len : ∀ (qs hs : List (Int × Int)), (popQ hs qs).2.2.length ≤ qs.length
  | [], hs => Nat.le_refl _
  | a :: qs, hs => by
    unfold popQ
    split
    · have := popQ_len qs (kset hs a.1 a.2)
      simp only [List.length_cons]; omega
    · simp

theorem make_u64 (n : Nat) (hn : n ≤ 8796093022200) (w : World) : (Instr.makeSlice 36 (.int .i64 0) (.int .i64 n)).run Try.prog w = .ok (.slice (some ⟨w.heap.size, 0, none⟩) 0 n) (w.alloc (.cells (madeCells #[Value.int .u64 0] n) 29)) := by
  obtain ⟨i, hi, hz, h1, h2⟩ := info_of info_u64L
  have hr := run_make (P := Try.prog) w _ _ i _ Try.underlying36 hi hz .i64 .i64 0 n (by omega) (by omega) (by rw [h2]; omega) (by omega)
  rw [hr, h1]
  simp only [Int.toNat_natCast, Nat.mul_one]
  rfl

theorem u64_own (n B : Nat) (hn : n ≤ 8796093022200) (w : World) (hB : B ≤ w.heap.size) : (w.alloc (.cells (madeCells #[Value.int .u64 0] n) 29)).ownsRow B 29 1 (.slice (some ⟨w.heap.size, 0, none⟩) 0 n) 0 [] :=
  ⟨rfl, .inr ⟨w.heap.size, n, _, rfl, hB, heap_alloc_new w _, Nat.zero_le _, by unfold maxLen; omega, by simp [madeCells], by simp⟩⟩

theorem copy_out {w : World} {B : Nat} {oa : Option Addr} {n oc : Nat} {l : List (Int × Int)} (h : w.ownsRow B 29 1 (.slice oa n oc) l.length (ov l)) (hn : l.length = n) (hn2 : n ≤ 8796093022200) (hB : B ≤ w.heap.size) :
    ∃ wm v' w', (Instr.makeSlice 36 (.int .i64 0) (.int .i64 n)).run Try.prog w = .ok (.slice (some ⟨w.heap.size, 0, none⟩) 0 n) wm ∧
      (Builtin.append_ #[36, 36] 36 #[.slice (some ⟨w.heap.size, 0, none⟩) 0 n, .slice oa n oc]).run Try.prog wm = .ok v' w' ∧
      w'.ownsRow B 29 1 v' l.length (ov l) ∧ Below w.heap.size w w' := by
  obtain ⟨i, hi, hz, h1, h2⟩ := info_of info_u64L
  have hsrc : RdV NoF (w.alloc (.cells (madeCells #[Value.int .u64 0] n) 29)) 1 (.slice oa n oc) l.length (ov l) := (RdV.of_own h (fun _ _ => noF _)).alloc _
  obtain ⟨v', w', hr, ho, hg, -, -⟩ := run_append_rd (P := Try.prog) (base := B) (ty := 36) Try.underlying36 hi hz h1 h2 rfl (by decide) (u64_own n B hn2 w hB) hsrc (by
    intro u hu
    obtain ⟨a, -, rfl⟩ := List.mem_map.1 hu
    rfl) (by omega) (by decide) (by simp; omega)
  rw [Nat.zero_add, List.nil_append] at ho
  obtain ⟨g1, g2, g3, g4, g5⟩ := hg
  rw [World.size_alloc] at g4
  exact ⟨_, v', w', make_u64 n hn2 w, hr, ho, g1, g2, g3, by omega, fun k hk => by
    rw [g5 k (by rw [World.size_alloc]; omega) (by simp [Value.ownBlock]; omega), heap_alloc_old _ _ hk]⟩
end Mun
end

section
/- Contract of munimentlaw14.numbers at two rows that read as one list. -/
set_option maxRecDepth 100000
set_option linter.unusedVariables false
set_option linter.unusedSimpArgs false
namespace Mun
open Go Go.RowKit
open Go.Proofs

theorem ov_cell {F : Foot} {w : World} {a : Option Addr} {n c : Nat} {l : List (Int × Int)} (h : RdV F w 1 (.slice a n c) n (ov l)) (hn : l.length = n) (i : Nat) (hi : i < l.length) :
    ∃ g off, a = some ⟨g, off, none⟩ ∧ ∀ W, Below w.heap.size w W → W.cell? ⟨g, off + i, none⟩ = some (.int .u64 l[i].1) := by
  obtain ⟨g, off, c', hv, -, -, -, hg, hc⟩ := RdV.at_ h (by omega)
  injection hv with e1 e2 e3
  refine ⟨g, off, e1, fun W hb => ?_⟩
  have hx := hc i (.int .u64 l[i].1) (by simp [ov, hi])
  rw [World.cell?_of_block (hb.block g (World.block_lt_of_cell? _ _ hx))]
  exact hx

theorem numbers_same {F : Foot} (w : World) (a b : Option Addr) (n c d : Nat) (l : List (Int × Int)) (hn : l.length = n) (hn2 : n ≤ 8796093022200) (h1 : RdV F w 1 (.slice a n c) n (ov l)) (h2 : RdV F w 1 (.slice b n d) n (ov l)) :
    Calls Try.prog 20 #[.slice a n c, .slice b n d] w fun e w' => e = .returned (.bool true) ∧ Below w.heap.size w w' := by
  have HN := Lib.hid (And.intro hn (And.intro h1 h2))
  have hnb : (n : Int) ≤ 8796093022200 := by omega
  have hnn : ((n : Int) != (n : Int)) = false := by simp
  clear hn h1 h2 hn2
  go_enter Try.func20, Try.ntmps20
  go_wp2_with fail
  go_loopw [5] (fun iv wr => ∃ i : Nat, i ≤ n ∧ iv = .int .i64 i ∧ Below w.heap.size w wr) (fun iv _ => n - (Go.RowKit.intOf iv).toNat)
  case atStart => exact ⟨0, Nat.zero_le _, rfl, Below.refl _ _⟩
  case round =>
    obtain ⟨i, hin, rfl, hb⟩ := hrel
    by_cases hi : i < n
    · obtain ⟨g1, o1, rfl, k1⟩ := ov_cell HN.out.2.1 HN.out.1 i (by rw [HN.out.1]; exact hi)
      obtain ⟨g2, o2, rfl, k2⟩ := ov_cell HN.out.2.2 HN.out.1 i (by rw [HN.out.1]; exact hi)
      have c1 := k1 wr hb
      have c2 := k2 wr hb
      obtain ⟨y, hy⟩ : ∃ y, (l[i]'(by rw [HN.out.1]; exact hi)).1 = y := ⟨_, rfl⟩
      rw [hy] at c1 c2
      have hyy : (y != y) = false := by simp
      have hii : (i : Int) < (n : Int) := by omega
      have hi0 : (0 : Int) ≤ (i : Int) := by omega
      have HI := Lib.hid (And.intro hi hb)
      clear k1 k2 hy hi hb hin
      go_upto_region 6 with fail
      go_quiet (fail)
      go_wp2
      go_roundw
      case rel => exact ⟨i + 1, HI.out.1, by go_num, below_drewN HI.out.2 _⟩
      case measure => have := HI.out.1; simp [Go.RowKit.intOf]; omega
    · have hii : ¬ (i : Int) < (n : Int) := by omega
      have HB := Lib.hid hb
      clear hb hi hin
      go_wp2
      go_ret
      exact ⟨rfl, HB.out⟩
end Mun
end
