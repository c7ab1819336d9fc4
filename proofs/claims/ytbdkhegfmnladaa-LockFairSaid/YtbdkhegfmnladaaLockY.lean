/- Contracts of Ask over a whole table, where the owner must wait at the end of the queue. -/
import Derived.Test.YtbdkhegfmnladaaLockW
import Derived.Test.YtbdkhegfmnladaaLockQ
import Derived.Test.YtbdkhegfmnladaaRegU
set_option maxRecDepth 100000
set_option linter.unusedVariables false
set_option linter.unusedSimpArgs false
namespace Mun
open Go Go.RowKit
open Go.Proofs

def QPost (w : World) (q : Value) (l : List (Int × Int)) (o m : Int) (e : Ending) (w' : World) : Prop :=
  ∃ q', e = .returned q' ∧ QAt w' q' (l ++ [(o, m)]) ∧ (∀ g, qblk q' = some g → qblk q = some g ∨ w.heap.size ≤ g) ∧ (∀ k, k < w.heap.size → (∀ g, qblk q = some g → k ≠ g) → w'.heap[k]? = w.heap[k]?) ∧ w.heap.size ≤ w'.heap.size ∧
    (w'.os = w.os ∧ w'.tape = w.tape ∧ w'.output = w.output) ∧ ∃ a c, q' = .slice (some a) (l.length + 1) c

theorem slice_ask_end (a : Option Addr) (n c : Nat) (h : n ≤ c) : ∃ v, ∀ W, (Instr.sliceAt 69 (.slice a n c) (some (.int .i64 n)) none none).run Try.prog W = .ok v W := by
  obtain ⟨i, hi', hz, hs1, hs2⟩ := info_of info_ask
  have he : Try.prog.elem 69 = 77 := by kernel_rfl
  have ht : Try.prog.underlying 69 = some (.slice (Try.prog.elem 69)) := by rw [he]; exact Try.underlying69
  refine ⟨sliced a n n c 2, fun W => ?_⟩
  rw [run_sliceAt_slice _ _ _ _ _ _ ht, run_slice_l _ _ _ _ _ ht _ _ (by omega) (by omega), he]
  simp [Go.sizeOf, typeInfo, hi', hs1]

theorem insert_end {w : World} {q : Value} {l : List (Int × Int)} (h : QAt w q l) (hn : l.length ≤ 4398046511104) (o m : Int) :
    Calls Try.prog 33 #[q, .int .i64 l.length, .slice (some ⟨w.heap.size, 0, none⟩) 1 1] (w.alloc (.cells #[.int .u64 o, .int .i64 m] 77)) (QPost w q l o m) := by
  obtain ⟨q', w', hr, hpost⟩ := queue_push h hn o m 69
  obtain ⟨a, n, c, rfl, hnl, hnc⟩ : ∃ a n c, q = .slice a n c ∧ n = l.length ∧ n ≤ c := by
    rcases h with ⟨rfl, rfl⟩ | ⟨g, off, c, cur, rfl, -, h1, -⟩
    · exact ⟨none, 0, 0, rfl, rfl, Nat.le_refl _⟩
    · exact ⟨_, _, _, rfl, rfl, h1⟩
  obtain ⟨v, hsl⟩ := slice_ask_end a n c hnc
  have HP : Hid (QPost w (.slice a n c) l o m (.returned q') w') := ⟨q', rfl, hpost⟩
  have HR := Lib.hid hr
  rw [← hnl]
  have hn0 : (n : Int) ≤ 4398046511104 := by omega
  have HN0 := Lib.hid hn0
  clear hr hpost h hn hnl hnc hn0
  go_enter Try.func33, Try.ntmps33
  go_wp2_with ((at_builtin; refine wpList_append_eq rfl rfl HR.out rfl rfl ?_; clear HR))
  go_ret
  exact HP.out

theorem setCell_blkL {w : World} {g i : Nat} {cs : Array Value} {ty : TypeId} {fr : Nat × Nat} (h : w.heap[g]? = some (.cells cs ty fr)) (v : Value) : (w.setCell ⟨g, i, none⟩ v).heap[g]? = some (.cells (cs.setIfInBounds i v) ty fr) := by
  simp [World.setCell, Array.getElem?_modify, h]

set_option maxHeartbeats 1000000 in
/-- an owner that holds nothing there must wait: nobody waits yet, and the holders do not let it -/
theorem ask_later2 {W0 w : World} {t : TV} (h : TabL W0 w t) {i : Nat} {s : ByteArray} {x : PV} (hx : t.pl[i]? = some (s, x)) (hpa : klook t.pl s = some x) (o m : Int) (ho : o ≠ 0) (him : isM m = true) (hw : klook t.ws o = none) (hh : klook x.hs o = none) (hqs : x.qs = []) (hg : goesP (hsV x.hs) o m = false) :
    Calls Try.prog 17 #[.pointer (some ⟨t.T, 0, none⟩), .int .u64 o, .string s, .int .i64 m] w fun e w' => e = .returned (.int .i64 10) ∧ ∃ q', TabL W0 w' { t with pl := t.pl.set i (s, { x with q := q', qs := x.qs ++ [(o, m)] }), ws := kset t.ws o (s, m) } := by
  have hpa2 : glook (plV t.pl) s = some (.pointer (some ⟨x.p, 0, none⟩)) := by
    have h9 := glook_map (fun y : PV => Value.pointer (some ⟨y.p, 0, none⟩)) t.pl s
    rw [hpa] at h9
    exact h9
  have hw2 : glook (wsV t.ws) o = none := by
    have h9 := glook_map (fun y : ByteArray × Int => Value.agg #[.string y.1, .int .i64 y.2]) t.ws o
    rw [hw] at h9
    exact h9
  have hhl : glook (hsV x.hs) o = (klook x.hs o).map (fun k : Int => Value.int .i64 k) := glook_map (fun k : Int => Value.int .i64 k) x.hs o
  have hm : ModesAt (hsV x.hs) := fun q hq => by obtain ⟨y, -, rfl⟩ := List.mem_map.1 hq; exact ⟨y.2, rfl⟩
  have ht := h.rep.tab
  have hpl := h.rep.pls i _ hx
  have HL := Lib.hid (And.intro h hx)
  obtain ⟨T, P, W, N, pl, ws0, nm⟩ := t
  obtain ⟨p, H, q, hs0, qs⟩ := x
  simp only at ht hpl hpa2 hw2 hhl hm ⊢
  obtain ⟨hp, hq⟩ := hpl
  obtain ⟨ps, hps⟩ : ∃ ps, plV pl = ps := ⟨_, rfl⟩
  obtain ⟨ws, hws⟩ : ∃ ws, wsV ws0 = ws := ⟨_, rfl⟩
  obtain ⟨ns, hns⟩ : ∃ ns, nmV nm = ns := ⟨_, rfl⟩
  obtain ⟨hs, hhs⟩ : ∃ hs, hsV hs0 = hs := ⟨_, rfl⟩
  rw [hps, hws, hns] at ht
  rw [hps] at hpa2
  rw [hws] at hw2
  rw [hhs] at hhl hm hp
  have hh2 : glook hs o = none := by rw [hhl, show klook hs0 o = none from hh]; rfl
  rw [show hsV (PV.hs ⟨p, H, q, hs0, qs⟩) = hs from hhs] at hg
  obtain ⟨qa, qn, qc, rfl, hqn⟩ : ∃ qa qn qc, q = .slice qa qn qc ∧ qs.length = qn := by
    rcases hq with ⟨e, e2⟩ | ⟨g, off, c, cur, e, -⟩
    · exact ⟨none, 0, 0, e, by rw [e2]; rfl⟩
    · exact ⟨some ⟨g, off, none⟩, _, c, e, rfl⟩
  have hql : qs.length ≤ 4398046511104 := by rw [show qs = [] from hqs]; decide
  have hq0 : qn = 0 := by rw [← hqn, show qs = [] from hqs]; rfl
  subst hq0
  have hims := isMode_any w m
  rw [him] at hims
  have hob : (o == 0) = false := by simpa using ho
  have c1 : w.cell? ⟨T, 1, none⟩ = some (.map (some W)) := cell_of_row w T 1 _ _ _ ht.blk
  have hl1 := gmap_lookup (P := Try.prog) Try.underlying63 Try.underlying29 (z33 w) ht.wt o
  rw [hw2] at hl1
  change (Instr.lookup 63 (.map (some W)) (.int .u64 o) true).run Try.prog w = .ok (.tuple #[.agg #[.string ⟨#[]⟩, .int .i64 0], .bool false]) w at hl1
  obtain ⟨wA, hwA⟩ : ∃ wA, w.alloc (.cells #[.string ⟨#[]⟩, .int .i64 0] 33) = wA := ⟨_, rfl⟩
  have kA : ∀ k, k < w.heap.size → wA.heap[k]? = w.heap[k]? := fun k hk => by rw [← hwA, heap_alloc_old _ _ hk]
  have sA : wA.heap.size = w.heap.size + 1 := by rw [← hwA, World.size_alloc]
  have htA := ht.keep kA
  have hpA := hp.keep kA
  have c2 : wA.cell? ⟨T, 0, none⟩ = some (.map (some P)) := cell_of_row wA T 0 _ _ _ htA.blk
  have hl2 := gmap_lookup1 (P := Try.prog) Try.underlying62 Try.underlying9 (z67 wA) htA.pl s
  rw [hpa2] at hl2
  change (Instr.lookup 62 (.map (some P)) (.string s) false).run Try.prog wA = .ok (.pointer (some ⟨p, 0, none⟩)) wA at hl2
  obtain ⟨wB, hwB⟩ : ∃ wB, wA.alloc (.cells #[.pointer (some ⟨p, 0, none⟩)] 67) = wB := ⟨_, rfl⟩
  have kB : ∀ k, k < wA.heap.size → wB.heap[k]? = wA.heap[k]? := fun k hk => by rw [← hwB, heap_alloc_old _ _ hk]
  have sB : wB.heap.size = w.heap.size + 2 := by rw [← hwB, World.size_alloc, sA]
  have htB := htA.keep kB
  have hpB := hpA.keep kB
  have nB : wB.heap[w.heap.size + 1]? = some (.cells #[.pointer (some ⟨p, 0, none⟩)] 67 (0, 0)) := by rw [← hwB, ← sA]; exact heap_alloc_new wA _
  have c3 : wB.cell? ⟨w.heap.size + 1, 0, none⟩ = some (.pointer (some ⟨p, 0, none⟩)) := cell_of_row wB _ 0 _ _ _ nB
  have c4 : wB.cell? ⟨p, 0, none⟩ = some (.map (some H)) := cell_of_row wB p 0 _ _ _ hpB.blk
  have c5 : wB.cell? ⟨p, 1, none⟩ = some (.slice qa 0 qc) := cell_of_row wB p 1 _ _ _ hpB.blk
  have hl3 := gmap_lookup (P := Try.prog) Try.underlying68 Try.underlying29 (z3 wB) hpB.hl o
  rw [hh2] at hl3
  change (Instr.lookup 68 (.map (some H)) (.int .u64 o) true).run Try.prog wB = .ok (.tuple #[.int .i64 0, .bool false]) wB at hl3
  have hgo := goes_any wB p H _ hs o m hpB hm
  rw [hg] at hgo
  have HG := Lib.hid hgo
  have HN := Lib.hid nB
  have HPB := Lib.hid hpB
  have HQB := Lib.hid (hq.keep (w' := wB) (fun g hg2 => by obtain ⟨cur, hc⟩ := hq.blk hg2; have h9 := (Array.getElem?_eq_some_iff.1 hc).1; exact (kB g (by omega)).trans (kA g h9)))
  have HQN : Hid (qs.length = 0 ∧ qs.length ≤ 4398046511104) := ⟨hqn, hql⟩
  have HBB : Hid (Below w.heap.size w wB) := by
    show Below _ _ _
    rw [← hwB, ← hwA]
    exact below_more (below_more (Below.refl _ _) _) _
  clear hqn hql hq hqs ht hp htA hpA htB hpB kA kB sA sB hgo nB h hx
  subst hwB
  subst hwA
  go_enter Try.func17, Try.ntmps17
  go_wp2_with fail
  refine hims.mono ?_
  rintro e w' ⟨rfl, rfl⟩
  go_wp2_with fail
  refine HG.out.mono ?_
  rintro e w2 ⟨rfl, hb2⟩
  have k2 : ∀ k, k < _ → w2.heap[k]? = _ := fun k hk => hb2.block k hk
  have nB2 : w2.heap[w'.heap.size + 1]? = _ := (k2 _ (Array.getElem?_eq_some_iff.1 HN.out).1).trans HN.out
  have hp2 := HPB.out.keep k2
  have hq2' := HQB.out.keep (w' := w2) (fun g hg2 => by obtain ⟨cur, hc⟩ := HQB.out.blk hg2; exact k2 g (Array.getElem?_eq_some_iff.1 hc).1)
  have c6 : w2.cell? ⟨w'.heap.size + 1, 0, none⟩ = some (.pointer (some ⟨p, 0, none⟩)) := cell_of_row w2 _ 0 _ _ _ nB2
  have c7 : w2.cell? ⟨p, 1, none⟩ = some (.slice qa 0 qc) := cell_of_row w2 p 1 _ _ _ hp2.blk
  have HP2 := Lib.hid hp2
  have HQ2 := Lib.hid hq2'
  have HN2 := Lib.hid nB2
  have HTL := Lib.hid ((HL.out.1.below HBB.out).below hb2)
  clear hp2 hq2' nB2 k2 hb2
  have hq2 : QAt w2.drew (.slice qa 0 qc) qs := HQ2.out
  have hin : Calls Try.prog 33 #[.slice qa 0 qc, .int .i64 0, .slice (some ⟨w2.heap.size, 0, none⟩) 1 1] ((w2.alloc (.cells #[.int .u64 o, .int .i64 m] 77)).drew) (QPost w2.drew (.slice qa 0 qc) qs o m) := by
    have h9 := insert_end hq2 HQN.out.2 o m
    rw [HQN.out.1] at h9
    exact h9
  unfold QPost at hin
  have HIN := Lib.hid hin
  have hlt6 : w'.heap.size + 1 < w2.heap.size := (Array.getElem?_eq_some_iff.1 HN2.out).1
  have hlt7 : p < w2.heap.size := (Array.getElem?_eq_some_iff.1 HP2.out.blk).1
  have hnq : ∀ g, qblk (.slice qa 0 qc) = some g → w'.heap.size + 1 ≠ g ∧ p ≠ g := fun g hg => by
    obtain ⟨cur, hc⟩ := HQ2.out.blk hg
    exact ⟨cells_ty_ne HN2.out hc (by decide), cells_ty_ne HP2.out.blk hc (by decide)⟩
  have HS : Hid (∀ W : World, (∀ k, k < w2.heap.size → (∀ g, qblk (.slice qa 0 qc) = some g → k ≠ g) → W.heap[k]? = w2.heap[k]?) → W.cell? ⟨w'.heap.size + 1, 0, none⟩ = some (.pointer (some ⟨p, 0, none⟩)) ∧ W.cell? ⟨p, 1, none⟩ = some (.slice qa 0 qc)) := by
    show ∀ _, _
    intro W hk
    exact ⟨cell_of_row W _ 0 _ _ _ ((hk _ hlt6 (fun g hg => (hnq g hg).1)).trans HN2.out), cell_of_row W p 1 _ _ _ ((hk _ hlt7 (fun g hg => (hnq g hg).2)).trans HP2.out.blk)⟩
  have HFZ : Hid (∀ W : World, (∀ k, k < w2.heap.size → (∀ g, qblk (.slice qa 0 qc) = some g → k ≠ g) → W.heap[k]? = w2.heap[k]?) → W.frozen? ⟨p, 1, none⟩ = false) := by
    show ∀ _, _
    intro W hk
    have h9 := (hk _ hlt7 (fun g hg => (hnq g hg).2)).trans HP2.out.blk
    simp [World.frozen?, h9]
  have hS0 : w2.drew.cell? ⟨w'.heap.size + 1, 0, none⟩ = some (.pointer (some ⟨p, 0, none⟩)) ∧ w2.drew.cell? ⟨p, 1, none⟩ = some (.slice qa 0 qc) := HS.out w2.drew (fun _ _ _ => rfl)
  have hSa : (w2.alloc (.cells #[.int .u64 o, .int .i64 m] 77)).drew.cell? ⟨w'.heap.size + 1, 0, none⟩ = some (.pointer (some ⟨p, 0, none⟩)) ∧ (w2.alloc (.cells #[.int .u64 o, .int .i64 m] 77)).drew.cell? ⟨p, 1, none⟩ = some (.slice qa 0 qc) := HS.out _ (fun k hk _ => heap_alloc_old w2 _ hk)
  clear hin hlt6 hlt7 hnq hq2
  go_upto_region 23 with (fail)
  refine wp_region_U (fun W => W.cell? ⟨w'.heap.size + 1, 0, none⟩ = some (.pointer (some ⟨p, 0, none⟩)) ∧ W.cell? ⟨p, 1, none⟩ = some (.slice qa 0 qc)) [13] (by kernel_rfl) ?_
  refine wpAnyU_take (i := 0) [11, 12, 13] rfl (by kernel_rfl) (by kernel_rfl) (by kernel_rfl) (by kernel_rfl) (by kernel_rfl) (by kernel_rfl) (fun _ _ _ h => h) (Or.inl ⟨by rfl, (by intro W hSW; (try dsimp only at hSW); (try go_split_ands); go_simp <;> with_reducible rfl)⟩) hS0 ?_
  try simp only [Act.put, List.setIfInBounds_toArray, List.set_cons_zero, List.set_cons_succ]
  refine wpAnyU_take (i := 1) [2, 3, 4, 10, 11, 12, 13] rfl (by kernel_rfl) (by kernel_rfl) (by kernel_rfl) (by kernel_rfl) (by kernel_rfl) (by kernel_rfl) (fun _ _ _ h => h) (Or.inl ⟨by rfl, (by intro W hSW; (try dsimp only at hSW); (try go_split_ands); go_simp <;> with_reducible rfl)⟩) hS0 ?_
  try simp only [Act.put, List.setIfInBounds_toArray, List.set_cons_zero, List.set_cons_succ]
  refine wpAnyU_take (i := 2) [3, 4, 10, 11, 12, 13] rfl (by kernel_rfl) (by kernel_rfl) (by kernel_rfl) (by kernel_rfl) (by kernel_rfl) (by kernel_rfl) (fun _ _ _ h => h) (Or.inl ⟨by rfl, (by intro W hSW; (try dsimp only at hSW); (try go_split_ands); go_simp <;> with_reducible rfl)⟩) hS0 ?_
  try simp only [Act.put, List.setIfInBounds_toArray, List.set_cons_zero, List.set_cons_succ]
  refine wpAnyU_take (i := 3) [4, 10, 11, 12, 13] rfl (by kernel_rfl) (by kernel_rfl) (by kernel_rfl) (by kernel_rfl) (by kernel_rfl) (by kernel_rfl) (fun _ _ _ h => h) (Or.inl ⟨by rfl, (by intro W hSW; (try dsimp only at hSW); (try go_split_ands); go_simp <;> with_reducible rfl)⟩) hS0 ?_
  try simp only [Act.put, List.setIfInBounds_toArray, List.set_cons_zero, List.set_cons_succ]
  refine wpAnyU_take (i := 4) [10, 11, 12, 13] rfl (by kernel_rfl) (by kernel_rfl) (by kernel_rfl) (by kernel_rfl) (by kernel_rfl) (by kernel_rfl) (fun _ _ _ h => h) (Or.inl ⟨by rfl, (by intro W hSW; (try dsimp only at hSW); (try go_split_ands); go_simp <;> with_reducible rfl)⟩) hS0 ?_
  try simp only [Act.put, List.setIfInBounds_toArray, List.set_cons_zero, List.set_cons_succ]
  refine wpAnyU_take (i := 5) [10, 11, 12, 13] rfl (by kernel_rfl) (by kernel_rfl) (by kernel_rfl) (by kernel_rfl) (by kernel_rfl) (by kernel_rfl) (fun _ _ _ h => h) (Or.inl ⟨by rfl, (by intro W hSW; (try dsimp only at hSW); (try go_split_ands); go_simp <;> with_reducible rfl)⟩) hS0 ?_
  try simp only [Act.put, List.setIfInBounds_toArray, List.set_cons_zero, List.set_cons_succ]
  refine wpAnyU_take (i := 6) [8, 9, 10, 11, 12, 13] rfl (by kernel_rfl) (by kernel_rfl) (by kernel_rfl) (by kernel_rfl) (by kernel_rfl) (by kernel_rfl) (fun _ _ _ h => h) (Or.inl ⟨by rfl, (by intro W hSW; (try dsimp only at hSW); (try go_split_ands); go_simp <;> with_reducible rfl)⟩) hS0 ?_
  try simp only [Act.put, List.setIfInBounds_toArray, List.set_cons_zero, List.set_cons_succ]
  refine wpAnyU_take (i := 7) [8, 9, 10, 11, 12, 13] rfl (by kernel_rfl) (by kernel_rfl) (by kernel_rfl) (by kernel_rfl) (by kernel_rfl) (by kernel_rfl) (fun _ _ _ h => h) (Or.inl ⟨by rfl, (by intro W hSW; (try dsimp only at hSW); (try go_split_ands); go_simp <;> with_reducible rfl)⟩) hS0 ?_
  try simp only [Act.put, List.setIfInBounds_toArray, List.set_cons_zero, List.set_cons_succ]
  refine wpAnyU_take (i := 8) [9, 10, 11, 12, 13] rfl (by kernel_rfl) (by kernel_rfl) (by kernel_rfl) (by kernel_rfl) (by kernel_rfl) (by kernel_rfl) (fun _ _ _ h => h) (Or.inl ⟨by rfl, (by intro W hSW; (try dsimp only at hSW); (try go_split_ands); go_simp <;> with_reducible rfl)⟩) hS0 ?_
  try simp only [Act.put, List.setIfInBounds_toArray, List.set_cons_zero, List.set_cons_succ]
  refine wpAnyU_one (i := 9) (by kernel_rfl) rfl (fun K hK => ?_)
  go_simp
  refine hK.out _ _ (fun _ => hSa) (fun _ => ?_)
  clear hK K
  refine wpAnyU_one (i := 10) (by kernel_rfl) rfl (fun K hK => ?_)
  go_simp
  go_at_call 33
  refine HIN.out.mono ?_
  rintro e w5 ⟨q', rfl, hq5, hqb5, hk5, hs5, ⟨x1, x2, x3⟩, qa', qc', rfl⟩
  have hS5 : w5.cell? ⟨w'.heap.size + 1, 0, none⟩ = some (.pointer (some ⟨p, 0, none⟩)) ∧ w5.cell? ⟨p, 1, none⟩ = some (.slice qa 0 qc) := HS.out w5 hk5
  have f5 : w5.frozen? ⟨p, 1, none⟩ = false := HFZ.out w5 hk5
  have H5 := Lib.hid (And.intro hq5 (And.intro hqb5 (And.intro hk5 (And.intro hs5 (And.intro x1 (And.intro x2 x3))))))
  clear hq5 hqb5 hk5 hs5 x1 x2 x3 HIN
  refine hK.out _ _ (fun _ => hS5) (fun _ => ?_)
  clear hK K
  refine wpAnyU_take (i := 11) [12, 13] rfl (by kernel_rfl) (by kernel_rfl) (by kernel_rfl) (by kernel_rfl) (by kernel_rfl) (by kernel_rfl) (fun _ _ _ h => h) (Or.inl ⟨by rfl, (by intro W hSW; (try dsimp only at hSW); (try go_split_ands); go_simp <;> with_reducible rfl)⟩) hS5 ?_
  try simp only [Act.put, List.setIfInBounds_toArray, List.set_cons_zero, List.set_cons_succ]
  refine wpAnyU_take (i := 12) [13] rfl (by kernel_rfl) (by kernel_rfl) (by kernel_rfl) (by kernel_rfl) (by kernel_rfl) (by kernel_rfl) (fun _ _ _ h => h) (Or.inl ⟨by rfl, (by intro W hSW; (try dsimp only at hSW); (try go_split_ands); go_simp <;> with_reducible rfl)⟩) hS5 ?_
  try simp only [Act.put, List.setIfInBounds_toArray, List.set_cons_zero, List.set_cons_succ]
  refine wpAnyU_one (i := 13) (by kernel_rfl) rfl (fun K hK => ?_)
  go_simp
  refine hK.out _ _ (fun h => absurd h (by decide)) (fun _ => ?_)
  clear hK K
  refine wpAnyU_done (by kernel_rfl) ?_ _

  obtain ⟨w6, hw6⟩ : ∃ w6, w5.setCell ⟨p, 1, none⟩ (.slice (some qa') (qs.length + 1) qc') = w6 := ⟨_, rfl⟩
  have h6 : TabL W0 w6 { (⟨T, P, W, N, pl, ws0, nm⟩ : TV) with pl := pl.set i (s, ⟨p, H, .slice (some qa') (qs.length + 1) qc', hs0, qs ++ [(o, m)]⟩) } := by
    have hTL := HTL.out
    have hb6 : w6.heap[p]? = some (.cells #[.map (some H), .slice (some qa') (qs.length + 1) qc'] 71 (0, 0)) := by
      rw [← hw6]
      have h9 := (H5.out.2.2.1 p (Array.getElem?_eq_some_iff.1 HP2.out.blk).1 (fun g hg => by obtain ⟨cur, hc⟩ := HQ2.out.blk hg; exact cells_ty_ne HP2.out.blk hc (by decide))).trans HP2.out.blk
      exact setCell_blkL h9 _
    have hq6 : QAt w6 (.slice (some qa') (qs.length + 1) qc') (qs ++ [(o, m)]) := H5.out.1.keep (fun g hg => by
      rw [← hw6]
      obtain ⟨cur, hc⟩ := H5.out.1.blk hg
      refine setCell_heapL _ _ _ _ (fun e9 => ?_)
      have h9 := (H5.out.2.2.1 p (Array.getElem?_eq_some_iff.1 HP2.out.blk).1 (fun g hg => by obtain ⟨cur, hc⟩ := HQ2.out.blk hg; exact cells_ty_ne HP2.out.blk hc (by decide))).trans HP2.out.blk
      exact cells_ty_ne h9 hc (by decide) e9.symm)
    have hk6 : ∀ k, k < w2.heap.size → k ≠ p → (∀ g, qblk (.slice qa 0 qc) = some g → k ≠ g) → w6.heap[k]? = w2.heap[k]? := fun k hk hkp hkg => by
      rw [← hw6, setCell_heapL _ _ _ _ hkp]
      exact H5.out.2.2.1 k hk hkg
    have hsz : w2.heap.size ≤ w6.heap.size := by rw [← hw6, setCell_sizeL]; exact H5.out.2.2.2.1
    obtain ⟨l1, l2, l3⟩ := hTL.loP i _ HL.out.2
    have hbs := hTL.bl.size
    refine ⟨hTL.rep.queue HL.out.2 hb6 hq6 H5.out.2.1 hk6, ⟨?_, ?_, ?_, by omega, fun k hk => ?_⟩, hTL.lo, fun k y hy => ?_, hTL.loN⟩
    · rw [← hw6]; exact H5.out.2.2.2.2.1.trans hTL.bl.os
    · rw [← hw6]; exact H5.out.2.2.2.2.2.1.trans hTL.bl.tape
    · rw [← hw6]; exact H5.out.2.2.2.2.2.2.trans hTL.bl.output
    · rw [hk6 k (by omega) (by simp only at l1; omega) (fun g hg => by have := l3 g hg; omega), hTL.bl.block k hk]
    · rcases set_cases hy with ⟨rfl, rfl, -⟩ | ⟨-, h9⟩
      · exact ⟨l1, l2, fun g hg => (H5.out.2.1 g hg).elim (l3 g) (fun h8 => by have h8' : w2.heap.size ≤ g := h8; omega)⟩
      · exact hTL.loP k y h9
  have c8 : w6.cell? ⟨T, 1, none⟩ = some (.map (some W)) := cell_of_row w6 T 1 _ _ _ h6.rep.tab.blk
  obtain ⟨oW, huW, hgW⟩ := gmap_update (P := Try.prog) Try.underlying63 Try.underlying29 h6.rep.tab.wt o (.agg #[.string s, .int .i64 m])
  change (Instr.mapUpdate 63 (.map (some W)) (.int .u64 o) (.agg #[.string s, .int .i64 m])).run Try.prog w6 = _ at huW
  have hgm := gset_map (fun y : ByteArray × Int => Value.agg #[.string y.1, .int .i64 y.2]) ws0 o (s, m)
  have h7 : TabL W0 (setObjW w6 W oW) { (⟨T, P, W, N, pl, ws0, nm⟩ : TV) with pl := pl.set i (s, ⟨p, H, .slice (some qa') (qs.length + 1) qc', hs0, qs ++ [(o, m)]⟩), ws := kset ws0 o (s, m) } := by
    have hlo := h6.lo
    have hbs := h6.bl.size
    simp only at hlo
    refine ⟨h6.rep.waits (ws := kset ws0 o (s, m)) ?_ (fun k hk hkW => setObjW_other _ _ _ _ hkW), ⟨h6.bl.os, h6.bl.tape, h6.bl.output, by rw [setObjW_size]; exact h6.bl.size, fun k hk => by rw [setObjW_other _ _ _ _ (by omega), h6.bl.block k hk]⟩, h6.lo, h6.loP, h6.loN⟩
    have h9 := hgW
    unfold wsV at h9
    rw [hgm] at h9
    exact h9
  have H7 := Lib.hid h7
  clear h6 h7 hgW hgm H5 HTL HS HFZ hS0 hSa hS5
  try rw [hw6]
  go_wp2
  go_ret
  exact ⟨rfl, _, H7.out⟩

set_option maxHeartbeats 1000000 in
/-- an owner that holds nothing there must wait behind those that wait -/
theorem ask_behind {W0 w : World} {t : TV} (h : TabL W0 w t) {i : Nat} {s : ByteArray} {x : PV} (hx : t.pl[i]? = some (s, x)) (hpa : klook t.pl s = some x) (o m : Int) (ho : o ≠ 0) (him : isM m = true) (hw : klook t.ws o = none) (hh : klook x.hs o = none) (hqs : x.qs ≠ []) (hqx : x.qs.length ≤ 4398046511104) :
    Calls Try.prog 17 #[.pointer (some ⟨t.T, 0, none⟩), .int .u64 o, .string s, .int .i64 m] w fun e w' => e = .returned (.int .i64 10) ∧ ∃ q', TabL W0 w' { t with pl := t.pl.set i (s, { x with q := q', qs := x.qs ++ [(o, m)] }), ws := kset t.ws o (s, m) } := by
  have hpa2 : glook (plV t.pl) s = some (.pointer (some ⟨x.p, 0, none⟩)) := by
    have h9 := glook_map (fun y : PV => Value.pointer (some ⟨y.p, 0, none⟩)) t.pl s
    rw [hpa] at h9
    exact h9
  have hw2 : glook (wsV t.ws) o = none := by
    have h9 := glook_map (fun y : ByteArray × Int => Value.agg #[.string y.1, .int .i64 y.2]) t.ws o
    rw [hw] at h9
    exact h9
  have hhl : glook (hsV x.hs) o = (klook x.hs o).map (fun k : Int => Value.int .i64 k) := glook_map (fun k : Int => Value.int .i64 k) x.hs o
  have hm : ModesAt (hsV x.hs) := fun q hq => by obtain ⟨y, -, rfl⟩ := List.mem_map.1 hq; exact ⟨y.2, rfl⟩
  have ht := h.rep.tab
  have hpl := h.rep.pls i _ hx
  have HL := Lib.hid (And.intro h hx)
  obtain ⟨T, P, W, N, pl, ws0, nm⟩ := t
  obtain ⟨p, H, q, hs0, qs⟩ := x
  simp only at ht hpl hpa2 hw2 hhl hm ⊢
  obtain ⟨hp, hq⟩ := hpl
  obtain ⟨ps, hps⟩ : ∃ ps, plV pl = ps := ⟨_, rfl⟩
  obtain ⟨ws, hws⟩ : ∃ ws, wsV ws0 = ws := ⟨_, rfl⟩
  obtain ⟨ns, hns⟩ : ∃ ns, nmV nm = ns := ⟨_, rfl⟩
  obtain ⟨hs, hhs⟩ : ∃ hs, hsV hs0 = hs := ⟨_, rfl⟩
  rw [hps, hws, hns] at ht
  rw [hps] at hpa2
  rw [hws] at hw2
  rw [hhs] at hhl hm hp
  have hh2 : glook hs o = none := by rw [hhl, show klook hs0 o = none from hh]; rfl
  obtain ⟨qa, qn, qc, rfl, hqn⟩ : ∃ qa qn qc, q = .slice qa qn qc ∧ qs.length = qn := by
    rcases hq with ⟨e, e2⟩ | ⟨g, off, c, cur, e, -⟩
    · exact ⟨none, 0, 0, e, by rw [e2]; rfl⟩
    · exact ⟨some ⟨g, off, none⟩, _, c, e, rfl⟩
  have hql : qs.length ≤ 4398046511104 := hqx
  have t0 : ((qn : Int) == 0) = false := by have h9 : qn ≠ 0 := (fun e => hqs (List.eq_nil_of_length_eq_zero (by show qs.length = 0; omega))); simpa using h9
  have hqi : (0 : Int) ≤ (qn : Int) := by omega
  clear hqx
  have hims := isMode_any w m
  rw [him] at hims
  have hob : (o == 0) = false := by simpa using ho
  have c1 : w.cell? ⟨T, 1, none⟩ = some (.map (some W)) := cell_of_row w T 1 _ _ _ ht.blk
  have hl1 := gmap_lookup (P := Try.prog) Try.underlying63 Try.underlying29 (z33 w) ht.wt o
  rw [hw2] at hl1
  change (Instr.lookup 63 (.map (some W)) (.int .u64 o) true).run Try.prog w = .ok (.tuple #[.agg #[.string ⟨#[]⟩, .int .i64 0], .bool false]) w at hl1
  obtain ⟨wA, hwA⟩ : ∃ wA, w.alloc (.cells #[.string ⟨#[]⟩, .int .i64 0] 33) = wA := ⟨_, rfl⟩
  have kA : ∀ k, k < w.heap.size → wA.heap[k]? = w.heap[k]? := fun k hk => by rw [← hwA, heap_alloc_old _ _ hk]
  have sA : wA.heap.size = w.heap.size + 1 := by rw [← hwA, World.size_alloc]
  have htA := ht.keep kA
  have hpA := hp.keep kA
  have c2 : wA.cell? ⟨T, 0, none⟩ = some (.map (some P)) := cell_of_row wA T 0 _ _ _ htA.blk
  have hl2 := gmap_lookup1 (P := Try.prog) Try.underlying62 Try.underlying9 (z67 wA) htA.pl s
  rw [hpa2] at hl2
  change (Instr.lookup 62 (.map (some P)) (.string s) false).run Try.prog wA = .ok (.pointer (some ⟨p, 0, none⟩)) wA at hl2
  obtain ⟨wB, hwB⟩ : ∃ wB, wA.alloc (.cells #[.pointer (some ⟨p, 0, none⟩)] 67) = wB := ⟨_, rfl⟩
  have kB : ∀ k, k < wA.heap.size → wB.heap[k]? = wA.heap[k]? := fun k hk => by rw [← hwB, heap_alloc_old _ _ hk]
  have sB : wB.heap.size = w.heap.size + 2 := by rw [← hwB, World.size_alloc, sA]
  have htB := htA.keep kB
  have hpB := hpA.keep kB
  have nB : wB.heap[w.heap.size + 1]? = some (.cells #[.pointer (some ⟨p, 0, none⟩)] 67 (0, 0)) := by rw [← hwB, ← sA]; exact heap_alloc_new wA _
  have c3 : wB.cell? ⟨w.heap.size + 1, 0, none⟩ = some (.pointer (some ⟨p, 0, none⟩)) := cell_of_row wB _ 0 _ _ _ nB
  have c4 : wB.cell? ⟨p, 0, none⟩ = some (.map (some H)) := cell_of_row wB p 0 _ _ _ hpB.blk
  have c5 : wB.cell? ⟨p, 1, none⟩ = some (.slice qa qn qc) := cell_of_row wB p 1 _ _ _ hpB.blk
  have hl3 := gmap_lookup (P := Try.prog) Try.underlying68 Try.underlying29 (z3 wB) hpB.hl o
  rw [hh2] at hl3
  change (Instr.lookup 68 (.map (some H)) (.int .u64 o) true).run Try.prog wB = .ok (.tuple #[.int .i64 0, .bool false]) wB at hl3
  have HN := Lib.hid nB
  have HPB := Lib.hid hpB
  have HQB := Lib.hid (hq.keep (w' := wB) (fun g hg2 => by obtain ⟨cur, hc⟩ := hq.blk hg2; have h9 := (Array.getElem?_eq_some_iff.1 hc).1; exact (kB g (by omega)).trans (kA g h9)))
  have HQN : Hid (qs.length = qn ∧ qs.length ≤ 4398046511104) := ⟨hqn, hql⟩
  have HBB : Hid (Below w.heap.size w wB) := by
    show Below _ _ _
    rw [← hwB, ← hwA]
    exact below_more (below_more (Below.refl _ _) _) _
  clear hqn hql hq hqs ht hp htA hpA htB hpB kA kB sA sB nB h hx
  subst hwB
  subst hwA
  go_enter Try.func17, Try.ntmps17
  go_wp2_with fail
  refine hims.mono ?_
  rintro e w' ⟨rfl, rfl⟩
  go_upto_region 18 with (fail)
  obtain ⟨w2, hw2e⟩ : ∃ w2 : World, (w'.alloc (.cells #[.string ⟨#[]⟩, .int .i64 0] 33)).alloc (.cells #[.pointer (some ⟨p, 0, none⟩)] 67) = w2 := ⟨_, rfl⟩
  rw [hw2e] at HN HPB HQB HBB ⊢
  clear hw2e c1 c2 c3 c4 c5 hl1 hl2 hl3
  have hb2 : Below w2.heap.size w2 w2 := Below.refl _ _
  have k2 : ∀ k, k < _ → w2.heap[k]? = _ := fun k hk => hb2.block k hk
  have nB2 : w2.heap[w'.heap.size + 1]? = _ := (k2 _ (Array.getElem?_eq_some_iff.1 HN.out).1).trans HN.out
  have hp2 := HPB.out.keep k2
  have hq2' := HQB.out.keep (w' := w2) (fun g hg2 => by obtain ⟨cur, hc⟩ := HQB.out.blk hg2; exact k2 g (Array.getElem?_eq_some_iff.1 hc).1)
  have c6 : w2.cell? ⟨w'.heap.size + 1, 0, none⟩ = some (.pointer (some ⟨p, 0, none⟩)) := cell_of_row w2 _ 0 _ _ _ nB2
  have c7 : w2.cell? ⟨p, 1, none⟩ = some (.slice qa qn qc) := cell_of_row w2 p 1 _ _ _ hp2.blk
  have HP2 := Lib.hid hp2
  have HQ2 := Lib.hid hq2'
  have HN2 := Lib.hid nB2
  have HTL := Lib.hid ((HL.out.1.below HBB.out).below hb2)
  clear hp2 hq2' nB2 k2 hb2
  have hq2 : QAt w2.drew (.slice qa qn qc) qs := HQ2.out
  have hin : Calls Try.prog 33 #[.slice qa qn qc, .int .i64 qn, .slice (some ⟨w2.heap.size, 0, none⟩) 1 1] ((w2.alloc (.cells #[.int .u64 o, .int .i64 m] 77)).drew) (QPost w2.drew (.slice qa qn qc) qs o m) := by
    have h9 := insert_end hq2 HQN.out.2 o m
    rw [HQN.out.1] at h9
    exact h9
  unfold QPost at hin
  have HIN := Lib.hid hin
  have hlt6 : w'.heap.size + 1 < w2.heap.size := (Array.getElem?_eq_some_iff.1 HN2.out).1
  have hlt7 : p < w2.heap.size := (Array.getElem?_eq_some_iff.1 HP2.out.blk).1
  have hnq : ∀ g, qblk (.slice qa qn qc) = some g → w'.heap.size + 1 ≠ g ∧ p ≠ g := fun g hg => by
    obtain ⟨cur, hc⟩ := HQ2.out.blk hg
    exact ⟨cells_ty_ne HN2.out hc (by decide), cells_ty_ne HP2.out.blk hc (by decide)⟩
  have HS : Hid (∀ W : World, (∀ k, k < w2.heap.size → (∀ g, qblk (.slice qa qn qc) = some g → k ≠ g) → W.heap[k]? = w2.heap[k]?) → W.cell? ⟨w'.heap.size + 1, 0, none⟩ = some (.pointer (some ⟨p, 0, none⟩)) ∧ W.cell? ⟨p, 1, none⟩ = some (.slice qa qn qc)) := by
    show ∀ _, _
    intro W hk
    exact ⟨cell_of_row W _ 0 _ _ _ ((hk _ hlt6 (fun g hg => (hnq g hg).1)).trans HN2.out), cell_of_row W p 1 _ _ _ ((hk _ hlt7 (fun g hg => (hnq g hg).2)).trans HP2.out.blk)⟩
  have HFZ : Hid (∀ W : World, (∀ k, k < w2.heap.size → (∀ g, qblk (.slice qa qn qc) = some g → k ≠ g) → W.heap[k]? = w2.heap[k]?) → W.frozen? ⟨p, 1, none⟩ = false) := by
    show ∀ _, _
    intro W hk
    have h9 := (hk _ hlt7 (fun g hg => (hnq g hg).2)).trans HP2.out.blk
    simp [World.frozen?, h9]
  have hS0 : w2.drew.cell? ⟨w'.heap.size + 1, 0, none⟩ = some (.pointer (some ⟨p, 0, none⟩)) ∧ w2.drew.cell? ⟨p, 1, none⟩ = some (.slice qa qn qc) := HS.out w2.drew (fun _ _ _ => rfl)
  have hSa : (w2.alloc (.cells #[.int .u64 o, .int .i64 m] 77)).drew.cell? ⟨w'.heap.size + 1, 0, none⟩ = some (.pointer (some ⟨p, 0, none⟩)) ∧ (w2.alloc (.cells #[.int .u64 o, .int .i64 m] 77)).drew.cell? ⟨p, 1, none⟩ = some (.slice qa qn qc) := HS.out _ (fun k hk _ => heap_alloc_old w2 _ hk)
  clear hin hlt6 hlt7 hnq hq2
  go_upto_region 23 with (fail)
  refine wp_region_U (fun W => W.cell? ⟨w'.heap.size + 1, 0, none⟩ = some (.pointer (some ⟨p, 0, none⟩)) ∧ W.cell? ⟨p, 1, none⟩ = some (.slice qa qn qc)) [13] (by kernel_rfl) ?_
  refine wpAnyU_take (i := 0) [11, 12, 13] rfl (by kernel_rfl) (by kernel_rfl) (by kernel_rfl) (by kernel_rfl) (by kernel_rfl) (by kernel_rfl) (fun _ _ _ h => h) (Or.inl ⟨by rfl, (by intro W hSW; (try dsimp only at hSW); (try go_split_ands); go_simp <;> with_reducible rfl)⟩) hS0 ?_
  try simp only [Act.put, List.setIfInBounds_toArray, List.set_cons_zero, List.set_cons_succ]
  refine wpAnyU_take (i := 1) [2, 3, 4, 10, 11, 12, 13] rfl (by kernel_rfl) (by kernel_rfl) (by kernel_rfl) (by kernel_rfl) (by kernel_rfl) (by kernel_rfl) (fun _ _ _ h => h) (Or.inl ⟨by rfl, (by intro W hSW; (try dsimp only at hSW); (try go_split_ands); go_simp <;> with_reducible rfl)⟩) hS0 ?_
  try simp only [Act.put, List.setIfInBounds_toArray, List.set_cons_zero, List.set_cons_succ]
  refine wpAnyU_take (i := 2) [3, 4, 10, 11, 12, 13] rfl (by kernel_rfl) (by kernel_rfl) (by kernel_rfl) (by kernel_rfl) (by kernel_rfl) (by kernel_rfl) (fun _ _ _ h => h) (Or.inl ⟨by rfl, (by intro W hSW; (try dsimp only at hSW); (try go_split_ands); go_simp <;> with_reducible rfl)⟩) hS0 ?_
  try simp only [Act.put, List.setIfInBounds_toArray, List.set_cons_zero, List.set_cons_succ]
  refine wpAnyU_take (i := 3) [4, 10, 11, 12, 13] rfl (by kernel_rfl) (by kernel_rfl) (by kernel_rfl) (by kernel_rfl) (by kernel_rfl) (by kernel_rfl) (fun _ _ _ h => h) (Or.inl ⟨by rfl, (by intro W hSW; (try dsimp only at hSW); (try go_split_ands); go_simp <;> with_reducible rfl)⟩) hS0 ?_
  try simp only [Act.put, List.setIfInBounds_toArray, List.set_cons_zero, List.set_cons_succ]
  refine wpAnyU_take (i := 4) [10, 11, 12, 13] rfl (by kernel_rfl) (by kernel_rfl) (by kernel_rfl) (by kernel_rfl) (by kernel_rfl) (by kernel_rfl) (fun _ _ _ h => h) (Or.inl ⟨by rfl, (by intro W hSW; (try dsimp only at hSW); (try go_split_ands); go_simp <;> with_reducible rfl)⟩) hS0 ?_
  try simp only [Act.put, List.setIfInBounds_toArray, List.set_cons_zero, List.set_cons_succ]
  refine wpAnyU_take (i := 5) [10, 11, 12, 13] rfl (by kernel_rfl) (by kernel_rfl) (by kernel_rfl) (by kernel_rfl) (by kernel_rfl) (by kernel_rfl) (fun _ _ _ h => h) (Or.inl ⟨by rfl, (by intro W hSW; (try dsimp only at hSW); (try go_split_ands); go_simp <;> with_reducible rfl)⟩) hS0 ?_
  try simp only [Act.put, List.setIfInBounds_toArray, List.set_cons_zero, List.set_cons_succ]
  refine wpAnyU_take (i := 6) [8, 9, 10, 11, 12, 13] rfl (by kernel_rfl) (by kernel_rfl) (by kernel_rfl) (by kernel_rfl) (by kernel_rfl) (by kernel_rfl) (fun _ _ _ h => h) (Or.inl ⟨by rfl, (by intro W hSW; (try dsimp only at hSW); (try go_split_ands); go_simp <;> with_reducible rfl)⟩) hS0 ?_
  try simp only [Act.put, List.setIfInBounds_toArray, List.set_cons_zero, List.set_cons_succ]
  refine wpAnyU_take (i := 7) [8, 9, 10, 11, 12, 13] rfl (by kernel_rfl) (by kernel_rfl) (by kernel_rfl) (by kernel_rfl) (by kernel_rfl) (by kernel_rfl) (fun _ _ _ h => h) (Or.inl ⟨by rfl, (by intro W hSW; (try dsimp only at hSW); (try go_split_ands); go_simp <;> with_reducible rfl)⟩) hS0 ?_
  try simp only [Act.put, List.setIfInBounds_toArray, List.set_cons_zero, List.set_cons_succ]
  refine wpAnyU_take (i := 8) [9, 10, 11, 12, 13] rfl (by kernel_rfl) (by kernel_rfl) (by kernel_rfl) (by kernel_rfl) (by kernel_rfl) (by kernel_rfl) (fun _ _ _ h => h) (Or.inl ⟨by rfl, (by intro W hSW; (try dsimp only at hSW); (try go_split_ands); go_simp <;> with_reducible rfl)⟩) hS0 ?_
  try simp only [Act.put, List.setIfInBounds_toArray, List.set_cons_zero, List.set_cons_succ]
  refine wpAnyU_one (i := 9) (by kernel_rfl) rfl (fun K hK => ?_)
  go_simp
  refine hK.out _ _ (fun _ => hSa) (fun _ => ?_)
  clear hK K
  refine wpAnyU_one (i := 10) (by kernel_rfl) rfl (fun K hK => ?_)
  go_simp
  go_at_call 33
  refine HIN.out.mono ?_
  rintro e w5 ⟨q', rfl, hq5, hqb5, hk5, hs5, ⟨x1, x2, x3⟩, qa', qc', rfl⟩
  have hS5 : w5.cell? ⟨w'.heap.size + 1, 0, none⟩ = some (.pointer (some ⟨p, 0, none⟩)) ∧ w5.cell? ⟨p, 1, none⟩ = some (.slice qa qn qc) := HS.out w5 hk5
  have f5 : w5.frozen? ⟨p, 1, none⟩ = false := HFZ.out w5 hk5
  have H5 := Lib.hid (And.intro hq5 (And.intro hqb5 (And.intro hk5 (And.intro hs5 (And.intro x1 (And.intro x2 x3))))))
  clear hq5 hqb5 hk5 hs5 x1 x2 x3 HIN
  refine hK.out _ _ (fun _ => hS5) (fun _ => ?_)
  clear hK K
  refine wpAnyU_take (i := 11) [12, 13] rfl (by kernel_rfl) (by kernel_rfl) (by kernel_rfl) (by kernel_rfl) (by kernel_rfl) (by kernel_rfl) (fun _ _ _ h => h) (Or.inl ⟨by rfl, (by intro W hSW; (try dsimp only at hSW); (try go_split_ands); go_simp <;> with_reducible rfl)⟩) hS5 ?_
  try simp only [Act.put, List.setIfInBounds_toArray, List.set_cons_zero, List.set_cons_succ]
  refine wpAnyU_take (i := 12) [13] rfl (by kernel_rfl) (by kernel_rfl) (by kernel_rfl) (by kernel_rfl) (by kernel_rfl) (by kernel_rfl) (fun _ _ _ h => h) (Or.inl ⟨by rfl, (by intro W hSW; (try dsimp only at hSW); (try go_split_ands); go_simp <;> with_reducible rfl)⟩) hS5 ?_
  try simp only [Act.put, List.setIfInBounds_toArray, List.set_cons_zero, List.set_cons_succ]
  refine wpAnyU_one (i := 13) (by kernel_rfl) rfl (fun K hK => ?_)
  go_simp
  refine hK.out _ _ (fun h => absurd h (by decide)) (fun _ => ?_)
  clear hK K
  refine wpAnyU_done (by kernel_rfl) ?_ _

  obtain ⟨w6, hw6⟩ : ∃ w6, w5.setCell ⟨p, 1, none⟩ (.slice (some qa') (qs.length + 1) qc') = w6 := ⟨_, rfl⟩
  have h6 : TabL W0 w6 { (⟨T, P, W, N, pl, ws0, nm⟩ : TV) with pl := pl.set i (s, ⟨p, H, .slice (some qa') (qs.length + 1) qc', hs0, qs ++ [(o, m)]⟩) } := by
    have hTL := HTL.out
    have hb6 : w6.heap[p]? = some (.cells #[.map (some H), .slice (some qa') (qs.length + 1) qc'] 71 (0, 0)) := by
      rw [← hw6]
      have h9 := (H5.out.2.2.1 p (Array.getElem?_eq_some_iff.1 HP2.out.blk).1 (fun g hg => by obtain ⟨cur, hc⟩ := HQ2.out.blk hg; exact cells_ty_ne HP2.out.blk hc (by decide))).trans HP2.out.blk
      exact setCell_blkL h9 _
    have hq6 : QAt w6 (.slice (some qa') (qs.length + 1) qc') (qs ++ [(o, m)]) := H5.out.1.keep (fun g hg => by
      rw [← hw6]
      obtain ⟨cur, hc⟩ := H5.out.1.blk hg
      refine setCell_heapL _ _ _ _ (fun e9 => ?_)
      have h9 := (H5.out.2.2.1 p (Array.getElem?_eq_some_iff.1 HP2.out.blk).1 (fun g hg => by obtain ⟨cur, hc⟩ := HQ2.out.blk hg; exact cells_ty_ne HP2.out.blk hc (by decide))).trans HP2.out.blk
      exact cells_ty_ne h9 hc (by decide) e9.symm)
    have hk6 : ∀ k, k < w2.heap.size → k ≠ p → (∀ g, qblk (.slice qa qn qc) = some g → k ≠ g) → w6.heap[k]? = w2.heap[k]? := fun k hk hkp hkg => by
      rw [← hw6, setCell_heapL _ _ _ _ hkp]
      exact H5.out.2.2.1 k hk hkg
    have hsz : w2.heap.size ≤ w6.heap.size := by rw [← hw6, setCell_sizeL]; exact H5.out.2.2.2.1
    obtain ⟨l1, l2, l3⟩ := hTL.loP i _ HL.out.2
    have hbs := hTL.bl.size
    refine ⟨hTL.rep.queue HL.out.2 hb6 hq6 H5.out.2.1 hk6, ⟨?_, ?_, ?_, by omega, fun k hk => ?_⟩, hTL.lo, fun k y hy => ?_, hTL.loN⟩
    · rw [← hw6]; exact H5.out.2.2.2.2.1.trans hTL.bl.os
    · rw [← hw6]; exact H5.out.2.2.2.2.2.1.trans hTL.bl.tape
    · rw [← hw6]; exact H5.out.2.2.2.2.2.2.trans hTL.bl.output
    · rw [hk6 k (by omega) (by simp only at l1; omega) (fun g hg => by have := l3 g hg; omega), hTL.bl.block k hk]
    · rcases set_cases hy with ⟨rfl, rfl, -⟩ | ⟨-, h9⟩
      · exact ⟨l1, l2, fun g hg => (H5.out.2.1 g hg).elim (l3 g) (fun h8 => by have h8' : w2.heap.size ≤ g := h8; omega)⟩
      · exact hTL.loP k y h9
  have c8 : w6.cell? ⟨T, 1, none⟩ = some (.map (some W)) := cell_of_row w6 T 1 _ _ _ h6.rep.tab.blk
  obtain ⟨oW, huW, hgW⟩ := gmap_update (P := Try.prog) Try.underlying63 Try.underlying29 h6.rep.tab.wt o (.agg #[.string s, .int .i64 m])
  change (Instr.mapUpdate 63 (.map (some W)) (.int .u64 o) (.agg #[.string s, .int .i64 m])).run Try.prog w6 = _ at huW
  have hgm := gset_map (fun y : ByteArray × Int => Value.agg #[.string y.1, .int .i64 y.2]) ws0 o (s, m)
  have h7 : TabL W0 (setObjW w6 W oW) { (⟨T, P, W, N, pl, ws0, nm⟩ : TV) with pl := pl.set i (s, ⟨p, H, .slice (some qa') (qs.length + 1) qc', hs0, qs ++ [(o, m)]⟩), ws := kset ws0 o (s, m) } := by
    have hlo := h6.lo
    have hbs := h6.bl.size
    simp only at hlo
    refine ⟨h6.rep.waits (ws := kset ws0 o (s, m)) ?_ (fun k hk hkW => setObjW_other _ _ _ _ hkW), ⟨h6.bl.os, h6.bl.tape, h6.bl.output, by rw [setObjW_size]; exact h6.bl.size, fun k hk => by rw [setObjW_other _ _ _ _ (by omega), h6.bl.block k hk]⟩, h6.lo, h6.loP, h6.loN⟩
    have h9 := hgW
    unfold wsV at h9
    rw [hgm] at h9
    exact h9
  have H7 := Lib.hid h7
  clear h6 h7 hgW hgm H5 HTL HS HFZ hS0 hSa hS5
  try rw [hw6]
  go_wp2
  go_ret
  exact ⟨rfl, _, H7.out⟩
end Mun

