/- Texts of mine, one behind the other: LockQ, LockY, TbE, TbF, LockZ, TbG. -/
import Derived.Test.YtbdkhegfmnladaaMgD
import Derived.Laws.Append
import Derived.Test.YtbdkhegfmnladaaMgA
import Derived.Lib.Overlaps
import Derived.Lib.AppendZerosOnto
import Derived.Shelf.RegionOpenPlain
section
/- An ask laid behind a queue. -/
set_option maxRecDepth 100000
set_option linter.unusedVariables false
set_option linter.unusedSimpArgs false
namespace Mun
open Go Go.RowKit
open Go.Proofs

/-- an append where there is room, the slice beginning at whatever cell of its block -/
theorem run_append_room_off {P : Program} (w : World) (t ty e : TypeId) (i : TypeInfo) (ht : P.underlying t = some (.slice e)) (hi : P.info? e = some i)
    (g off sLen sCap : Nat) (cur : Array Value) (hg : w.heap[g]? = some (.cells cur e (0, 0)))
    (a : Addr) (m c : Nat) (news : List Value) (hl : news.length = m * i.size) (hnews : ∀ j u, news[j]? = some u → w.cell? (a.add j) = some u) (h1 : ∀ u ∈ news, u.oneCell' = true)
    (hroom : sLen + m ≤ sCap) (hfit : off + sLen * i.size + news.length ≤ cur.size) :
    (Builtin.append_ #[t, t] ty #[.slice (some ⟨g, off, none⟩) sLen sCap, .slice (some a) m c]).run P w =
      .ok (.slice (some ⟨g, off, none⟩) (sLen + m) sCap) (w.setRow g (cur.toList.take (off + sLen * i.size) ++ news ++ cur.toList.drop (off + sLen * i.size + news.length)).toArray) := by
  have hf := run_firstCells_some (P := P) w i.size m a m c news hl hnews
  have hst := run_storeCells_at P g (off + sLen * i.size) e news 0 cur w hg (by simpa using hfit) h1
  simp only [Nat.add_zero] at hst
  have ha : (⟨g, off, none⟩ : Addr).add (sLen * i.size) = ⟨g, off + sLen * i.size, none⟩ := addr_add _ _ _
  simp [Builtin.append_, run_underlying ht, Go.sizeOf, typeInfo, hi, Builtin.lenOf, hroom, hf, ha, hst]

theorem info_ask : (Try.prog.info? 77).map (fun i => (i.zero, i.size, i.bytes)) = some (some (.agg #[.int .u64 0, .int .i64 0]), 2, 16) := by kernel_rfl

theorem acells_snoc (l : List (Int × Int)) (o m : Int) : acells (l ++ [(o, m)]) = acells l ++ [.int .u64 o, .int .i64 m] := by simp [acells]

theorem setRow_otherL (w : World) (b : Nat) (cs : Array Value) (k : Nat) (hk : k ≠ b) : (w.setRow b cs).heap[k]? = w.heap[k]? := by
  have h : b ≠ k := fun e => hk e.symm
  simp [World.setRow, Array.getElem?_modify, h]

theorem queue_push {w : World} {q : Value} {l : List (Int × Int)} (h : QAt w q l) (hn : l.length ≤ 8796093022200) (o m : Int) (ty : TypeId) :
    ∃ q' w', (Builtin.append_ #[69, 69] ty #[q, .slice (some ⟨w.heap.size, 0, none⟩) 1 1]).run Try.prog (w.alloc (.cells #[.int .u64 o, .int .i64 m] 77)) = .ok q' w' ∧
      QAt w' q' (l ++ [(o, m)]) ∧ (∀ g, qblk q' = some g → qblk q = some g ∨ w.heap.size ≤ g) ∧ (∀ k, k < w.heap.size → (∀ g, qblk q = some g → k ≠ g) → w'.heap[k]? = w.heap[k]?) ∧ w.heap.size ≤ w'.heap.size ∧
      (w'.os = w.os ∧ w'.tape = w.tape ∧ w'.output = w.output) ∧ ∃ a c, q' = .slice (some a) (l.length + 1) c := by
  obtain ⟨i, hi, hz, h1, h2⟩ := info_of info_ask
  have hnb : (w.alloc (.cells #[.int .u64 o, .int .i64 m] 77)).heap[w.heap.size]? = some (.cells #[.int .u64 o, .int .i64 m] 77 (0, 0)) := heap_alloc_new w _
  have hnews : ∀ j u, [Value.int .u64 o, .int .i64 m][j]? = some u → (w.alloc (.cells #[.int .u64 o, .int .i64 m] 77)).cell? ((⟨w.heap.size, 0, none⟩ : Addr).add j) = some u := by
    intro j u hu
    rw [addr_add, Nat.zero_add, cell_of_row _ _ _ _ _ _ hnb]
    simpa using hu
  have hone : ∀ u ∈ [Value.int .u64 o, .int .i64 m], u.oneCell' = true := by intro u hu; simp at hu; rcases hu with rfl | rfl <;> rfl
  rcases h with ⟨rfl, rfl⟩ | ⟨g, off, c, cur, rfl, hg, hlc, hcm, hfit, hrd⟩
  · have hr := run_append_nil (P := Try.prog) (w := w.alloc (.cells #[.int .u64 o, .int .i64 m] 77)) 69 ty 77 i _ Try.underlying69 hi hz ⟨w.heap.size, 0, none⟩ 1 1 [.int .u64 o, .int .i64 m] (by rw [h1]; rfl) hnews (by decide) (by decide) (by rw [h2]; decide)
    have hcap := grownCap_ge (w.alloc (.cells #[.int .u64 o, .int .i64 m] 77)) 1 0 77
    have hcap2 := grownCap_le_maxLen (w.alloc (.cells #[.int .u64 o, .int .i64 m] 77)) 1 0 77 (by decide)
    refine ⟨_, _, hr, .inr ⟨_, 0, _, _, rfl, heap_alloc_new _ _, hcap, hcap2, ?_, ?_⟩, fun g hg => ?_, fun k hk _ => ?_, ?_, ⟨rfl, rfl, rfl⟩, _, _, rfl⟩
    · have hz2 : (Value.agg #[.int .u64 0, .int .i64 0]).cells.size = 2 := rfl
      simp only [Array.size_append, List.size_toArray, List.length_cons, List.length_nil, size_zeroCells, hz2]
      omega
    · simp [acells]
    · simp only [qblk, Option.some.injEq] at hg
      right
      rw [← hg]
      simp
    · rw [heap_alloc_old _ _ (by simp; omega)]
      exact heap_alloc_old _ _ hk
    · simp [World.size_alloc]; omega
  · have hga : (w.alloc (.cells #[.int .u64 o, .int .i64 m] 77)).heap[g]? = some (.cells cur 77 (0, 0)) := (heap_alloc_old _ _ (Array.getElem?_eq_some_iff.1 hg).1).trans hg
    have hgl := (Array.getElem?_eq_some_iff.1 hg).1
    have hal := acells_length l
    by_cases hroom : l.length + 1 ≤ c
    · have hr := run_append_room_off (P := Try.prog) (w.alloc (.cells #[.int .u64 o, .int .i64 m] 77)) 69 ty 77 i Try.underlying69 hi g off l.length c cur hga ⟨w.heap.size, 0, none⟩ 1 1 [.int .u64 o, .int .i64 m] (by rw [h1]; rfl) hnews hone hroom (by rw [h1]; simp; omega)
      rw [h1] at hr
      refine ⟨_, _, hr, .inr ⟨g, off, c, _, by rw [List.length_append]; rfl, setRow_heap _ _ _ _ _ _ hga, by rw [List.length_append]; exact hroom, hcm, ?_, ?_⟩, fun g2 hg2 => .inl hg2, fun k hk hkg => ?_, ?_, ⟨rfl, rfl, rfl⟩, _, _, rfl⟩
      · simp only [List.size_toArray, List.length_append, List.length_take, List.length_drop, Array.length_toList, List.length_cons, List.length_nil]
        omega
      · rw [acells_snoc, List.length_append]
        simp only [List.toList_toArray, List.length_cons, List.length_nil]
        have hlen1 : (cur.toList.take (off + l.length * 2)).length = off + l.length * 2 := by rw [List.length_take, show cur.toList.length = cur.size from Array.length_toList]; omega
        rw [List.append_assoc, List.drop_append_of_le_length (by rw [hlen1]; omega)]
        have e1 : (cur.toList.take (off + l.length * 2)).drop off = acells l := by rw [List.drop_take, Nat.add_sub_cancel_left]; exact hrd
        rw [e1, ← List.append_assoc, List.take_append_of_le_length (by rw [List.length_append, hal]; simp; omega), List.take_of_length_le (by rw [List.length_append, hal]; simp; omega)]
      · rw [setRow_otherL _ _ _ _ (hkg g rfl)]
        exact heap_alloc_old _ _ hk
      · simp [World.setRow, World.size_alloc]
    · have hcn : c = l.length := by omega
      have holds : ∀ j u, (acells l)[j]? = some u → (w.alloc (.cells #[.int .u64 o, .int .i64 m] 77)).cell? ((⟨g, off, none⟩ : Addr).add j) = some u := by
        intro j u hu
        rw [addr_add, cell_of_row _ _ _ _ _ _ hga, ← Array.getElem?_toList]
        rw [← hrd, List.getElem?_take] at hu
        split at hu
        · rw [List.getElem?_drop] at hu; exact hu
        · cases hu
      have hr := run_append_grow (P := Try.prog) (w := w.alloc (.cells #[.int .u64 o, .int .i64 m] 77)) 69 ty 77 i _ Try.underlying69 hi hz ⟨g, off, none⟩ l.length c (acells l) (by rw [h1]; exact hal) holds ⟨w.heap.size, 0, none⟩ 1 1 [.int .u64 o, .int .i64 m] (by rw [h1]; rfl) hnews (by omega) (by omega) (growslice_fits (by omega) (by rw [h2]; omega))
      have hcap := grownCap_ge (w.alloc (.cells #[.int .u64 o, .int .i64 m] 77)) (l.length + 1) c 77
      have hcap2 := grownCap_le_maxLen (w.alloc (.cells #[.int .u64 o, .int .i64 m] 77)) (l.length + 1) c 77 (by unfold maxLen; omega)
      refine ⟨_, _, hr, .inr ⟨_, 0, _, _, by rw [List.length_append]; rfl, heap_alloc_new _ _, by rw [List.length_append]; exact hcap, hcap2, ?_, ?_⟩, fun g2 hg2 => ?_, fun k hk _ => ?_, ?_, ⟨rfl, rfl, rfl⟩, _, _, rfl⟩
      · have hz2 : (Value.agg #[.int .u64 0, .int .i64 0]).cells.size = 2 := rfl
        simp only [Array.size_append, List.size_toArray, List.length_cons, List.length_nil, size_zeroCells, hz2, hal]
        omega
      · rw [acells_snoc, List.length_append]
        simp only [Array.toList_append, List.drop_zero, List.toList_toArray, List.length_cons, List.length_nil]
        rw [List.take_append_of_le_length (by rw [List.length_append, hal]; simp; omega), List.take_of_length_le (by rw [List.length_append, hal]; simp; omega)]
      · simp only [qblk, Option.some.injEq] at hg2
        right
        rw [← hg2]
        simp
      · rw [heap_alloc_old _ _ (by simp; omega)]
        exact heap_alloc_old _ _ hk
      · simp [World.size_alloc]; omega
end Mun
end

section
/- Contracts of Ask over a whole table, where the owner must wait at the end of the queue. -/
set_option maxRecDepth 100000
set_option linter.unusedVariables false
set_option linter.unusedSimpArgs false
namespace Mun
open Go Go.RowKit
open Go.Proofs

def QPost (w : World) (q : Value) (l : List (Int × Int)) (o m : Int) (e : Ending) (w' : World) : Prop :=
  ∃ q', e = .returned q' ∧ QAt w' q' (l ++ [(o, m)]) ∧ (∀ g, qblk q' = some g → qblk q = some g ∨ w.heap.size ≤ g) ∧ (∀ k, k < w.heap.size → (∀ g, qblk q = some g → k ≠ g) → w'.heap[k]? = w.heap[k]?) ∧ w.heap.size ≤ w'.heap.size ∧
    (w'.os = w.os ∧ w'.tape = w.tape ∧ w'.output = w.output) ∧ ∃ a c, q' = .slice (some a) (l.length + 1) c

theorem slice_ask_end (a : Option Addr) (n c : Nat) (h : n ≤ c) : ∃ v, ∀ W, (Instr.sliceAt 69 (.slice a n c) (some (.int .i64 n)) none none).run Try.prog W = .ok v W := by
  obtain ⟨i, hi', hz, hs1, hs2⟩ := info_of info_ask
  have he : Try.prog.elem 69 = 77 := by kernel_rfl
  have ht : Try.prog.underlying 69 = some (.slice (Try.prog.elem 69)) := by rw [he]; exact Try.underlying69
  refine ⟨sliced a n n c 2, fun W => ?_⟩
  rw [run_sliceAt_slice _ _ _ _ _ _ ht, run_slice_l _ _ _ _ _ ht _ _ (by omega) (by omega), he]
  simp [Go.sizeOf, typeInfo, hi', hs1]

theorem insert_end {w : World} {q : Value} {l : List (Int × Int)} (h : QAt w q l) (hn : l.length ≤ 8796093022200) (o m : Int) :
    Calls Try.prog 33 #[q, .int .i64 l.length, .slice (some ⟨w.heap.size, 0, none⟩) 1 1] (w.alloc (.cells #[.int .u64 o, .int .i64 m] 77)) (QPost w q l o m) := by
  obtain ⟨q', w', hr, hpost⟩ := queue_push h hn o m 69
  obtain ⟨a, n, c, rfl, hnl, hnc⟩ : ∃ a n c, q = .slice a n c ∧ n = l.length ∧ n ≤ c := by
    rcases h with ⟨rfl, rfl⟩ | ⟨g, off, c, cur, rfl, -, h1, -⟩
    · exact ⟨none, 0, 0, rfl, rfl, Nat.le_refl _⟩
    · exact ⟨_, _, _, rfl, rfl, h1⟩
  obtain ⟨v, hsl⟩ := slice_ask_end a n c hnc
  have HP : Hid (QPost w (.slice a n c) l o m (.returned q') w') := ⟨q', rfl, hpost⟩
  have HR := Lib.hid hr
  rw [← hnl]
  have hn0 : (n : Int) ≤ 8796093022200 := by omega
  have HN0 := Lib.hid hn0
  clear hr hpost h hn hnl hnc hn0
  go_enter Try.func33, Try.ntmps33
  go_wp2_with ((at_builtin; refine wpList_append_eq rfl rfl HR.out rfl rfl ?_; clear HR))
  go_ret
  exact HP.out

theorem setCell_blkL {w : World} {g i : Nat} {cs : Array Value} {ty : TypeId} {fr : Nat × Nat} (h : w.heap[g]? = some (.cells cs ty fr)) (v : Value) : (w.setCell ⟨g, i, none⟩ v).heap[g]? = some (.cells (cs.setIfInBounds i v) ty fr) := by
  simp [World.setCell, Array.getElem?_modify, h]

set_option maxHeartbeats 1000000 in
/-- an owner that holds nothing there must wait: nobody waits yet, and the holders do not let it -/
theorem ask_later2 {W0 w : World} {t : TV} (h : TabL W0 w t) {i : Nat} {s : ByteArray} {x : PV} (hx : t.pl[i]? = some (s, x)) (hpa : klook t.pl s = some x) (o m : Int) (ho : o ≠ 0) (him : isM m = true) (hw : klook t.ws o = none) (hh : klook x.hs o = none) (hqs : x.qs = []) (hg : goesP (hsV x.hs) o m = false) :
    Calls Try.prog 17 #[.pointer (some ⟨t.T, 0, none⟩), .int .u64 o, .string s, .int .i64 m] w fun e w' => e = .returned (.int .i64 10) ∧ ∃ q', TabL W0 w' { t with pl := t.pl.set i (s, { x with q := q', qs := x.qs ++ [(o, m)] }), ws := kset t.ws o (s, m) } := by
  have hpa2 : glook (plV t.pl) s = some (.pointer (some ⟨x.p, 0, none⟩)) := by
    have h9 := glook_map (fun y : PV => Value.pointer (some ⟨y.p, 0, none⟩)) t.pl s
    rw [hpa] at h9
    exact h9
  have hw2 : glook (wsV t.ws) o = none := by
    have h9 := glook_map (fun y : ByteArray × Int => Value.agg #[.string y.1, .int .i64 y.2]) t.ws o
    rw [hw] at h9
    exact h9
  have hhl : glook (hsV x.hs) o = (klook x.hs o).map (fun k : Int => Value.int .i64 k) := glook_map (fun k : Int => Value.int .i64 k) x.hs o
  have hm : ModesAt (hsV x.hs) := fun q hq => by obtain ⟨y, -, rfl⟩ := List.mem_map.1 hq; exact ⟨y.2, rfl⟩
  have ht := h.rep.tab
  have hpl := h.rep.pls i _ hx
  have HL := Lib.hid (And.intro h hx)
  obtain ⟨T, P, W, N, pl, ws0, nm⟩ := t
  obtain ⟨p, H, q, hs0, qs⟩ := x
  simp only at ht hpl hpa2 hw2 hhl hm ⊢
  obtain ⟨hp, hq⟩ := hpl
  obtain ⟨ps, hps⟩ : ∃ ps, plV pl = ps := ⟨_, rfl⟩
  obtain ⟨ws, hws⟩ : ∃ ws, wsV ws0 = ws := ⟨_, rfl⟩
  obtain ⟨ns, hns⟩ : ∃ ns, nmV nm = ns := ⟨_, rfl⟩
  obtain ⟨hs, hhs⟩ : ∃ hs, hsV hs0 = hs := ⟨_, rfl⟩
  rw [hps, hws, hns] at ht
  rw [hps] at hpa2
  rw [hws] at hw2
  rw [hhs] at hhl hm hp
  have hh2 : glook hs o = none := by rw [hhl, show klook hs0 o = none from hh]; rfl
  rw [show hsV (PV.hs ⟨p, H, q, hs0, qs⟩) = hs from hhs] at hg
  obtain ⟨qa, qn, qc, rfl, hqn⟩ : ∃ qa qn qc, q = .slice qa qn qc ∧ qs.length = qn := by
    rcases hq with ⟨e, e2⟩ | ⟨g, off, c, cur, e, -⟩
    · exact ⟨none, 0, 0, e, by rw [e2]; rfl⟩
    · exact ⟨some ⟨g, off, none⟩, _, c, e, rfl⟩
  have hql : qs.length ≤ 8796093022200 := by rw [show qs = [] from hqs]; decide
  have hq0 : qn = 0 := by rw [← hqn, show qs = [] from hqs]; rfl
  subst hq0
  have hims := isMode_any w m
  rw [him] at hims
  have hob : (o == 0) = false := by simpa using ho
  have c1 : w.cell? ⟨T, 1, none⟩ = some (.map (some W)) := cell_of_row w T 1 _ _ _ ht.blk
  have hl1 := gmap_lookup (P := Try.prog) Try.underlying63 Try.underlying29 (z33 w) ht.wt o
  rw [hw2] at hl1
  change (Instr.lookup 63 (.map (some W)) (.int .u64 o) true).run Try.prog w = .ok (.tuple #[.agg #[.string ⟨#[]⟩, .int .i64 0], .bool false]) w at hl1
  obtain ⟨wA, hwA⟩ : ∃ wA, w.alloc (.cells #[.string ⟨#[]⟩, .int .i64 0] 33) = wA := ⟨_, rfl⟩
  have kA : ∀ k, k < w.heap.size → wA.heap[k]? = w.heap[k]? := fun k hk => by rw [← hwA, heap_alloc_old _ _ hk]
  have sA : wA.heap.size = w.heap.size + 1 := by rw [← hwA, World.size_alloc]
  have htA := ht.keep kA
  have hpA := hp.keep kA
  have c2 : wA.cell? ⟨T, 0, none⟩ = some (.map (some P)) := cell_of_row wA T 0 _ _ _ htA.blk
  have hl2 := gmap_lookup1 (P := Try.prog) Try.underlying62 Try.underlying9 (z67 wA) htA.pl s
  rw [hpa2] at hl2
  change (Instr.lookup 62 (.map (some P)) (.string s) false).run Try.prog wA = .ok (.pointer (some ⟨p, 0, none⟩)) wA at hl2
  obtain ⟨wB, hwB⟩ : ∃ wB, wA.alloc (.cells #[.pointer (some ⟨p, 0, none⟩)] 67) = wB := ⟨_, rfl⟩
  have kB : ∀ k, k < wA.heap.size → wB.heap[k]? = wA.heap[k]? := fun k hk => by rw [← hwB, heap_alloc_old _ _ hk]
  have sB : wB.heap.size = w.heap.size + 2 := by rw [← hwB, World.size_alloc, sA]
  have htB := htA.keep kB
  have hpB := hpA.keep kB
  have nB : wB.heap[w.heap.size + 1]? = some (.cells #[.pointer (some ⟨p, 0, none⟩)] 67 (0, 0)) := by rw [← hwB, ← sA]; exact heap_alloc_new wA _
  have c3 : wB.cell? ⟨w.heap.size + 1, 0, none⟩ = some (.pointer (some ⟨p, 0, none⟩)) := cell_of_row wB _ 0 _ _ _ nB
  have c4 : wB.cell? ⟨p, 0, none⟩ = some (.map (some H)) := cell_of_row wB p 0 _ _ _ hpB.blk
  have c5 : wB.cell? ⟨p, 1, none⟩ = some (.slice qa 0 qc) := cell_of_row wB p 1 _ _ _ hpB.blk
  have hl3 := gmap_lookup (P := Try.prog) Try.underlying68 Try.underlying29 (z3 wB) hpB.hl o
  rw [hh2] at hl3
  change (Instr.lookup 68 (.map (some H)) (.int .u64 o) true).run Try.prog wB = .ok (.tuple #[.int .i64 0, .bool false]) wB at hl3
  have hgo := goes_any wB p H _ hs o m hpB hm
  rw [hg] at hgo
  have HG := Lib.hid hgo
  have HN := Lib.hid nB
  have HPB := Lib.hid hpB
  have HQB := Lib.hid (hq.keep (w' := wB) (fun g hg2 => by obtain ⟨cur, hc⟩ := hq.blk hg2; have h9 := (Array.getElem?_eq_some_iff.1 hc).1; exact (kB g (by omega)).trans (kA g h9)))
  have HQN : Hid (qs.length = 0 ∧ qs.length ≤ 8796093022200) := ⟨hqn, hql⟩
  have HBB : Hid (Below w.heap.size w wB) := by
    show Below _ _ _
    rw [← hwB, ← hwA]
    exact below_more (below_more (Below.refl _ _) _) _
  clear hqn hql hq hqs ht hp htA hpA htB hpB kA kB sA sB hgo nB h hx
  subst hwB
  subst hwA
  go_enter Try.func17, Try.ntmps17
  go_wp2_with fail
  refine hims.mono ?_
  rintro e w' ⟨rfl, rfl⟩
  go_wp2_with fail
  refine HG.out.mono ?_
  rintro e w2 ⟨rfl, hb2⟩
  have k2 : ∀ k, k < _ → w2.heap[k]? = _ := fun k hk => hb2.block k hk
  have nB2 : w2.heap[w'.heap.size + 1]? = _ := (k2 _ (Array.getElem?_eq_some_iff.1 HN.out).1).trans HN.out
  have hp2 := HPB.out.keep k2
  have hq2' := HQB.out.keep (w' := w2) (fun g hg2 => by obtain ⟨cur, hc⟩ := HQB.out.blk hg2; exact k2 g (Array.getElem?_eq_some_iff.1 hc).1)
  have c6 : w2.cell? ⟨w'.heap.size + 1, 0, none⟩ = some (.pointer (some ⟨p, 0, none⟩)) := cell_of_row w2 _ 0 _ _ _ nB2
  have c7 : w2.cell? ⟨p, 1, none⟩ = some (.slice qa 0 qc) := cell_of_row w2 p 1 _ _ _ hp2.blk
  have HP2 := Lib.hid hp2
  have HQ2 := Lib.hid hq2'
  have HN2 := Lib.hid nB2
  have HTL := Lib.hid ((HL.out.1.below HBB.out).below hb2)
  clear hp2 hq2' nB2 k2 hb2
  have hq2 : QAt w2.drew (.slice qa 0 qc) qs := HQ2.out
  have hin : Calls Try.prog 33 #[.slice qa 0 qc, .int .i64 0, .slice (some ⟨w2.heap.size, 0, none⟩) 1 1] ((w2.alloc (.cells #[.int .u64 o, .int .i64 m] 77)).drew) (QPost w2.drew (.slice qa 0 qc) qs o m) := by
    have h9 := insert_end hq2 HQN.out.2 o m
    rw [HQN.out.1] at h9
    exact h9
  unfold QPost at hin
  have HIN := Lib.hid hin
  have hlt6 : w'.heap.size + 1 < w2.heap.size := (Array.getElem?_eq_some_iff.1 HN2.out).1
  have hlt7 : p < w2.heap.size := (Array.getElem?_eq_some_iff.1 HP2.out.blk).1
  have hnq : ∀ g, qblk (.slice qa 0 qc) = some g → w'.heap.size + 1 ≠ g ∧ p ≠ g := fun g hg => by
    obtain ⟨cur, hc⟩ := HQ2.out.blk hg
    exact ⟨cells_ty_ne HN2.out hc (by decide), cells_ty_ne HP2.out.blk hc (by decide)⟩
  have HS : Hid (∀ W : World, (∀ k, k < w2.heap.size → (∀ g, qblk (.slice qa 0 qc) = some g → k ≠ g) → W.heap[k]? = w2.heap[k]?) → W.cell? ⟨w'.heap.size + 1, 0, none⟩ = some (.pointer (some ⟨p, 0, none⟩)) ∧ W.cell? ⟨p, 1, none⟩ = some (.slice qa 0 qc)) := by
    show ∀ _, _
    intro W hk
    exact ⟨cell_of_row W _ 0 _ _ _ ((hk _ hlt6 (fun g hg => (hnq g hg).1)).trans HN2.out), cell_of_row W p 1 _ _ _ ((hk _ hlt7 (fun g hg => (hnq g hg).2)).trans HP2.out.blk)⟩
  have HFZ : Hid (∀ W : World, (∀ k, k < w2.heap.size → (∀ g, qblk (.slice qa 0 qc) = some g → k ≠ g) → W.heap[k]? = w2.heap[k]?) → W.frozen? ⟨p, 1, none⟩ = false) := by
    show ∀ _, _
    intro W hk
    have h9 := (hk _ hlt7 (fun g hg => (hnq g hg).2)).trans HP2.out.blk
    simp [World.frozen?, h9]
  have hS0 : w2.drew.cell? ⟨w'.heap.size + 1, 0, none⟩ = some (.pointer (some ⟨p, 0, none⟩)) ∧ w2.drew.cell? ⟨p, 1, none⟩ = some (.slice qa 0 qc) := HS.out w2.drew (fun _ _ _ => rfl)
  have hSa : (w2.alloc (.cells #[.int .u64 o, .int .i64 m] 77)).drew.cell? ⟨w'.heap.size + 1, 0, none⟩ = some (.pointer (some ⟨p, 0, none⟩)) ∧ (w2.alloc (.cells #[.int .u64 o, .int .i64 m] 77)).drew.cell? ⟨p, 1, none⟩ = some (.slice qa 0 qc) := HS.out _ (fun k hk _ => heap_alloc_old w2 _ hk)
  clear hin hlt6 hlt7 hnq hq2
  go_upto_region 23 with (fail)
  refine wp_region_U (fun W => W.cell? ⟨w'.heap.size + 1, 0, none⟩ = some (.pointer (some ⟨p, 0, none⟩)) ∧ W.cell? ⟨p, 1, none⟩ = some (.slice qa 0 qc)) [13] (by kernel_rfl) ?_
  refine wpAnyU_take (i := 0) [11, 12, 13] rfl (by kernel_rfl) (by kernel_rfl) (by kernel_rfl) (by kernel_rfl) (by kernel_rfl) (by kernel_rfl) (fun _ _ _ h => h) (Or.inl ⟨by rfl, (by intro W hSW; (try dsimp only at hSW); (try go_split_ands); go_simp <;> with_reducible rfl)⟩) hS0 ?_
  try simp only [Act.put, List.setIfInBounds_toArray, List.set_cons_zero, List.set_cons_succ]
  refine wpAnyU_take (i := 1) [2, 3, 4, 10, 11, 12, 13] rfl (by kernel_rfl) (by kernel_rfl) (by kernel_rfl) (by kernel_rfl) (by kernel_rfl) (by kernel_rfl) (fun _ _ _ h => h) (Or.inl ⟨by rfl, (by intro W hSW; (try dsimp only at hSW); (try go_split_ands); go_simp <;> with_reducible rfl)⟩) hS0 ?_
  try simp only [Act.put, List.setIfInBounds_toArray, List.set_cons_zero, List.set_cons_succ]
  refine wpAnyU_take (i := 2) [3, 4, 10, 11, 12, 13] rfl (by kernel_rfl) (by kernel_rfl) (by kernel_rfl) (by kernel_rfl) (by kernel_rfl) (by kernel_rfl) (fun _ _ _ h => h) (Or.inl ⟨by rfl, (by intro W hSW; (try dsimp only at hSW); (try go_split_ands); go_simp <;> with_reducible rfl)⟩) hS0 ?_
  try simp only [Act.put, List.setIfInBounds_toArray, List.set_cons_zero, List.set_cons_succ]
  refine wpAnyU_take (i := 3) [4, 10, 11, 12, 13] rfl (by kernel_rfl) (by kernel_rfl) (by kernel_rfl) (by kernel_rfl) (by kernel_rfl) (by kernel_rfl) (fun _ _ _ h => h) (Or.inl ⟨by rfl, (by intro W hSW; (try dsimp only at hSW); (try go_split_ands); go_simp <;> with_reducible rfl)⟩) hS0 ?_
  try simp only [Act.put, List.setIfInBounds_toArray, List.set_cons_zero, List.set_cons_succ]
  refine wpAnyU_take (i := 4) [10, 11, 12, 13] rfl (by kernel_rfl) (by kernel_rfl) (by kernel_rfl) (by kernel_rfl) (by kernel_rfl) (by kernel_rfl) (fun _ _ _ h => h) (Or.inl ⟨by rfl, (by intro W hSW; (try dsimp only at hSW); (try go_split_ands); go_simp <;> with_reducible rfl)⟩) hS0 ?_
  try simp only [Act.put, List.setIfInBounds_toArray, List.set_cons_zero, List.set_cons_succ]
  refine wpAnyU_take (i := 5) [10, 11, 12, 13] rfl (by kernel_rfl) (by kernel_rfl) (by kernel_rfl) (by kernel_rfl) (by kernel_rfl) (by kernel_rfl) (fun _ _ _ h => h) (Or.inl ⟨by rfl, (by intro W hSW; (try dsimp only at hSW); (try go_split_ands); go_simp <;> with_reducible rfl)⟩) hS0 ?_
  try simp only [Act.put, List.setIfInBounds_toArray, List.set_cons_zero, List.set_cons_succ]
  refine wpAnyU_take (i := 6) [8, 9, 10, 11, 12, 13] rfl (by kernel_rfl) (by kernel_rfl) (by kernel_rfl) (by kernel_rfl) (by kernel_rfl) (by kernel_rfl) (fun _ _ _ h => h) (Or.inl ⟨by rfl, (by intro W hSW; (try dsimp only at hSW); (try go_split_ands); go_simp <;> with_reducible rfl)⟩) hS0 ?_
  try simp only [Act.put, List.setIfInBounds_toArray, List.set_cons_zero, List.set_cons_succ]
  refine wpAnyU_take (i := 7) [8, 9, 10, 11, 12, 13] rfl (by kernel_rfl) (by kernel_rfl) (by kernel_rfl) (by kernel_rfl) (by kernel_rfl) (by kernel_rfl) (fun _ _ _ h => h) (Or.inl ⟨by rfl, (by intro W hSW; (try dsimp only at hSW); (try go_split_ands); go_simp <;> with_reducible rfl)⟩) hS0 ?_
  try simp only [Act.put, List.setIfInBounds_toArray, List.set_cons_zero, List.set_cons_succ]
  refine wpAnyU_take (i := 8) [9, 10, 11, 12, 13] rfl (by kernel_rfl) (by kernel_rfl) (by kernel_rfl) (by kernel_rfl) (by kernel_rfl) (by kernel_rfl) (fun _ _ _ h => h) (Or.inl ⟨by rfl, (by intro W hSW; (try dsimp only at hSW); (try go_split_ands); go_simp <;> with_reducible rfl)⟩) hS0 ?_
  try simp only [Act.put, List.setIfInBounds_toArray, List.set_cons_zero, List.set_cons_succ]
  refine wpAnyU_one (i := 9) (by kernel_rfl) rfl (fun K hK => ?_)
  go_simp
  refine hK.out _ _ (fun _ => hSa) (fun _ => ?_)
  clear hK K
  refine wpAnyU_one (i := 10) (by kernel_rfl) rfl (fun K hK => ?_)
  go_simp
  go_at_call 33
  refine HIN.out.mono ?_
  rintro e w5 ⟨q', rfl, hq5, hqb5, hk5, hs5, ⟨x1, x2, x3⟩, qa', qc', rfl⟩
  have hS5 : w5.cell? ⟨w'.heap.size + 1, 0, none⟩ = some (.pointer (some ⟨p, 0, none⟩)) ∧ w5.cell? ⟨p, 1, none⟩ = some (.slice qa 0 qc) := HS.out w5 hk5
  have f5 : w5.frozen? ⟨p, 1, none⟩ = false := HFZ.out w5 hk5
  have H5 := Lib.hid (And.intro hq5 (And.intro hqb5 (And.intro hk5 (And.intro hs5 (And.intro x1 (And.intro x2 x3))))))
  clear hq5 hqb5 hk5 hs5 x1 x2 x3 HIN
  refine hK.out _ _ (fun _ => hS5) (fun _ => ?_)
  clear hK K
  refine wpAnyU_take (i := 11) [12, 13] rfl (by kernel_rfl) (by kernel_rfl) (by kernel_rfl) (by kernel_rfl) (by kernel_rfl) (by kernel_rfl) (fun _ _ _ h => h) (Or.inl ⟨by rfl, (by intro W hSW; (try dsimp only at hSW); (try go_split_ands); go_simp <;> with_reducible rfl)⟩) hS5 ?_
  try simp only [Act.put, List.setIfInBounds_toArray, List.set_cons_zero, List.set_cons_succ]
  refine wpAnyU_take (i := 12) [13] rfl (by kernel_rfl) (by kernel_rfl) (by kernel_rfl) (by kernel_rfl) (by kernel_rfl) (by kernel_rfl) (fun _ _ _ h => h) (Or.inl ⟨by rfl, (by intro W hSW; (try dsimp only at hSW); (try go_split_ands); go_simp <;> with_reducible rfl)⟩) hS5 ?_
  try simp only [Act.put, List.setIfInBounds_toArray, List.set_cons_zero, List.set_cons_succ]
  refine wpAnyU_one (i := 13) (by kernel_rfl) rfl (fun K hK => ?_)
  go_simp
  refine hK.out _ _ (fun h => absurd h (by decide)) (fun _ => ?_)
  clear hK K
  refine wpAnyU_done (by kernel_rfl) ?_ _

  obtain ⟨w6, hw6⟩ : ∃ w6, w5.setCell ⟨p, 1, none⟩ (.slice (some qa') (qs.length + 1) qc') = w6 := ⟨_, rfl⟩
  have h6 : TabL W0 w6 { (⟨T, P, W, N, pl, ws0, nm⟩ : TV) with pl := pl.set i (s, ⟨p, H, .slice (some qa') (qs.length + 1) qc', hs0, qs ++ [(o, m)]⟩) } := by
    have hTL := HTL.out
    have hb6 : w6.heap[p]? = some (.cells #[.map (some H), .slice (some qa') (qs.length + 1) qc'] 71 (0, 0)) := by
      rw [← hw6]
      have h9 := (H5.out.2.2.1 p (Array.getElem?_eq_some_iff.1 HP2.out.blk).1 (fun g hg => by obtain ⟨cur, hc⟩ := HQ2.out.blk hg; exact cells_ty_ne HP2.out.blk hc (by decide))).trans HP2.out.blk
      exact setCell_blkL h9 _
    have hq6 : QAt w6 (.slice (some qa') (qs.length + 1) qc') (qs ++ [(o, m)]) := H5.out.1.keep (fun g hg => by
      rw [← hw6]
      obtain ⟨cur, hc⟩ := H5.out.1.blk hg
      refine setCell_heapL _ _ _ _ (fun e9 => ?_)
      have h9 := (H5.out.2.2.1 p (Array.getElem?_eq_some_iff.1 HP2.out.blk).1 (fun g hg => by obtain ⟨cur, hc⟩ := HQ2.out.blk hg; exact cells_ty_ne HP2.out.blk hc (by decide))).trans HP2.out.blk
      exact cells_ty_ne h9 hc (by decide) e9.symm)
    have hk6 : ∀ k, k < w2.heap.size → k ≠ p → (∀ g, qblk (.slice qa 0 qc) = some g → k ≠ g) → w6.heap[k]? = w2.heap[k]? := fun k hk hkp hkg => by
      rw [← hw6, setCell_heapL _ _ _ _ hkp]
      exact H5.out.2.2.1 k hk hkg
    have hsz : w2.heap.size ≤ w6.heap.size := by rw [← hw6, setCell_sizeL]; exact H5.out.2.2.2.1
    obtain ⟨l1, l2, l3⟩ := hTL.loP i _ HL.out.2
    have hbs := hTL.bl.size
    refine ⟨hTL.rep.queue HL.out.2 hb6 hq6 H5.out.2.1 hk6, ⟨?_, ?_, ?_, by omega, fun k hk => ?_⟩, hTL.lo, fun k y hy => ?_, hTL.loN⟩
    · rw [← hw6]; exact H5.out.2.2.2.2.1.trans hTL.bl.os
    · rw [← hw6]; exact H5.out.2.2.2.2.2.1.trans hTL.bl.tape
    · rw [← hw6]; exact H5.out.2.2.2.2.2.2.trans hTL.bl.output
    · rw [hk6 k (by omega) (by simp only at l1; omega) (fun g hg => by have := l3 g hg; omega), hTL.bl.block k hk]
    · rcases set_cases hy with ⟨rfl, rfl, -⟩ | ⟨-, h9⟩
      · exact ⟨l1, l2, fun g hg => (H5.out.2.1 g hg).elim (l3 g) (fun h8 => by have h8' : w2.heap.size ≤ g := h8; omega)⟩
      · exact hTL.loP k y h9
  have c8 : w6.cell? ⟨T, 1, none⟩ = some (.map (some W)) := cell_of_row w6 T 1 _ _ _ h6.rep.tab.blk
  obtain ⟨oW, huW, hgW⟩ := gmap_update (P := Try.prog) Try.underlying63 Try.underlying29 h6.rep.tab.wt o (.agg #[.string s, .int .i64 m])
  change (Instr.mapUpdate 63 (.map (some W)) (.int .u64 o) (.agg #[.string s, .int .i64 m])).run Try.prog w6 = _ at huW
  have hgm := gset_map (fun y : ByteArray × Int => Value.agg #[.string y.1, .int .i64 y.2]) ws0 o (s, m)
  have h7 : TabL W0 (setObjW w6 W oW) { (⟨T, P, W, N, pl, ws0, nm⟩ : TV) with pl := pl.set i (s, ⟨p, H, .slice (some qa') (qs.length + 1) qc', hs0, qs ++ [(o, m)]⟩), ws := kset ws0 o (s, m) } := by
    have hlo := h6.lo
    have hbs := h6.bl.size
    simp only at hlo
    refine ⟨h6.rep.waits (ws := kset ws0 o (s, m)) ?_ (fun k hk hkW => setObjW_other _ _ _ _ hkW), ⟨h6.bl.os, h6.bl.tape, h6.bl.output, by rw [setObjW_size]; exact h6.bl.size, fun k hk => by rw [setObjW_other _ _ _ _ (by omega), h6.bl.block k hk]⟩, h6.lo, h6.loP, h6.loN⟩
    have h9 := hgW
    unfold wsV at h9
    rw [hgm] at h9
    exact h9
  have H7 := Lib.hid h7
  clear h6 h7 hgW hgm H5 HTL HS HFZ hS0 hSa hS5
  try rw [hw6]
  go_wp2
  go_ret
  exact ⟨rfl, _, H7.out⟩

set_option maxHeartbeats 1000000 in
/-- an owner that holds nothing there must wait behind those that wait -/
theorem ask_behind {W0 w : World} {t : TV} (h : TabL W0 w t) {i : Nat} {s : ByteArray} {x : PV} (hx : t.pl[i]? = some (s, x)) (hpa : klook t.pl s = some x) (o m : Int) (ho : o ≠ 0) (him : isM m = true) (hw : klook t.ws o = none) (hh : klook x.hs o = none) (hqs : x.qs ≠ []) (hqx : x.qs.length ≤ 8796093022200) :
    Calls Try.prog 17 #[.pointer (some ⟨t.T, 0, none⟩), .int .u64 o, .string s, .int .i64 m] w fun e w' => e = .returned (.int .i64 10) ∧ ∃ q', TabL W0 w' { t with pl := t.pl.set i (s, { x with q := q', qs := x.qs ++ [(o, m)] }), ws := kset t.ws o (s, m) } := by
  have hpa2 : glook (plV t.pl) s = some (.pointer (some ⟨x.p, 0, none⟩)) := by
    have h9 := glook_map (fun y : PV => Value.pointer (some ⟨y.p, 0, none⟩)) t.pl s
    rw [hpa] at h9
    exact h9
  have hw2 : glook (wsV t.ws) o = none := by
    have h9 := glook_map (fun y : ByteArray × Int => Value.agg #[.string y.1, .int .i64 y.2]) t.ws o
    rw [hw] at h9
    exact h9
  have hhl : glook (hsV x.hs) o = (klook x.hs o).map (fun k : Int => Value.int .i64 k) := glook_map (fun k : Int => Value.int .i64 k) x.hs o
  have hm : ModesAt (hsV x.hs) := fun q hq => by obtain ⟨y, -, rfl⟩ := List.mem_map.1 hq; exact ⟨y.2, rfl⟩
  have ht := h.rep.tab
  have hpl := h.rep.pls i _ hx
  have HL := Lib.hid (And.intro h hx)
  obtain ⟨T, P, W, N, pl, ws0, nm⟩ := t
  obtain ⟨p, H, q, hs0, qs⟩ := x
  simp only at ht hpl hpa2 hw2 hhl hm ⊢
  obtain ⟨hp, hq⟩ := hpl
  obtain ⟨ps, hps⟩ : ∃ ps, plV pl = ps := ⟨_, rfl⟩
  obtain ⟨ws, hws⟩ : ∃ ws, wsV ws0 = ws := ⟨_, rfl⟩
  obtain ⟨ns, hns⟩ : ∃ ns, nmV nm = ns := ⟨_, rfl⟩
  obtain ⟨hs, hhs⟩ : ∃ hs, hsV hs0 = hs := ⟨_, rfl⟩
  rw [hps, hws, hns] at ht
  rw [hps] at hpa2
  rw [hws] at hw2
  rw [hhs] at hhl hm hp
  have hh2 : glook hs o = none := by rw [hhl, show klook hs0 o = none from hh]; rfl
  obtain ⟨qa, qn, qc, rfl, hqn⟩ : ∃ qa qn qc, q = .slice qa qn qc ∧ qs.length = qn := by
    rcases hq with ⟨e, e2⟩ | ⟨g, off, c, cur, e, -⟩
    · exact ⟨none, 0, 0, e, by rw [e2]; rfl⟩
    · exact ⟨some ⟨g, off, none⟩, _, c, e, rfl⟩
  have hql : qs.length ≤ 8796093022200 := hqx
  have t0 : ((qn : Int) == 0) = false := by have h9 : qn ≠ 0 := (fun e => hqs (List.eq_nil_of_length_eq_zero (by show qs.length = 0; omega))); simpa using h9
  have hqi : (0 : Int) ≤ (qn : Int) := by omega
  clear hqx
  have hims := isMode_any w m
  rw [him] at hims
  have hob : (o == 0) = false := by simpa using ho
  have c1 : w.cell? ⟨T, 1, none⟩ = some (.map (some W)) := cell_of_row w T 1 _ _ _ ht.blk
  have hl1 := gmap_lookup (P := Try.prog) Try.underlying63 Try.underlying29 (z33 w) ht.wt o
  rw [hw2] at hl1
  change (Instr.lookup 63 (.map (some W)) (.int .u64 o) true).run Try.prog w = .ok (.tuple #[.agg #[.string ⟨#[]⟩, .int .i64 0], .bool false]) w at hl1
  obtain ⟨wA, hwA⟩ : ∃ wA, w.alloc (.cells #[.string ⟨#[]⟩, .int .i64 0] 33) = wA := ⟨_, rfl⟩
  have kA : ∀ k, k < w.heap.size → wA.heap[k]? = w.heap[k]? := fun k hk => by rw [← hwA, heap_alloc_old _ _ hk]
  have sA : wA.heap.size = w.heap.size + 1 := by rw [← hwA, World.size_alloc]
  have htA := ht.keep kA
  have hpA := hp.keep kA
  have c2 : wA.cell? ⟨T, 0, none⟩ = some (.map (some P)) := cell_of_row wA T 0 _ _ _ htA.blk
  have hl2 := gmap_lookup1 (P := Try.prog) Try.underlying62 Try.underlying9 (z67 wA) htA.pl s
  rw [hpa2] at hl2
  change (Instr.lookup 62 (.map (some P)) (.string s) false).run Try.prog wA = .ok (.pointer (some ⟨p, 0, none⟩)) wA at hl2
  obtain ⟨wB, hwB⟩ : ∃ wB, wA.alloc (.cells #[.pointer (some ⟨p, 0, none⟩)] 67) = wB := ⟨_, rfl⟩
  have kB : ∀ k, k < wA.heap.size → wB.heap[k]? = wA.heap[k]? := fun k hk => by rw [← hwB, heap_alloc_old _ _ hk]
  have sB : wB.heap.size = w.heap.size + 2 := by rw [← hwB, World.size_alloc, sA]
  have htB := htA.keep kB
  have hpB := hpA.keep kB
  have nB : wB.heap[w.heap.size + 1]? = some (.cells #[.pointer (some ⟨p, 0, none⟩)] 67 (0, 0)) := by rw [← hwB, ← sA]; exact heap_alloc_new wA _
  have c3 : wB.cell? ⟨w.heap.size + 1, 0, none⟩ = some (.pointer (some ⟨p, 0, none⟩)) := cell_of_row wB _ 0 _ _ _ nB
  have c4 : wB.cell? ⟨p, 0, none⟩ = some (.map (some H)) := cell_of_row wB p 0 _ _ _ hpB.blk
  have c5 : wB.cell? ⟨p, 1, none⟩ = some (.slice qa qn qc) := cell_of_row wB p 1 _ _ _ hpB.blk
  have hl3 := gmap_lookup (P := Try.prog) Try.underlying68 Try.underlying29 (z3 wB) hpB.hl o
  rw [hh2] at hl3
  change (Instr.lookup 68 (.map (some H)) (.int .u64 o) true).run Try.prog wB = .ok (.tuple #[.int .i64 0, .bool false]) wB at hl3
  have HN := Lib.hid nB
  have HPB := Lib.hid hpB
  have HQB := Lib.hid (hq.keep (w' := wB) (fun g hg2 => by obtain ⟨cur, hc⟩ := hq.blk hg2; have h9 := (Array.getElem?_eq_some_iff.1 hc).1; exact (kB g (by omega)).trans (kA g h9)))
  have HQN : Hid (qs.length = qn ∧ qs.length ≤ 8796093022200) := ⟨hqn, hql⟩
  have HBB : Hid (Below w.heap.size w wB) := by
    show Below _ _ _
    rw [← hwB, ← hwA]
    exact below_more (below_more (Below.refl _ _) _) _
  clear hqn hql hq hqs ht hp htA hpA htB hpB kA kB sA sB nB h hx
  subst hwB
  subst hwA
  go_enter Try.func17, Try.ntmps17
  go_wp2_with fail
  refine hims.mono ?_
  rintro e w' ⟨rfl, rfl⟩
  go_upto_region 18 with (fail)
  obtain ⟨w2, hw2e⟩ : ∃ w2 : World, (w'.alloc (.cells #[.string ⟨#[]⟩, .int .i64 0] 33)).alloc (.cells #[.pointer (some ⟨p, 0, none⟩)] 67) = w2 := ⟨_, rfl⟩
  rw [hw2e] at HN HPB HQB HBB ⊢
  clear hw2e c1 c2 c3 c4 c5 hl1 hl2 hl3
  have hb2 : Below w2.heap.size w2 w2 := Below.refl _ _
  have k2 : ∀ k, k < _ → w2.heap[k]? = _ := fun k hk => hb2.block k hk
  have nB2 : w2.heap[w'.heap.size + 1]? = _ := (k2 _ (Array.getElem?_eq_some_iff.1 HN.out).1).trans HN.out
  have hp2 := HPB.out.keep k2
  have hq2' := HQB.out.keep (w' := w2) (fun g hg2 => by obtain ⟨cur, hc⟩ := HQB.out.blk hg2; exact k2 g (Array.getElem?_eq_some_iff.1 hc).1)
  have c6 : w2.cell? ⟨w'.heap.size + 1, 0, none⟩ = some (.pointer (some ⟨p, 0, none⟩)) := cell_of_row w2 _ 0 _ _ _ nB2
  have c7 : w2.cell? ⟨p, 1, none⟩ = some (.slice qa qn qc) := cell_of_row w2 p 1 _ _ _ hp2.blk
  have HP2 := Lib.hid hp2
  have HQ2 := Lib.hid hq2'
  have HN2 := Lib.hid nB2
  have HTL := Lib.hid ((HL.out.1.below HBB.out).below hb2)
  clear hp2 hq2' nB2 k2 hb2
  have hq2 : QAt w2.drew (.slice qa qn qc) qs := HQ2.out
  have hin : Calls Try.prog 33 #[.slice qa qn qc, .int .i64 qn, .slice (some ⟨w2.heap.size, 0, none⟩) 1 1] ((w2.alloc (.cells #[.int .u64 o, .int .i64 m] 77)).drew) (QPost w2.drew (.slice qa qn qc) qs o m) := by
    have h9 := insert_end hq2 HQN.out.2 o m
    rw [HQN.out.1] at h9
    exact h9
  unfold QPost at hin
  have HIN := Lib.hid hin
  have hlt6 : w'.heap.size + 1 < w2.heap.size := (Array.getElem?_eq_some_iff.1 HN2.out).1
  have hlt7 : p < w2.heap.size := (Array.getElem?_eq_some_iff.1 HP2.out.blk).1
  have hnq : ∀ g, qblk (.slice qa qn qc) = some g → w'.heap.size + 1 ≠ g ∧ p ≠ g := fun g hg => by
    obtain ⟨cur, hc⟩ := HQ2.out.blk hg
    exact ⟨cells_ty_ne HN2.out hc (by decide), cells_ty_ne HP2.out.blk hc (by decide)⟩
  have HS : Hid (∀ W : World, (∀ k, k < w2.heap.size → (∀ g, qblk (.slice qa qn qc) = some g → k ≠ g) → W.heap[k]? = w2.heap[k]?) → W.cell? ⟨w'.heap.size + 1, 0, none⟩ = some (.pointer (some ⟨p, 0, none⟩)) ∧ W.cell? ⟨p, 1, none⟩ = some (.slice qa qn qc)) := by
    show ∀ _, _
    intro W hk
    exact ⟨cell_of_row W _ 0 _ _ _ ((hk _ hlt6 (fun g hg => (hnq g hg).1)).trans HN2.out), cell_of_row W p 1 _ _ _ ((hk _ hlt7 (fun g hg => (hnq g hg).2)).trans HP2.out.blk)⟩
  have HFZ : Hid (∀ W : World, (∀ k, k < w2.heap.size → (∀ g, qblk (.slice qa qn qc) = some g → k ≠ g) → W.heap[k]? = w2.heap[k]?) → W.frozen? ⟨p, 1, none⟩ = false) := by
    show ∀ _, _
    intro W hk
    have h9 := (hk _ hlt7 (fun g hg => (hnq g hg).2)).trans HP2.out.blk
    simp [World.frozen?, h9]
  have hS0 : w2.drew.cell? ⟨w'.heap.size + 1, 0, none⟩ = some (.pointer (some ⟨p, 0, none⟩)) ∧ w2.drew.cell? ⟨p, 1, none⟩ = some (.slice qa qn qc) := HS.out w2.drew (fun _ _ _ => rfl)
  have hSa : (w2.alloc (.cells #[.int .u64 o, .int .i64 m] 77)).drew.cell? ⟨w'.heap.size + 1, 0, none⟩ = some (.pointer (some ⟨p, 0, none⟩)) ∧ (w2.alloc (.cells #[.int .u64 o, .int .i64 m] 77)).drew.cell? ⟨p, 1, none⟩ = some (.slice qa qn qc) := HS.out _ (fun k hk _ => heap_alloc_old w2 _ hk)
  clear hin hlt6 hlt7 hnq hq2
  go_upto_region 23 with (fail)
  refine wp_region_U (fun W => W.cell? ⟨w'.heap.size + 1, 0, none⟩ = some (.pointer (some ⟨p, 0, none⟩)) ∧ W.cell? ⟨p, 1, none⟩ = some (.slice qa qn qc)) [13] (by kernel_rfl) ?_
  refine wpAnyU_take (i := 0) [11, 12, 13] rfl (by kernel_rfl) (by kernel_rfl) (by kernel_rfl) (by kernel_rfl) (by kernel_rfl) (by kernel_rfl) (fun _ _ _ h => h) (Or.inl ⟨by rfl, (by intro W hSW; (try dsimp only at hSW); (try go_split_ands); go_simp <;> with_reducible rfl)⟩) hS0 ?_
  try simp only [Act.put, List.setIfInBounds_toArray, List.set_cons_zero, List.set_cons_succ]
  refine wpAnyU_take (i := 1) [2, 3, 4, 10, 11, 12, 13] rfl (by kernel_rfl) (by kernel_rfl) (by kernel_rfl) (by kernel_rfl) (by kernel_rfl) (by kernel_rfl) (fun _ _ _ h => h) (Or.inl ⟨by rfl, (by intro W hSW; (try dsimp only at hSW); (try go_split_ands); go_simp <;> with_reducible rfl)⟩) hS0 ?_
  try simp only [Act.put, List.setIfInBounds_toArray, List.set_cons_zero, List.set_cons_succ]
  refine wpAnyU_take (i := 2) [3, 4, 10, 11, 12, 13] rfl (by kernel_rfl) (by kernel_rfl) (by kernel_rfl) (by kernel_rfl) (by kernel_rfl) (by kernel_rfl) (fun _ _ _ h => h) (Or.inl ⟨by rfl, (by intro W hSW; (try dsimp only at hSW); (try go_split_ands); go_simp <;> with_reducible rfl)⟩) hS0 ?_
  try simp only [Act.put, List.setIfInBounds_toArray, List.set_cons_zero, List.set_cons_succ]
  refine wpAnyU_take (i := 3) [4, 10, 11, 12, 13] rfl (by kernel_rfl) (by kernel_rfl) (by kernel_rfl) (by kernel_rfl) (by kernel_rfl) (by kernel_rfl) (fun _ _ _ h => h) (Or.inl ⟨by rfl, (by intro W hSW; (try dsimp only at hSW); (try go_split_ands); go_simp <;> with_reducible rfl)⟩) hS0 ?_
  try simp only [Act.put, List.setIfInBounds_toArray, List.set_cons_zero, List.set_cons_succ]
  refine wpAnyU_take (i := 4) [10, 11, 12, 13] rfl (by kernel_rfl) (by kernel_rfl) (by kernel_rfl) (by kernel_rfl) (by kernel_rfl) (by kernel_rfl) (fun _ _ _ h => h) (Or.inl ⟨by rfl, (by intro W hSW; (try dsimp only at hSW); (try go_split_ands); go_simp <;> with_reducible rfl)⟩) hS0 ?_
  try simp only [Act.put, List.setIfInBounds_toArray, List.set_cons_zero, List.set_cons_succ]
  refine wpAnyU_take (i := 5) [10, 11, 12, 13] rfl (by kernel_rfl) (by kernel_rfl) (by kernel_rfl) (by kernel_rfl) (by kernel_rfl) (by kernel_rfl) (fun _ _ _ h => h) (Or.inl ⟨by rfl, (by intro W hSW; (try dsimp only at hSW); (try go_split_ands); go_simp <;> with_reducible rfl)⟩) hS0 ?_
  try simp only [Act.put, List.setIfInBounds_toArray, List.set_cons_zero, List.set_cons_succ]
  refine wpAnyU_take (i := 6) [8, 9, 10, 11, 12, 13] rfl (by kernel_rfl) (by kernel_rfl) (by kernel_rfl) (by kernel_rfl) (by kernel_rfl) (by kernel_rfl) (fun _ _ _ h => h) (Or.inl ⟨by rfl, (by intro W hSW; (try dsimp only at hSW); (try go_split_ands); go_simp <;> with_reducible rfl)⟩) hS0 ?_
  try simp only [Act.put, List.setIfInBounds_toArray, List.set_cons_zero, List.set_cons_succ]
  refine wpAnyU_take (i := 7) [8, 9, 10, 11, 12, 13] rfl (by kernel_rfl) (by kernel_rfl) (by kernel_rfl) (by kernel_rfl) (by kernel_rfl) (by kernel_rfl) (fun _ _ _ h => h) (Or.inl ⟨by rfl, (by intro W hSW; (try dsimp only at hSW); (try go_split_ands); go_simp <;> with_reducible rfl)⟩) hS0 ?_
  try simp only [Act.put, List.setIfInBounds_toArray, List.set_cons_zero, List.set_cons_succ]
  refine wpAnyU_take (i := 8) [9, 10, 11, 12, 13] rfl (by kernel_rfl) (by kernel_rfl) (by kernel_rfl) (by kernel_rfl) (by kernel_rfl) (by kernel_rfl) (fun _ _ _ h => h) (Or.inl ⟨by rfl, (by intro W hSW; (try dsimp only at hSW); (try go_split_ands); go_simp <;> with_reducible rfl)⟩) hS0 ?_
  try simp only [Act.put, List.setIfInBounds_toArray, List.set_cons_zero, List.set_cons_succ]
  refine wpAnyU_one (i := 9) (by kernel_rfl) rfl (fun K hK => ?_)
  go_simp
  refine hK.out _ _ (fun _ => hSa) (fun _ => ?_)
  clear hK K
  refine wpAnyU_one (i := 10) (by kernel_rfl) rfl (fun K hK => ?_)
  go_simp
  go_at_call 33
  refine HIN.out.mono ?_
  rintro e w5 ⟨q', rfl, hq5, hqb5, hk5, hs5, ⟨x1, x2, x3⟩, qa', qc', rfl⟩
  have hS5 : w5.cell? ⟨w'.heap.size + 1, 0, none⟩ = some (.pointer (some ⟨p, 0, none⟩)) ∧ w5.cell? ⟨p, 1, none⟩ = some (.slice qa qn qc) := HS.out w5 hk5
  have f5 : w5.frozen? ⟨p, 1, none⟩ = false := HFZ.out w5 hk5
  have H5 := Lib.hid (And.intro hq5 (And.intro hqb5 (And.intro hk5 (And.intro hs5 (And.intro x1 (And.intro x2 x3))))))
  clear hq5 hqb5 hk5 hs5 x1 x2 x3 HIN
  refine hK.out _ _ (fun _ => hS5) (fun _ => ?_)
  clear hK K
  refine wpAnyU_take (i := 11) [12, 13] rfl (by kernel_rfl) (by kernel_rfl) (by kernel_rfl) (by kernel_rfl) (by kernel_rfl) (by kernel_rfl) (fun _ _ _ h => h) (Or.inl ⟨by rfl, (by intro W hSW; (try dsimp only at hSW); (try go_split_ands); go_simp <;> with_reducible rfl)⟩) hS5 ?_
  try simp only [Act.put, List.setIfInBounds_toArray, List.set_cons_zero, List.set_cons_succ]
  refine wpAnyU_take (i := 12) [13] rfl (by kernel_rfl) (by kernel_rfl) (by kernel_rfl) (by kernel_rfl) (by kernel_rfl) (by kernel_rfl) (fun _ _ _ h => h) (Or.inl ⟨by rfl, (by intro W hSW; (try dsimp only at hSW); (try go_split_ands); go_simp <;> with_reducible rfl)⟩) hS5 ?_
  try simp only [Act.put, List.setIfInBounds_toArray, List.set_cons_zero, List.set_cons_succ]
  refine wpAnyU_one (i := 13) (by kernel_rfl) rfl (fun K hK => ?_)
  go_simp
  refine hK.out _ _ (fun h => absurd h (by decide)) (fun _ => ?_)
  clear hK K
  refine wpAnyU_done (by kernel_rfl) ?_ _

  obtain ⟨w6, hw6⟩ : ∃ w6, w5.setCell ⟨p, 1, none⟩ (.slice (some qa') (qs.length + 1) qc') = w6 := ⟨_, rfl⟩
  have h6 : TabL W0 w6 { (⟨T, P, W, N, pl, ws0, nm⟩ : TV) with pl := pl.set i (s, ⟨p, H, .slice (some qa') (qs.length + 1) qc', hs0, qs ++ [(o, m)]⟩) } := by
    have hTL := HTL.out
    have hb6 : w6.heap[p]? = some (.cells #[.map (some H), .slice (some qa') (qs.length + 1) qc'] 71 (0, 0)) := by
      rw [← hw6]
      have h9 := (H5.out.2.2.1 p (Array.getElem?_eq_some_iff.1 HP2.out.blk).1 (fun g hg => by obtain ⟨cur, hc⟩ := HQ2.out.blk hg; exact cells_ty_ne HP2.out.blk hc (by decide))).trans HP2.out.blk
      exact setCell_blkL h9 _
    have hq6 : QAt w6 (.slice (some qa') (qs.length + 1) qc') (qs ++ [(o, m)]) := H5.out.1.keep (fun g hg => by
      rw [← hw6]
      obtain ⟨cur, hc⟩ := H5.out.1.blk hg
      refine setCell_heapL _ _ _ _ (fun e9 => ?_)
      have h9 := (H5.out.2.2.1 p (Array.getElem?_eq_some_iff.1 HP2.out.blk).1 (fun g hg => by obtain ⟨cur, hc⟩ := HQ2.out.blk hg; exact cells_ty_ne HP2.out.blk hc (by decide))).trans HP2.out.blk
      exact cells_ty_ne h9 hc (by decide) e9.symm)
    have hk6 : ∀ k, k < w2.heap.size → k ≠ p → (∀ g, qblk (.slice qa qn qc) = some g → k ≠ g) → w6.heap[k]? = w2.heap[k]? := fun k hk hkp hkg => by
      rw [← hw6, setCell_heapL _ _ _ _ hkp]
      exact H5.out.2.2.1 k hk hkg
    have hsz : w2.heap.size ≤ w6.heap.size := by rw [← hw6, setCell_sizeL]; exact H5.out.2.2.2.1
    obtain ⟨l1, l2, l3⟩ := hTL.loP i _ HL.out.2
    have hbs := hTL.bl.size
    refine ⟨hTL.rep.queue HL.out.2 hb6 hq6 H5.out.2.1 hk6, ⟨?_, ?_, ?_, by omega, fun k hk => ?_⟩, hTL.lo, fun k y hy => ?_, hTL.loN⟩
    · rw [← hw6]; exact H5.out.2.2.2.2.1.trans hTL.bl.os
    · rw [← hw6]; exact H5.out.2.2.2.2.2.1.trans hTL.bl.tape
    · rw [← hw6]; exact H5.out.2.2.2.2.2.2.trans hTL.bl.output
    · rw [hk6 k (by omega) (by simp only at l1; omega) (fun g hg => by have := l3 g hg; omega), hTL.bl.block k hk]
    · rcases set_cases hy with ⟨rfl, rfl, -⟩ | ⟨-, h9⟩
      · exact ⟨l1, l2, fun g hg => (H5.out.2.1 g hg).elim (l3 g) (fun h8 => by have h8' : w2.heap.size ≤ g := h8; omega)⟩
      · exact hTL.loP k y h9
  have c8 : w6.cell? ⟨T, 1, none⟩ = some (.map (some W)) := cell_of_row w6 T 1 _ _ _ h6.rep.tab.blk
  obtain ⟨oW, huW, hgW⟩ := gmap_update (P := Try.prog) Try.underlying63 Try.underlying29 h6.rep.tab.wt o (.agg #[.string s, .int .i64 m])
  change (Instr.mapUpdate 63 (.map (some W)) (.int .u64 o) (.agg #[.string s, .int .i64 m])).run Try.prog w6 = _ at huW
  have hgm := gset_map (fun y : ByteArray × Int => Value.agg #[.string y.1, .int .i64 y.2]) ws0 o (s, m)
  have h7 : TabL W0 (setObjW w6 W oW) { (⟨T, P, W, N, pl, ws0, nm⟩ : TV) with pl := pl.set i (s, ⟨p, H, .slice (some qa') (qs.length + 1) qc', hs0, qs ++ [(o, m)]⟩), ws := kset ws0 o (s, m) } := by
    have hlo := h6.lo
    have hbs := h6.bl.size
    simp only at hlo
    refine ⟨h6.rep.waits (ws := kset ws0 o (s, m)) ?_ (fun k hk hkW => setObjW_other _ _ _ _ hkW), ⟨h6.bl.os, h6.bl.tape, h6.bl.output, by rw [setObjW_size]; exact h6.bl.size, fun k hk => by rw [setObjW_other _ _ _ _ (by omega), h6.bl.block k hk]⟩, h6.lo, h6.loP, h6.loN⟩
    have h9 := hgW
    unfold wsV at h9
    rw [hgm] at h9
    exact h9
  have H7 := Lib.hid h7
  clear h6 h7 hgW hgm H5 HTL HS HFZ hS0 hSa hS5
  try rw [hw6]
  go_wp2
  go_ret
  exact ⟨rfl, _, H7.out⟩
end Mun
end

section
/- slices.Insert of one ask at whatever place of a queue. -/
set_option maxRecDepth 100000
set_option linter.unusedVariables false
set_option linter.unusedSimpArgs false
namespace Mun
open Go Go.RowKit
open Go.Proofs

/-- a list with one more at a place -/
def qins (l : List (Int × Int)) (j : Nat) (a : Int × Int) : List (Int × Int) := l.take j ++ a :: l.drop j
theorem qins_end (l : List (Int × Int)) (a : Int × Int) : qins l l.length a = l ++ [a] := by simp [qins]
theorem qins_length (l : List (Int × Int)) (j : Nat) (a : Int × Int) : (qins l j a).length = l.length + 1 := by
  simp only [qins, List.length_append, List.length_cons, List.length_take, List.length_drop]; omega
theorem acells_append (a b : List (Int × Int)) : acells (a ++ b) = acells a ++ acells b := by simp [acells]
theorem acells_cons (a : Int × Int) (b : List (Int × Int)) : acells (a :: b) = [.int .u64 a.1, .int .i64 a.2] ++ acells b := rfl
theorem acells_take (l : List (Int × Int)) (j : Nat) : (acells l).take (j * 2) = acells (l.take j) := by
  induction l generalizing j with
  | nil => simp [acells]
  | cons a l ih =>
    cases j with
    | zero => rfl
    | succ j =>
      rw [acells_cons, List.take_succ_cons, acells_cons, show (j + 1) * 2 = j * 2 + 1 + 1 by omega]
      simp only [List.cons_append, List.nil_append, List.take_succ_cons, ih]
theorem acells_drop (l : List (Int × Int)) (j : Nat) : (acells l).drop (j * 2) = acells (l.drop j) := by
  induction l generalizing j with
  | nil => simp [acells]
  | cons a l ih =>
    cases j with
    | zero => rfl
    | succ j =>
      rw [acells_cons, List.drop_succ_cons, show (j + 1) * 2 = j * 2 + 1 + 1 by omega]
      simp only [List.cons_append, List.nil_append, List.drop_succ_cons, ih]
theorem acells_one (l : List (Int × Int)) : ∀ v ∈ acells l, v.oneCell' = true := by
  intro v hv
  simp only [acells, List.mem_flatMap] at hv
  obtain ⟨a, -, hv⟩ := hv
  simp at hv
  rcases hv with rfl | rfl <;> rfl

/-- cells laid over a row from a place on -/
def wrow (cur : Array Value) (o : Nat) (vs : List Value) : Array Value := (cur.toList.take o ++ vs ++ cur.toList.drop (o + vs.length)).toArray
theorem wrow_size (cur : Array Value) (o : Nat) (vs : List Value) (h : o + vs.length ≤ cur.size) : (wrow cur o vs).size = cur.size := by
  simp only [wrow, List.size_toArray, List.length_append, List.length_take, List.length_drop, Array.length_toList]; omega
theorem wrow_get (cur : Array Value) (o : Nat) (vs : List Value) (h : o + vs.length ≤ cur.size) (k : Nat) : (wrow cur o vs)[k]? = if o ≤ k ∧ k < o + vs.length then vs[k - o]? else cur[k]? := by
  have hl : (cur.toList.take o).length = o := by rw [List.length_take, Array.length_toList]; omega
  simp only [wrow, List.getElem?_toArray]
  by_cases h1 : k < o
  · rw [if_neg (by omega), List.append_assoc, List.getElem?_append_left (by omega), List.getElem?_take, if_pos h1, Array.getElem?_toList]
  · by_cases h2 : k < o + vs.length
    · rw [if_pos ⟨by omega, h2⟩, List.append_assoc, List.getElem?_append_right (by omega), hl, List.getElem?_append_left (by omega)]
    · rw [if_neg (by omega), List.getElem?_append_right (by rw [List.length_append, hl]; omega), List.length_append, hl, List.getElem?_drop, Array.getElem?_toList]
      congr 1
      omega

theorem run_copy_asks (w : World) (ty : TypeId) (b o dLen dCap : Nat) (a : Addr) (sLen sCap : Nat) (cs : List Value) (cur : Array Value) (hb : w.heap[b]? = some (.cells cur 77 (0, 0))) (hn : cs.length = Nat.min sLen dLen * 2)
    (hsrc : ∀ j v, cs[j]? = some v → w.cell? (a.add j) = some v) (hfit : o + cs.length ≤ cur.size) (h1 : ∀ v ∈ cs, v.oneCell' = true) :
    (Builtin.copy_ #[69, 69] ty #[.slice (some ⟨b, o, none⟩) dLen dCap, .slice (some a) sLen sCap]).run Try.prog w = .ok (.int .i64 (Nat.min sLen dLen : Nat)) (w.setRow b (wrow cur o cs)) := by
  obtain ⟨i, hi, hz, hs1, hs2⟩ := info_of info_ask
  have hl := run_loadCells_list (P := Try.prog) w a cs hsrc
  have hst := run_storeCells_at (P := Try.prog) b o 77 cs 0 cur w hb (by simpa using hfit) h1
  simp only [Nat.add_zero] at hst
  simp [Builtin.copy_, run_underlying (P := Try.prog) Try.underlying69, Builtin.lenOf, Builtin.firstCells, Go.sizeOf, typeInfo, hi, hs1, ← hn, hl, hst, wrow, goInt]

theorem cell_wrow {w : World} {g : Nat} {cur : Array Value} {ty : TypeId} {fr : Nat × Nat} (hg : w.heap[g]? = some (.cells cur ty fr)) (cs : Array Value) (k : Nat) : (w.setRow g cs).cell? ⟨g, k, none⟩ = cs[k]? :=
  cell_of_row _ g k _ _ _ (setRow_heap w g cur cs ty fr hg)

theorem QAt.cell {w : World} {g off : Nat} {cur : Array Value} {l : List (Int × Int)} (hg : w.heap[g]? = some (.cells cur 77 (0, 0))) (hrd : (cur.toList.drop off).take (l.length * 2) = acells l) (j : Nat) (v : Value) (hv : (acells l)[j]? = some v) : w.cell? ⟨g, off + j, none⟩ = some v := by
  rw [cell_of_row _ _ _ _ _ _ hg, ← Array.getElem?_toList]
  rw [← hrd, List.getElem?_take] at hv
  split at hv
  · rw [List.getElem?_drop] at hv; exact hv
  · cases hv

def QPostJ (w : World) (q : Value) (l : List (Int × Int)) (j : Nat) (o m : Int) (e : Ending) (w' : World) : Prop :=
  ∃ q', e = .returned q' ∧ QAt w' q' (qins l j (o, m)) ∧ (∀ g, qblk q' = some g → qblk q = some g ∨ w.heap.size ≤ g) ∧ (∀ k, k < w.heap.size → (∀ g, qblk q = some g → k ≠ g) → w'.heap[k]? = w.heap[k]?) ∧ w.heap.size ≤ w'.heap.size ∧
    (w'.os = w.os ∧ w'.tape = w.tape ∧ w'.output = w.output) ∧ ∃ a c, q' = .slice (some a) (l.length + 1) c

theorem copy_step {ops : Array Oper} {o : Oper} {a : Act} {w : World} {K : Act → World → Prop} {Q : Exit → Act → World → Prop} {E : Prop} {P : Program}
    (hg : o.guard = none) (d x : Operand) (dT sT : TypeId) (hop : o.op = Op.call { callee := Callee.builtin Builtin.copy, args := #[d, x], argTypes := #[dT, sT] })
    (v u : Value) (hd : a.eval d = v) (hx : a.eval x = u) {v' : Value} {w' : World} (hr : (Builtin.copy_ #[dT, sT] o.type #[v, u]).run P w = .ok v' w') (hK : K (a.put o.dst v') w') :
    if Region.wanted o (yielded ops a.tmps) = true then Oper.wp P o a w K Q else E := by
  have hw : Region.wanted o (yielded ops a.tmps) = true := by simp [Region.wanted, hg]
  rw [if_pos hw]
  unfold Oper.wp
  simp [execOp, hop, resolve, invoke, builtin, hd, hx, hr, Result.andThen]
  exact hK
theorem slice_asks (a : Option Addr) (n c lo hi : Nat) (W : World) (L H : Int) (hL : L = lo) (hH : H = hi) (h1 : lo ≤ hi) (h2 : hi ≤ c) :
    (Instr.sliceAt 69 (.slice a n c) (some (.int .i64 L)) (some (.int .i64 H)) none).run Try.prog W = .ok (sliced a lo hi c 2) W := by
  subst hL hH
  obtain ⟨i, hi', hz, hs1, hs2⟩ := info_of info_ask
  have he : Try.prog.elem 69 = 77 := by kernel_rfl
  have ht : Try.prog.underlying 69 = some (.slice (Try.prog.elem 69)) := by rw [he]; exact Try.underlying69
  rw [run_sliceAt_slice _ _ _ _ _ _ ht, run_slice_lh _ _ _ _ _ ht _ _ _ _ (by omega) (by omega) (by omega), he]
  simp [Go.sizeOf, typeInfo, hi', hs1]
theorem slice_asks_l (a : Option Addr) (n c lo : Nat) (W : World) (L : Int) (hL : L = lo) (h1 : lo ≤ n) (h2 : n ≤ c) :
    (Instr.sliceAt 69 (.slice a n c) (some (.int .i64 L)) none none).run Try.prog W = .ok (sliced a lo n c 2) W := by
  subst hL
  obtain ⟨i, hi', hz, hs1, hs2⟩ := info_of info_ask
  have he : Try.prog.elem 69 = 77 := by kernel_rfl
  have ht : Try.prog.underlying 69 = some (.slice (Try.prog.elem 69)) := by rw [he]; exact Try.underlying69
  rw [run_sliceAt_slice _ _ _ _ _ _ ht, run_slice_l _ _ _ _ _ ht _ _ (by omega) (by omega), he]
  simp [Go.sizeOf, typeInfo, hi', hs1]
theorem slice_asks_h (g off : Nat) (n c hi : Nat) (W : World) (H : Int) (hH : H = hi) (h2 : hi ≤ c) :
    (Instr.sliceAt 69 (.slice (some ⟨g, off, none⟩) n c) none (some (.int .i64 H)) none).run Try.prog W = .ok (.slice (some ⟨g, off, none⟩) hi c) W := by
  subst hH
  obtain ⟨i, hi', hz, hs1, hs2⟩ := info_of info_ask
  have he : Try.prog.elem 69 = 77 := by kernel_rfl
  have ht : Try.prog.underlying 69 = some (.slice (Try.prog.elem 69)) := by rw [he]; exact Try.underlying69
  rw [run_sliceAt_slice _ _ _ _ _ _ ht, run_slice_h _ _ _ _ _ ht _ _ (by omega) (by omega), he]
  simp [Go.sizeOf, typeInfo, hi', hs1, sliced, Addr.add]

set_option maxHeartbeats 4000000 in
/-- there is room: in place -/
theorem insert_room {w : World} {g off n c j : Nat} {cur : Array Value} {l : List (Int × Int)} (hg : w.heap[g]? = some (.cells cur 77 (0, 0))) (hln : l.length = n) (hnc : n + 1 ≤ c) (hcm : c ≤ maxLen) (hfit : off + c * 2 ≤ cur.size) (hrd : (cur.toList.drop off).take (l.length * 2) = acells l)
    (hj : j < n) (hn : n ≤ 8796093022200) (o m : Int) :
    Calls Try.prog 33 #[.slice (some ⟨g, off, none⟩) n c, .int .i64 j, .slice (some ⟨w.heap.size, 0, none⟩) 1 1] (w.alloc (.cells #[.int .u64 o, .int .i64 m] 77)) (QPostJ w (.slice (some ⟨g, off, none⟩) n c) l j o m) := by
  have hgl := (Array.getElem?_eq_some_iff.1 hg).1
  obtain ⟨wA, hwA⟩ : ∃ wA, w.alloc (.cells #[.int .u64 o, .int .i64 m] 77) = wA := ⟨_, rfl⟩
  have hgA : wA.heap[g]? = some (.cells cur 77 (0, 0)) := by rw [← hwA]; exact (heap_alloc_old _ _ hgl).trans hg
  have hvA : wA.heap[w.heap.size]? = some (.cells #[.int .u64 o, .int .i64 m] 77 (0, 0)) := by rw [← hwA]; exact heap_alloc_new w _
  have hfr : Below w.heap.size w wA := by rw [← hwA]; exact (Below.refl _ _).alloc (Nat.le_refl _) _
  obtain ⟨vb, hvb⟩ : ∃ vb, w.heap.size = vb := ⟨_, rfl⟩
  rw [hvb] at hvA ⊢
  rw [hwA]
  have hne : vb ≠ g := by omega
  have hcur2 : 2 ≤ cur.size := by omega
  have hov : ∀ lb cb, (callFunc 51 #[.slice (some ⟨vb, 0, none⟩) 1 1, .slice (some ⟨g, off + (j + 1) * 2, none⟩) lb cb]).run Try.prog wA = .ok (.value (.bool false)) wA := fun lb cb => by
    have hzz : ∀ w : World, (Go.sizeOf 77).run Try.prog w = .ok 2 w := fun w => by
      obtain ⟨i, hi', hz, hs1, hs2⟩ := info_of info_ask
      simp [Go.sizeOf, typeInfo, hi', hs1]
    have hex := run_callFunc_extern (P := Try.prog) (f := 51) Try.func51 (by kernel_rfl) (by kernel_rfl) (by kernel_rfl) (e := Extern.SlicesOverlaps.overlaps #[69, 69] #[4]) (by kernel_rfl)
    rw [hex, Lib.run_overlaps_apart wA 69 4 77 Try.underlying69 2 hzz ⟨vb, 0, none⟩ ⟨g, off + (j + 1) * 2, none⟩ 1 1 lb cb hne 77 77 2 cur.size (by simp [World.shape?, hvA]) (by simp [World.shape?, hgA]) (by omega) (by simp [World.frozen?, hvA]) (by simp [World.frozen?, hvA])]
    rfl
  have hal := acells_length l
  obtain ⟨cA, hcA⟩ : ∃ cA, wrow cur (off + (j + 1) * 2) (acells (l.drop j)) = cA := ⟨_, rfl⟩
  obtain ⟨cB, hcB⟩ : ∃ cB, wrow cA (off + j * 2) [.int .u64 o, .int .i64 m] = cB := ⟨_, rfl⟩
  have hdl : (acells (l.drop j)).length = (n - j) * 2 := by rw [acells_length, List.length_drop, hln]
  have hsA : cA.size = cur.size := by rw [← hcA]; exact wrow_size _ _ _ (by rw [hdl]; omega)
  have hsB : cB.size = cur.size := by rw [← hcB, wrow_size _ _ _ (by simp; omega), hsA]
  have hcp1 : ∀ ty dc sc, (Builtin.copy_ #[69, 69] ty #[.slice (some ⟨g, off + (j + 1) * 2, none⟩) (n - j) dc, .slice (some ⟨g, off + j * 2, none⟩) (n + 1 - j) sc]).run Try.prog wA.drew = .ok (.int .i64 (n - j : Nat)) (wA.drew.setRow g cA) := fun ty dc sc => by
    have hmin : Nat.min (n + 1 - j) (n - j) = n - j := by simp only [Nat.min_def]; split <;> omega
    have h9 := run_copy_asks wA.drew ty g (off + (j + 1) * 2) (n - j) dc ⟨g, off + j * 2, none⟩ (n + 1 - j) sc (acells (l.drop j)) cur hgA (by rw [hdl, hmin]) (fun k v hv => by
      rw [addr_add]
      rw [← acells_drop, List.getElem?_drop] at hv
      have := QAt.cell (w := wA.drew) hgA hrd (j * 2 + k) v hv
      rwa [← Nat.add_assoc] at this) (by rw [hdl]; omega) (acells_one _)
    rw [hmin, hcA] at h9
    exact h9
  have hgB : (wA.drew.setRow g cA).heap[g]? = some (.cells cA 77 (0, 0)) := setRow_heap wA.drew g cur cA _ _ hgA
  have hcp2 : ∀ ty dc, (Builtin.copy_ #[69, 69] ty #[.slice (some ⟨g, off + j * 2, none⟩) (n + 1 - j) dc, .slice (some ⟨vb, 0, none⟩) 1 1]).run Try.prog (wA.drew.setRow g cA) = .ok (.int .i64 1) ((wA.drew.setRow g cA).setRow g cB) := fun ty dc => by
    have hmin : Nat.min 1 (n + 1 - j) = 1 := by simp only [Nat.min_def]; split <;> omega
    have h9 := run_copy_asks (wA.drew.setRow g cA) ty g (off + j * 2) (n + 1 - j) dc ⟨vb, 0, none⟩ 1 1 [.int .u64 o, .int .i64 m] cA hgB (by rw [hmin]; rfl) (fun k v hv => by
      rw [addr_add, Nat.zero_add]
      have : (wA.drew.setRow g cA).cell? ⟨vb, k, none⟩ = wA.cell? ⟨vb, k, none⟩ := World.cell?_of_block (setRow_otherL wA.drew g cA vb hne)
      rw [this, cell_of_row _ _ _ _ _ _ hvA]
      simpa using hv) (by simp; omega) (by intro u hu; simp at hu; rcases hu with rfl | rfl <;> rfl)
    rw [hmin, hcB] at h9
    exact h9
  have hpost : QPostJ w (.slice (some ⟨g, off, none⟩) n c) l j o m (.returned (.slice (some ⟨g, off, none⟩) (n + 1) c)) ((wA.drew.setRow g cA).setRow g cB) := by
    refine ⟨_, rfl, .inr ⟨g, off, c, cB, by rw [qins_length, hln], setRow_heap _ g cA cB _ _ hgB, by rw [qins_length, hln]; exact hnc, hcm, by rw [hsB]; exact hfit, ?_⟩, fun g2 hg2 => .inl hg2, fun k hk hkg => ?_, ?_, ⟨hfr.os, hfr.tape, hfr.output⟩, _, _, by rw [hln]⟩
    · rw [qins_length, hln]
      have hlen : ∀ k, k < (n + 1) * 2 → ((cB.toList.drop off).take ((n + 1) * 2))[k]? = (acells (qins l j (o, m)))[k]? := fun k hk => by
        rw [List.getElem?_take, if_pos hk, List.getElem?_drop, Array.getElem?_toList, ← hcB, wrow_get _ _ _ (by rw [hsA]; simp; omega)]
        have hq : acells (qins l j (o, m)) = acells (l.take j) ++ ([.int .u64 o, .int .i64 m] ++ acells (l.drop j)) := by rw [qins, acells_append, acells_cons]
        have htl : (acells (l.take j)).length = j * 2 := by rw [acells_length, List.length_take]; omega
        rw [hq]
        by_cases h1 : k < j * 2
        · rw [if_neg (by omega), List.getElem?_append_left (by omega), ← hcA, wrow_get _ _ _ (by rw [hdl]; omega), if_neg (by omega), ← acells_take, List.getElem?_take, if_pos h1, ← hrd, List.getElem?_take, if_pos (by omega), List.getElem?_drop, Array.getElem?_toList]
        · rw [List.getElem?_append_right (by omega), htl]
          by_cases h2 : k < j * 2 + 2
          · rw [if_pos (by simp; omega), List.getElem?_append_left (by simp; omega)]
            congr 1
            omega
          · rw [if_neg (by simp; omega), List.getElem?_append_right (by simp; omega), ← hcA, wrow_get _ _ _ (by rw [hdl]; omega), if_pos (by rw [hdl]; omega)]
            congr 1
            simp only [List.length_cons, List.length_nil]
            omega
      apply List.ext_getElem?
      intro k
      by_cases hk : k < (n + 1) * 2
      · exact hlen k hk
      · rw [List.getElem?_eq_none (by rw [List.length_take]; omega), List.getElem?_eq_none (by rw [acells_length, qins_length, hln]; omega)]
    · have hkg' := hkg g rfl
      rw [setRow_otherL _ _ _ _ hkg', setRow_otherL _ _ _ _ hkg']
      exact hfr.block k hk
    · show w.heap.size ≤ ((wA.drew.setRow g cA).setRow g cB).heap.size
      simp only [World.setRow, Array.size_modify]
      exact hfr.size
  have HPOST := Lib.hid hpost
  have hw1 : IntKind.i64.wrap ((j : Int) + 1) = (j : Int) + 1 := by rw [IntKind.wrap_i64]; omega
  have hw2 : IntKind.i64.wrap ((n : Int) + 1) = (n : Int) + 1 := by rw [IntKind.wrap_i64]; omega
  have hz1 : ((j : Int) == (n : Int)) = false := by simp; omega
  have hz2 : ¬ ((c : Int) < (n : Int) + 1) := by omega
  have hc1 : ¬ (c = j) := by omega
  have hc2 : ¬ (c = j + 1) := by omega
  have hb1 : (0 : Int) ≤ (j : Int) := by omega
  have hb2 : (0 : Int) ≤ (n : Int) := by omega
  have hs0 : ∀ W, (Instr.sliceAt 69 (.slice (some ⟨g, off, none⟩) n c) (some (.int .i64 j)) none none).run Try.prog W = .ok (.slice (some ⟨g, off + j * 2, none⟩) (n - j) (c - j)) W := fun W => by
    rw [slice_asks_l _ n c j W _ rfl (by omega) (by omega)]; simp [sliced, hc1, Addr.add]
  have hs1 : ∀ W, (Instr.sliceAt 69 (.slice (some ⟨g, off, none⟩) n c) none (some (.int .i64 ((n : Int) + 1))) none).run Try.prog W = .ok (.slice (some ⟨g, off, none⟩) (n + 1) c) W := fun W => slice_asks_h g off n c (n + 1) W _ (by omega) hnc
  have hs2 : ∀ W, (Instr.sliceAt 69 (.slice (some ⟨g, off, none⟩) (n + 1) c) (some (.int .i64 ((j : Int) + 1))) none none).run Try.prog W = .ok (.slice (some ⟨g, off + (j + 1) * 2, none⟩) (n - j) (c - (j + 1))) W := fun W => by
    rw [slice_asks_l _ (n + 1) c (j + 1) W _ (by omega) (by omega) (by omega)]; simp [sliced, hc2, Addr.add]
  have hs3 : ∀ W, (Instr.sliceAt 69 (.slice (some ⟨g, off, none⟩) (n + 1) c) (some (.int .i64 (j : Int))) none none).run Try.prog W = .ok (.slice (some ⟨g, off + j * 2, none⟩) (n + 1 - j) (c - j)) W := fun W => by
    rw [slice_asks_l _ (n + 1) c j W _ rfl (by omega) (by omega)]; simp [sliced, hc1, Addr.add]
  clear hpost hg hln hnc hcm hfit hrd hj hn hgl hgA hvA hfr hcur2 hal hcA hcB hdl hsA hsB hgB hwA hvb hne hc1 hc2
  go_enter Try.func33, Try.ntmps33
  go_wp2_with (simp only [hov])
  go_region_law (refine copy_step rfl _ _ 69 69 rfl _ _ (by simp [Act.eval, Act.put]) (by simp [Act.eval, Act.put]) (hcp1 _ _ _) ?_)
  go_wp2_with (at_builtin; refine wpList_copy_eq rfl rfl (hcp2 _ _) rfl rfl ?_)
  go_ret
  exact HPOST.out
end Mun
end

section
/- slices.Insert of one ask at whatever place of a queue: no room; all its ways together. -/
set_option maxRecDepth 100000
set_option linter.unusedVariables false
set_option linter.unusedSimpArgs false
namespace Mun
open Go Go.RowKit
open Go.Proofs

theorem wpList_append_eq2 {P : Program} {ops : Array Oper} {rest : List Oper} {o : Oper} {a : Act} {w : World} {Q : Exit → Act → World → Prop} (hgd : o.guard = none) {s x : Operand} {t u : TypeId}
    (ho : o.op = .call { callee := .builtin .append, args := #[s, x], argTypes := #[t, u] }) {v sv v' : Value} {w' : World}
    (hr : (Builtin.append_ #[t, u] o.type #[v, sv]).run P w = .ok v' w') (hs : a.eval s = v) (hx : a.eval x = sv) (h : wpList P ops Q rest (a.put o.dst v') w') : wpList P ops Q (o :: rest) a w := by
  refine wpList_plain hgd fun K hK => ?_
  unfold Oper.wp
  simp [execOp, ho, resolve, invoke, builtin, hs, hx, hr, Result.andThen]
  exact hK _ _ h

set_option maxHeartbeats 4000000 in
/-- there is no room: a new row -/
theorem insert_grow {w : World} {g off n c j : Nat} {cur : Array Value} {l : List (Int × Int)} (hg : w.heap[g]? = some (.cells cur 77 (0, 0))) (hln : l.length = n) (hnl : n ≤ c) (hnc : c < n + 1) (hcm : c ≤ maxLen) (hfit : off + c * 2 ≤ cur.size) (hrd : (cur.toList.drop off).take (l.length * 2) = acells l)
    (hj : j < n) (hn : n ≤ 8796093022200) (o m : Int) :
    Calls Try.prog 33 #[.slice (some ⟨g, off, none⟩) n c, .int .i64 j, .slice (some ⟨w.heap.size, 0, none⟩) 1 1] (w.alloc (.cells #[.int .u64 o, .int .i64 m] 77)) (QPostJ w (.slice (some ⟨g, off, none⟩) n c) l j o m) := by
  have hgl := (Array.getElem?_eq_some_iff.1 hg).1
  obtain ⟨wA, hwA⟩ : ∃ wA, w.alloc (.cells #[.int .u64 o, .int .i64 m] 77) = wA := ⟨_, rfl⟩
  have hgA : wA.heap[g]? = some (.cells cur 77 (0, 0)) := by rw [← hwA]; exact (heap_alloc_old _ _ hgl).trans hg
  have hvA : wA.heap[w.heap.size]? = some (.cells #[.int .u64 o, .int .i64 m] 77 (0, 0)) := by rw [← hwA]; exact heap_alloc_new w _
  have hsA1 : wA.heap.size = w.heap.size + 1 := by rw [← hwA, World.size_alloc]
  have hfr : Below w.heap.size w wA := by rw [← hwA]; exact (Below.refl _ _).alloc (Nat.le_refl _) _
  obtain ⟨vb, hvb⟩ : ∃ vb, w.heap.size = vb := ⟨_, rfl⟩
  rw [hvb] at hvA ⊢
  rw [hwA]
  have hne : vb ≠ g := by omega
  have hal := acells_length l
  have hdl : (acells (l.drop j)).length = (n - j) * 2 := by rw [acells_length, List.length_drop, hln]
  have htl : (acells (l.take j)).length = j * 2 := by rw [acells_length, List.length_take]; omega
  obtain ⟨i0, hi0, hz0, hzs, hzb⟩ := info_of info_ask
  have hold : (Builtin.firstCells i0.size j (.slice (some ⟨g, off, none⟩) j c)).run Try.prog wA.drew = .ok (acells (l.take j)).toArray wA.drew := by
    rw [hzs]
    exact run_firstCells_some wA.drew 2 j ⟨g, off, none⟩ j c (acells (l.take j)) (by rw [htl]) (fun k v hv => by
      rw [addr_add]
      rw [← acells_take, List.getElem?_take] at hv
      split at hv
      · exact QAt.cell (w := wA.drew) hgA hrd k v hv
      · cases hv)
  have hkk : (n : Int) + 1 - (j : Int) = ((n + 1 - j : Nat) : Int) := by omega
  have hik : j + (n + 1 - j) = n + 1 := by omega
  obtain ⟨G, hG⟩ : ∃ G, grownCap wA (n + 1) c 77 = G := ⟨_, rfl⟩
  obtain ⟨ROW, hROW⟩ : ∃ ROW : Array Value, (acells (l.take j)).toArray ++ Builtin.zeroCells (Value.agg #[.int .u64 0, .int .i64 0]).cells (n + 1 - j) ++ Builtin.zeroCells (Value.agg #[.int .u64 0, .int .i64 0]).cells (G - (n + 1)) = ROW := ⟨_, rfl⟩
  have hrz : ∀ ty, (Builtin.append_ #[69, 3] ty #[.slice (some ⟨g, off, none⟩) j c, .int .i64 ((n : Int) + 1 - (j : Int))]).run Try.prog wA =
      .ok (.slice (some ⟨wA.heap.size, 0, none⟩) (n + 1) G) (wA.drew.alloc (.cells ROW 77)) := fun ty => by
    have h := Lib.run_append_grow_zeros (P := Try.prog) wA 69 3 ty 77 i0 _ .i64 .i64 Try.underlying69 Try.underlying3 hi0 hz0 (some ⟨g, off, none⟩) j c _ hold (n + 1 - j) (by omega) (by rw [hzs]; omega) (by omega) (by omega) (by rw [hzb]; omega) (by rw [hzb, hik]; exact growslice_fits hnc (by omega))
    rw [hik, hG, hROW] at h
    rw [hkk]
    exact h
  have hGn : n + 1 ≤ G := by rw [← hG]; exact grownCap_ge wA _ _ _
  have hGm : G ≤ maxLen := by rw [← hG]; exact grownCap_le_maxLen wA (n + 1) c 77 (by unfold maxLen; omega)
  have hzc : (Value.agg #[.int .u64 0, .int .i64 0]).cells.size = 2 := rfl
  have hRs : ROW.size = G * 2 := by
    rw [← hROW]
    simp only [Array.size_append, List.size_toArray, size_zeroCells, hzc, htl]
    omega
  have hRt : ∀ k, k < j * 2 → ROW[k]? = (acells l)[k]? := fun k hk => by
    rw [← hROW, Array.append_assoc, Array.getElem?_append_left (by simp; omega), List.getElem?_toArray, ← acells_take, List.getElem?_take, if_pos hk]
  obtain ⟨R, hR⟩ : ∃ R, wA.heap.size = R := ⟨_, rfl⟩
  rw [hR] at hrz
  obtain ⟨w1, hw1⟩ : ∃ w1, wA.drew.alloc (.cells ROW 77) = w1 := ⟨_, rfl⟩
  have hwe : ∀ W, wA.drew.alloc W = (wA.alloc W).drew := fun W => rfl
  rw [hw1] at hrz
  have hb1 : Below wA.heap.size wA w1 := by rw [← hw1]; exact (below_drewN (Below.refl _ _) 1).alloc (Nat.le_refl _) _
  have hN1 : w1.heap[R]? = some (.cells ROW 77 (0, 0)) := by rw [← hw1, ← hR]; exact heap_alloc_new wA.drew _
  have hg1 : w1.heap[g]? = some (.cells cur 77 (0, 0)) := (hb1.block g (lt_of_block hgA)).trans hgA
  have hv1 : w1.heap[vb]? = some (.cells #[.int .u64 o, .int .i64 m] 77 (0, 0)) := (hb1.block vb (lt_of_block hvA)).trans hvA
  have hgR : g ≠ R := by have := lt_of_block hgA; omega
  have hvR : vb ≠ R := by have := lt_of_block hvA; omega
  obtain ⟨cA, hcA⟩ : ∃ cA, wrow ROW (j * 2) [.int .u64 o, .int .i64 m] = cA := ⟨_, rfl⟩
  obtain ⟨cB, hcB⟩ : ∃ cB, wrow cA ((j + 1) * 2) (acells (l.drop j)) = cB := ⟨_, rfl⟩
  have hsA : cA.size = G * 2 := by rw [← hcA, wrow_size _ _ _ (by simp; omega), hRs]
  have hsB : cB.size = G * 2 := by rw [← hcB, wrow_size _ _ _ (by rw [hdl, hsA]; omega), hsA]
  have hcp1 : ∀ ty dc, (Builtin.copy_ #[69, 69] ty #[.slice (some ⟨R, j * 2, none⟩) (n + 1 - j) dc, .slice (some ⟨vb, 0, none⟩) 1 1]).run Try.prog w1 = .ok (.int .i64 1) (w1.setRow R cA) := fun ty dc => by
    have hmin : Nat.min 1 (n + 1 - j) = 1 := by simp only [Nat.min_def]; split <;> omega
    have h9 := run_copy_asks w1 ty R (j * 2) (n + 1 - j) dc ⟨vb, 0, none⟩ 1 1 [.int .u64 o, .int .i64 m] ROW hN1 (by rw [hmin]; rfl) (fun k v hv => by
      rw [addr_add, Nat.zero_add, cell_of_row _ _ _ _ _ _ hv1]
      simpa using hv) (by simp; omega) (by intro u hu; simp at hu; rcases hu with rfl | rfl <;> rfl)
    rw [hmin, hcA] at h9
    exact h9
  obtain ⟨w2, hw2⟩ : ∃ w2, w1.setRow R cA = w2 := ⟨_, rfl⟩
  rw [hw2] at hcp1
  have hN2 : w2.heap[R]? = some (.cells cA 77 (0, 0)) := by rw [← hw2]; exact setRow_heap w1 R ROW cA _ _ hN1
  have hg2 : w2.heap[g]? = some (.cells cur 77 (0, 0)) := by rw [← hw2, setRow_otherL _ _ _ _ hgR]; exact hg1
  have hcp2 : ∀ ty dc sc, (Builtin.copy_ #[69, 69] ty #[.slice (some ⟨R, (j + 1) * 2, none⟩) (n - j) dc, .slice (some ⟨g, off + j * 2, none⟩) (n - j) sc]).run Try.prog w2.drew = .ok (.int .i64 (n - j : Nat)) (w2.drew.setRow R cB) := fun ty dc sc => by
    have hmin : Nat.min (n - j) (n - j) = n - j := Nat.min_self _
    have h9 := run_copy_asks w2.drew ty R ((j + 1) * 2) (n - j) dc ⟨g, off + j * 2, none⟩ (n - j) sc (acells (l.drop j)) cA hN2 (by rw [hdl, hmin]) (fun k v hv => by
      rw [addr_add]
      rw [← acells_drop, List.getElem?_drop] at hv
      have := QAt.cell (w := w2.drew) hg2 hrd (j * 2 + k) v hv
      rwa [← Nat.add_assoc] at this) (by rw [hdl, hsA]; omega) (acells_one _)
    rw [hmin, hcB] at h9
    exact h9
  have hpost : QPostJ w (.slice (some ⟨g, off, none⟩) n c) l j o m (.returned (.slice (some ⟨R, 0, none⟩) (n + 1) G)) (w2.drew.setRow R cB) := by
    refine ⟨_, rfl, .inr ⟨R, 0, G, cB, by rw [qins_length, hln], setRow_heap w2.drew R cA cB _ _ hN2, by rw [qins_length, hln]; exact hGn, hGm, by rw [hsB]; omega, ?_⟩, fun g2 hg2 => .inr ?_, fun k hk hkg => ?_, ?_, ⟨?_, ?_, ?_⟩, _, _, by rw [hln]⟩
    · rw [qins_length, hln]
      have hlen : ∀ k, k < (n + 1) * 2 → ((cB.toList.drop 0).take ((n + 1) * 2))[k]? = (acells (qins l j (o, m)))[k]? := fun k hk => by
        rw [List.getElem?_take, if_pos hk, List.getElem?_drop, Nat.zero_add, Array.getElem?_toList, ← hcB, wrow_get _ _ _ (by rw [hsA, hdl]; omega)]
        have hq : acells (qins l j (o, m)) = acells (l.take j) ++ ([.int .u64 o, .int .i64 m] ++ acells (l.drop j)) := by rw [qins, acells_append, acells_cons]
        rw [hq]
        by_cases h1 : k < j * 2
        · rw [if_neg (by omega), List.getElem?_append_left (by omega), ← hcA, wrow_get _ _ _ (by simp; omega), if_neg (by omega), hRt k h1, ← acells_take, List.getElem?_take, if_pos h1]
        · rw [List.getElem?_append_right (by omega), htl]
          by_cases h2 : k < j * 2 + 2
          · rw [if_neg (by omega), List.getElem?_append_left (by simp; omega), ← hcA, wrow_get _ _ _ (by simp; omega), if_pos (by simp; omega)]
          · rw [if_pos (by rw [hdl]; omega), List.getElem?_append_right (by simp; omega)]
            congr 1
            simp only [List.length_cons, List.length_nil]
            omega
      apply List.ext_getElem?
      intro k
      by_cases hk : k < (n + 1) * 2
      · exact hlen k hk
      · rw [List.getElem?_eq_none (by rw [List.length_take]; omega), List.getElem?_eq_none (by rw [acells_length, qins_length, hln]; omega)]
    · simp only [qblk, Option.some.injEq] at hg2
      omega
    · rw [setRow_otherL _ _ _ _ (by omega)]
      show w2.heap[k]? = _
      rw [← hw2, setRow_otherL _ _ _ _ (by omega), hb1.block k (by omega)]
      exact hfr.block k (by omega)
    · show w.heap.size ≤ (w2.drew.setRow R cB).heap.size
      have := hb1.size
      simp only [World.setRow, Array.size_modify, ← hw2]
      show w.heap.size ≤ (w1.setRow R cA).heap.size
      simp only [World.setRow, Array.size_modify]
      omega
    · rw [← hw2]; exact hb1.os.trans hfr.os
    · rw [← hw2]; exact hb1.tape.trans hfr.tape
    · rw [← hw2]; exact hb1.output.trans hfr.output
  have HPOST := Lib.hid hpost
  have hx1 : IntKind.i64.wrap ((j : Int) + 1) = (j : Int) + 1 := by rw [IntKind.wrap_i64]; omega
  have hx2 : IntKind.i64.wrap ((n : Int) + 1) = (n : Int) + 1 := by rw [IntKind.wrap_i64]; omega
  have hx3 : IntKind.i64.wrap ((n : Int) + 1 - j) = (n : Int) + 1 - j := by rw [IntKind.wrap_i64]; omega
  have hz1 : ((j : Int) == (n : Int)) = false := by simp; omega
  have hz2 : (c : Int) < (n : Int) + 1 := by omega
  have hc1 : ¬ (c = j) := by omega
  have hc3 : ¬ (G = j) := by omega
  have hc4 : ¬ (G = j + 1) := by omega
  have hp1 : (0 : Int) ≤ (j : Int) := by omega
  have hp2 : (0 : Int) ≤ (n : Int) := by omega
  have hs0 : ∀ W, (Instr.sliceAt 69 (.slice (some ⟨g, off, none⟩) n c) (some (.int .i64 j)) none none).run Try.prog W = .ok (.slice (some ⟨g, off + j * 2, none⟩) (n - j) (c - j)) W := fun W => by
    rw [slice_asks_l _ n c j W _ rfl (by omega) (by omega)]; simp [sliced, hc1, Addr.add]
  have hs1 : ∀ W, (Instr.sliceAt 69 (.slice (some ⟨g, off, none⟩) n c) none (some (.int .i64 (j : Int))) none).run Try.prog W = .ok (.slice (some ⟨g, off, none⟩) j c) W := fun W => slice_asks_h g off n c j W _ (by omega) (by omega)
  have hs2 : ∀ W, (Instr.sliceAt 69 (.slice (some ⟨R, 0, none⟩) (n + 1) G) (some (.int .i64 (j : Int))) none none).run Try.prog W = .ok (.slice (some ⟨R, j * 2, none⟩) (n + 1 - j) (G - j)) W := fun W => by
    rw [slice_asks_l _ (n + 1) G j W _ (by omega) (by omega) (by omega)]; simp [sliced, hc3, Addr.add]; omega
  have hs3 : ∀ W, (Instr.sliceAt 69 (.slice (some ⟨R, 0, none⟩) (n + 1) G) (some (.int .i64 ((j : Int) + 1))) none none).run Try.prog W = .ok (.slice (some ⟨R, (j + 1) * 2, none⟩) (n - j) (G - (j + 1))) W := fun W => by
    rw [slice_asks_l _ (n + 1) G (j + 1) W _ (by omega) (by omega) (by omega)]; simp [sliced, hc4, Addr.add]
  clear hpost hg hln hnc hcm hfit hrd hj hn hgl hgA hvA hfr hal hcA hcB hdl hsA hsB hwA hvb hne hc1 hc3 hc4 htl hi0 hz0 hzs hzb hold hkk hik hG hROW hGn hGm hzc hRs hRt hR hw1 hwe hb1 hN1 hg1 hv1 hgR hvR hw2 hN2 hg2 hnl hsA1
  go_enter Try.func33, Try.ntmps33
  go_wp2_with (first | (at_builtin; refine wpList_append_eq2 rfl rfl (hrz _) rfl rfl ?_) | (at_builtin; refine wpList_copy_eq rfl rfl (hcp1 _ _) rfl rfl ?_))
  go_region_law (refine copy_step rfl _ _ 69 69 rfl _ _ (by simp [Act.eval, Act.put]) (by simp [Act.eval, Act.put]) (hcp2 _ _ _) ?_)
  go_wp2
  go_ret
  exact HPOST.out

/-- whatever the place -/
theorem insert_any {w : World} {q : Value} {l : List (Int × Int)} (h : QAt w q l) (hn : l.length ≤ 8796093022200) (j : Nat) (hj : j ≤ l.length) (o m : Int) :
    Calls Try.prog 33 #[q, .int .i64 j, .slice (some ⟨w.heap.size, 0, none⟩) 1 1] (w.alloc (.cells #[.int .u64 o, .int .i64 m] 77)) (QPostJ w q l j o m) := by
  rcases Nat.lt_or_eq_of_le hj with hlt | rfl
  · rcases h with ⟨rfl, rfl⟩ | ⟨g, off, c, cur, rfl, hg, hlc, hcm, hfit, hrd⟩
    · simp at hlt
    · by_cases hr : l.length + 1 ≤ c
      · exact insert_room hg rfl hr hcm hfit hrd hlt hn o m
      · exact insert_grow hg rfl hlc (by omega) hcm hfit hrd hlt hn o m
  · refine (insert_end h hn o m).mono ?_
    rintro e w' ⟨q', rfl, hq, rest⟩
    exact ⟨q', rfl, by rw [qins_end]; exact hq, rest⟩
end Mun
end

section
/- Contracts over a whole table: Waits; DeleteFunc of one that does not wait. -/
set_option maxRecDepth 100000
set_option linter.unusedVariables false
set_option linter.unusedSimpArgs false
namespace Mun
open Go Go.RowKit
open Go.Proofs

theorem waits_any {W0 w : World} {t : TV} (h : TabL W0 w t) (o : Int) :
    Calls Try.prog 23 #[.pointer (some ⟨t.T, 0, none⟩), .int .u64 o] w fun e w' =>
      e = .returned (.tuple #[.agg #[.string ((klook t.ws o).map (·.1) |>.getD ⟨#[]⟩), .int .i64 ((klook t.ws o).map (·.2) |>.getD 0)], .bool (klook t.ws o).isSome]) ∧ TabL W0 w' t := by
  have h2 := h.below (((Below.refl _ _).alloc (Nat.le_refl _) (.cells #[.string ⟨#[]⟩, .int .i64 0] 33)) : Below w.heap.size w _)
  obtain ⟨wz, hwz⟩ : ∃ wz, w.alloc (.cells #[.string ⟨#[]⟩, .int .i64 0] 33) = wz := ⟨_, rfl⟩
  rw [hwz] at h2
  have c1 : wz.cell? ⟨t.T, 1, none⟩ = some (.map (some t.W)) := cell_of_row wz t.T 1 _ _ _ h2.rep.tab.blk
  have hl1 := gmap_lookup (P := Try.prog) Try.underlying63 Try.underlying29 (z33 wz) h2.rep.tab.wt o
  have hw2 : glook (wsV t.ws) o = (klook t.ws o).map fun y : ByteArray × Int => Value.agg #[.string y.1, .int .i64 y.2] := glook_map (fun y : ByteArray × Int => Value.agg #[.string y.1, .int .i64 y.2]) t.ws o
  rw [hw2] at hl1
  cases hk : klook t.ws o with
  | none =>
    rw [hk] at hl1
    change (Instr.lookup 63 (.map (some t.W)) (.int .u64 o) true).run Try.prog wz = .ok (.tuple #[.agg #[.string ⟨#[]⟩, .int .i64 0], .bool false]) wz at hl1
    have HB : Hid (∀ w', Below wz.heap.size wz w' → TabL W0 w' t) := fun w' hb => h2.below hb
    clear h h2 hw2 hk
    subst hwz
    go_enter Try.func23, Try.ntmps23
    go_wp2
    refine bodyPost_ret (by simp [results, Try.results23, go_sem]; try rfl) rfl ?_
    exact ⟨rfl, HB.out _ (below_more (Below.refl _ _) _)⟩
  | some y =>
    rw [hk] at hl1
    change (Instr.lookup 63 (.map (some t.W)) (.int .u64 o) true).run Try.prog wz = .ok (.tuple #[.agg #[.string y.1, .int .i64 y.2], .bool true]) wz at hl1
    have HB : Hid (∀ w', Below w.heap.size w w' → TabL W0 w' t) := fun w' hb => h.below hb
    clear h h2 hw2 hk
    subst hwz
    go_enter Try.func23, Try.ntmps23
    go_wp2
    refine bodyPost_ret (by simp [results, Try.results23, go_sem]; try rfl) rfl ?_
    exact ⟨rfl, HB.out _ (below_more (below_more (Below.refl _ _) _) _)⟩

theorem isOwner (w : World) (b : Nat) (u m o : Int) (hb : w.cell? ⟨b, 0, none⟩ = some (.int .u64 o)) : Calls Try.prog 39 #[.agg #[.int .u64 u, .int .i64 m], .pointer (some ⟨b, 0, none⟩)] w fun e w' => e = .returned (.bool (u == o)) ∧ Below w.heap.size w w' := by
  have hbl := World.block_lt_of_cell? w _ hb
  have hb2 : (w.alloc (.cells #[.int .u64 u, .int .i64 m] 77)).cell? ⟨b, 0, none⟩ = some (.int .u64 o) := by
    rw [World.cell?_alloc_lt _ _ _ hbl]; exact hb
  have HB : Hid (Below w.heap.size w (w.alloc (.cells #[.int .u64 u, .int .i64 m] 77))) := (Below.refl _ _).alloc (Nat.le_refl _) _
  clear hbl
  go_enter Try.func39, Try.ntmps39
  go_wp2
  go_ret
  exact ⟨rfl, HB.out⟩

theorem acells_get (l : List (Int × Int)) (i : Nat) (h : i < l.length) : (acells l)[i * 2]? = some (.int .u64 l[i].1) ∧ (acells l)[i * 2 + 1]? = some (.int .i64 l[i].2) := by
  induction l generalizing i with
  | nil => simp at h
  | cons a l ih =>
    cases i with
    | zero => exact ⟨rfl, rfl⟩
    | succ i =>
      have := ih i (by simpa using h)
      simp only [acells, List.flatMap_cons] at this ⊢
      have e1 : (i + 1) * 2 = i * 2 + 2 := by omega
      rw [e1, List.getElem?_append_right (by simp), List.getElem?_append_right (by simp)]
      simp only [List.length_cons, List.length_nil, List.getElem_cons_succ]
      have e2 : i * 2 + 2 - (0 + 1 + 1) = i * 2 := by omega
      have e3 : i * 2 + 2 + 1 - (0 + 1 + 1) = i * 2 + 1 := by omega
      rw [e2, e3]
      exact this
theorem QAt.at_ {w : World} {q : Value} {l : List (Int × Int)} (h : QAt w q l) (i : Nat) (hi : i < l.length) : ∃ g off c, q = .slice (some ⟨g, off, none⟩) l.length c ∧ w.cell? ⟨g, off + i * 2, none⟩ = some (.int .u64 l[i].1) ∧ w.cell? ⟨g, off + i * 2 + 1, none⟩ = some (.int .i64 l[i].2) := by
  rcases h with ⟨rfl, rfl⟩ | ⟨g, off, c, cur, rfl, hg, hlc, hcm, hfit, hrd⟩
  · simp at hi
  · obtain ⟨c1, c2⟩ := acells_get l i hi
    have key : ∀ j v, (acells l)[j]? = some v → w.cell? ⟨g, off + j, none⟩ = some v := fun j v hv => by
      rw [cell_of_row _ _ _ _ _ _ hg, ← Array.getElem?_toList]
      rw [← hrd, List.getElem?_take] at hv
      split at hv
      · rw [List.getElem?_drop] at hv; exact hv
      · cases hv
    exact ⟨g, off, c, rfl, key _ _ c1, by have := key _ _ c2; rwa [← Nat.add_assoc] at this⟩

theorem indexFunc_none {w : World} {q : Value} {l : List (Int × Int)} (h : QAt w q l) (hn : l.length ≤ 8796093022200) (b : Nat) (o : Int) (hb : w.cell? ⟨b, 0, none⟩ = some (.int .u64 o)) (hno : ∀ a ∈ l, a.1 ≠ o) :
    Calls Try.prog 31 #[q, .func (.func 39) #[] #[.pointer (some ⟨b, 0, none⟩)]] w fun e w' => e = .returned (.int .i64 (-1)) ∧ Below w.heap.size w w' := by
  obtain ⟨qa, qn, qc, hq, hqn⟩ : ∃ qa qn qc, q = .slice qa qn qc ∧ l.length = qn := by
    rcases h with ⟨e, e2⟩ | ⟨g, off, c, cur, e, -⟩
    · exact ⟨none, 0, 0, e, by rw [e2]; rfl⟩
    · exact ⟨some ⟨g, off, none⟩, _, c, e, rfl⟩
  subst hq
  have HQ := Lib.hid (And.intro h (And.intro hqn (And.intro hb (And.intro hno hn))))
  clear h hqn hb hno hn
  go_enter Try.func31, Try.ntmps31
  go_wp2
  go_loopw [5, 8] (fun a i wr => ∃ k : Nat, k ≤ qn ∧ i = .int .i64 (k : Int) ∧ Below w.heap.size w wr) (fun _ i _ => qn - (intOf i).toNat)
  case atStart => exact ⟨0, by omega, rfl, Below.refl _ _⟩
  case round =>
    obtain ⟨k, hk, rfl, hbr⟩ := hrel
    rcases Nat.lt_or_eq_of_le hk with hlt | heq
    · have hkl : k < l.length := by rw [HQ.out.2.1]; exact hlt
      obtain ⟨g, off, c, e, k0, k1⟩ := (HQ.out.1.keep (w' := wr) (fun g hg => by obtain ⟨cur, hc⟩ := HQ.out.1.blk hg; exact hbr.block g (Array.getElem?_eq_some_iff.1 hc).1)).at_ k hkl
      injection e with e1 e2 e3
      subst e1 e3
      clear e2
      obtain ⟨y, hy⟩ : ∃ y, l[k] = y := ⟨_, rfl⟩
      have hym : y ∈ l := by rw [← hy]; exact List.getElem_mem hkl
      rw [hy] at k0 k1
      have hyo : (y.1 == o) = false := by simpa using HQ.out.2.2.2.1 y hym
      have hcell : wr.cell? ⟨b, 0, none⟩ = some (.int .u64 o) := by
        have h1 := World.block_lt_of_cell? w _ HQ.out.2.2.1
        have h2 : wr.cell? ⟨b, 0, none⟩ = w.cell? ⟨b, 0, none⟩ := World.cell?_of_block (hbr.block b h1)
        rw [h2]
        exact HQ.out.2.2.1
      have hcl := isOwner wr b y.1 y.2 o hcell
      rw [hyo] at hcl
      have HCL := Lib.hid hcl
      have hki : (k : Int) < (qn : Int) := by omega
      have hk0 : (0 : Int) ≤ (k : Int) := by omega
      have HWJ : Hid (wrap64 ((k : Int) + 1) = (k : Int) + 1) := by show _ = _; have h9 := HQ.out.2.2.2.2; have h8 := HQ.out.2.1; unfold wrap64; omega
      have HBR := Lib.hid (And.intro hbr hlt)
      clear hcl hcell hym hy hkl hbr hlt hk hyo
      go_wp2_with fail
      refine HCL.out.mono ?_
      rintro e w5 ⟨rfl, hb5⟩
      go_wp2
      go_roundw
      case rel => exact ⟨k + 1, by have := HBR.out.2; omega, by rw [HWJ.out]; rfl, HBR.out.1.trans (hb5.mono HBR.out.1.size)⟩
      case measure => have := HBR.out.2; rw [HWJ.out]; simp [intOf]; omega
    · replace heq := heq.symm
      subst heq
      go_wp2
      go_ret
      exact ⟨rfl, hbr⟩

theorem deleteFunc_none {w : World} {q : Value} {l : List (Int × Int)} (h : QAt w q l) (hn : l.length ≤ 8796093022200) (b : Nat) (o : Int) (hb : w.cell? ⟨b, 0, none⟩ = some (.int .u64 o)) (hno : ∀ a ∈ l, a.1 ≠ o) :
    Calls Try.prog 38 #[q, .func (.func 39) #[] #[.pointer (some ⟨b, 0, none⟩)]] w fun e w' => e = .returned q ∧ Below w.heap.size w w' := by
  have HI := Lib.hid (indexFunc_none h hn b o hb hno)
  obtain ⟨qa, qn, qc, rfl⟩ : ∃ qa qn qc, q = .slice qa qn qc := by
    rcases h with ⟨e, e2⟩ | ⟨g, off, c, cur, e, -⟩
    · exact ⟨none, 0, 0, e⟩
    · exact ⟨some ⟨g, off, none⟩, _, c, e⟩
  clear h hn hb hno
  go_enter Try.func38, Try.ntmps38
  go_wp2_with fail
  refine HI.out.mono ?_
  rintro e w2 ⟨rfl, hb2⟩
  go_wp2
  go_ret
  exact ⟨rfl, hb2⟩
end Mun
end

section
/- The two closures of lock over a queue; slices.IndexFunc with each of them; slices.DeleteFunc. -/
set_option maxRecDepth 100000
set_option linter.unusedVariables false
set_option linter.unusedSimpArgs false
namespace Mun
open Go Go.RowKit
open Go.Proofs

def isFree (hs : List (Int × Int)) (u : Int) : Bool := (klook hs u).getD 0 == 0
theorem isHeld (w : World) (b p H : Nat) (q : Value) (hs : List (Int × Int)) (u m : Int) (hb : w.cell? ⟨b, 0, none⟩ = some (.pointer (some ⟨p, 0, none⟩))) (hp : PlAt w p H q (hsV hs)) :
    Calls Try.prog 32 #[.agg #[.int .u64 u, .int .i64 m], .pointer (some ⟨b, 0, none⟩)] w fun e w' => e = .returned (.bool (isFree hs u)) ∧ Below w.heap.size w w' := by
  have hbl := World.block_lt_of_cell? w _ hb
  obtain ⟨wA, hwA⟩ : ∃ wA, w.alloc (.cells #[.int .u64 u, .int .i64 m] 77) = wA := ⟨_, rfl⟩
  have hfr : Below w.heap.size w wA := by rw [← hwA]; exact (Below.refl _ _).alloc (Nat.le_refl _) _
  have cb : wA.cell? ⟨b, 0, none⟩ = some (.pointer (some ⟨p, 0, none⟩)) := (World.cell?_of_block (hfr.block b hbl)).trans hb
  have hpA : PlAt wA p H q (hsV hs) := hp.keep hfr.block
  have c0 : wA.cell? ⟨p, 0, none⟩ = some (.map (some H)) := cell_of_row wA p 0 _ _ _ hpA.blk
  have cn : wA.heap[w.heap.size]? = some (.cells #[.int .u64 u, .int .i64 m] 77 (0, 0)) := by rw [← hwA]; exact heap_alloc_new w _
  have ca : wA.cell? ⟨w.heap.size, 0, none⟩ = some (.int .u64 u) := cell_of_row wA _ 0 _ _ _ cn
  have hlk : ∀ n, (Instr.lookup 68 (.map (some H)) (.int .u64 u) false).run Try.prog (wA.drewN n) = .ok (.int .i64 ((klook hs u).getD 0)) (wA.drewN n) := fun n => by
    have h9 := gmap_lookup1 (P := Try.prog) Try.underlying68 Try.underlying29 (z3 (wA.drewN n)) (hpA.hl.keep (w' := wA.drewN n) (by induction n with | zero => rfl | succ n ih => exact ih)) u
    have h8 := glook_map (fun k : Int => Value.int .i64 k) hs u
    unfold hsV at h9
    rw [h8] at h9
    cases hk : klook hs u with
    | none => rw [hk] at h9; exact h9
    | some k => rw [hk] at h9; exact h9
  unfold isFree
  obtain ⟨k, hk⟩ : ∃ k, (klook hs u).getD 0 = k := ⟨_, rfl⟩
  rw [hk] at hlk ⊢
  have HFR := Lib.hid hfr
  clear hbl hfr hpA hp hb hk cn
  go_enter Try.func32, Try.ntmps32
  go_upto_region 1 with (fail)
  clear hwA
  go_quiet (fail)
  go_wp2
  go_ret
  exact ⟨rfl, below_drewN HFR.out _⟩

/-- where the first one of which a predicate holds stands; -1: none -/
def idxI (l : List (Int × Int)) (pr : Int → Bool) : Int := if l.findIdx (fun a => pr a.1) < l.length then (l.findIdx (fun a => pr a.1) : Nat) else -1

theorem indexFunc_held {w : World} {q : Value} {l : List (Int × Int)} (h : QAt w q l) (hn : l.length ≤ 8796093022200) (b : Nat) (pr : Int → Bool)
    (hcl : ∀ (W : World) (u m : Int), Below w.heap.size w W → Calls Try.prog 32 #[.agg #[.int .u64 u, .int .i64 m], .pointer (some ⟨b, 0, none⟩)] W fun e w' => e = .returned (.bool (pr u)) ∧ Below W.heap.size W w') :
    Calls Try.prog 31 #[q, .func (.func 32) #[] #[.pointer (some ⟨b, 0, none⟩)]] w fun e w' => e = .returned (.int .i64 (idxI l pr)) ∧ Below w.heap.size w w' := by
  obtain ⟨qa, qn, qc, hq, hqn⟩ : ∃ qa qn qc, q = .slice qa qn qc ∧ l.length = qn := by
    rcases h with ⟨e, e2⟩ | ⟨g, off, c, cur, e, -⟩
    · exact ⟨none, 0, 0, e, by rw [e2]; rfl⟩
    · exact ⟨some ⟨g, off, none⟩, _, c, e, rfl⟩
  subst hq
  have HQ := Lib.hid (And.intro h (And.intro hqn (And.intro hcl hn)))
  clear h hqn hcl hn
  go_enter Try.func31, Try.ntmps31
  go_wp2
  go_loopw [5, 8] (fun a i wr => ∃ k : Nat, k ≤ qn ∧ i = .int .i64 (k : Int) ∧ Below w.heap.size w wr ∧ ∀ i (hi : i < l.length), i < k → pr l[i].1 = false) (fun _ i _ => qn - (intOf i).toNat)
  case atStart => exact ⟨0, by omega, rfl, Below.refl _ _, fun i _ hi => absurd hi (by omega)⟩
  case round =>
    obtain ⟨k, hk, rfl, hbr, hno⟩ := hrel
    rcases Nat.lt_or_eq_of_le hk with hlt | heq
    · have hkl : k < l.length := by rw [HQ.out.2.1]; exact hlt
      obtain ⟨g, off, c, e, k0, k1⟩ := (HQ.out.1.keep (w' := wr) (fun g hg => by obtain ⟨cur, hc⟩ := HQ.out.1.blk hg; exact hbr.block g (Array.getElem?_eq_some_iff.1 hc).1)).at_ k hkl
      injection e with e1 e2 e3
      subst e1 e3
      clear e2
      obtain ⟨y, hy⟩ : ∃ y, l[k] = y := ⟨_, rfl⟩
      rw [hy] at k0 k1
      have hcl := HQ.out.2.2.1 wr y.1 y.2 hbr
      obtain ⟨r, hr⟩ : ∃ r, pr y.1 = r := ⟨_, rfl⟩
      rw [hr] at hcl
      have HCL := Lib.hid hcl
      have hki : (k : Int) < (qn : Int) := by omega
      have hk0 : (0 : Int) ≤ (k : Int) := by omega
      have HWJ : Hid (wrap64 ((k : Int) + 1) = (k : Int) + 1) := by show _ = _; have h9 := HQ.out.2.2.2; have h8 := HQ.out.2.1; unfold wrap64; omega
      have HBR := Lib.hid (And.intro hbr (And.intro hlt (And.intro hno (And.intro hkl (And.intro hy hr)))))
      clear hcl hy hbr hlt hk hno hr
      cases r with
      | false =>
        go_wp2_with fail
        refine HCL.out.mono ?_
        rintro e w5 ⟨rfl, hb5⟩
        go_wp2
        go_roundw
        case rel => exact ⟨k + 1, by have := HBR.out.2.1; omega, by rw [HWJ.out]; rfl, HBR.out.1.trans (hb5.mono HBR.out.1.size), fun i hi hik => by
          rcases Nat.lt_or_eq_of_le (Nat.le_of_lt_succ hik) with h9 | h9
          · exact HBR.out.2.2.1 i hi h9
          · subst h9; rw [HBR.out.2.2.2.2.1]; exact HBR.out.2.2.2.2.2⟩
        case measure => have := HBR.out.2.1; rw [HWJ.out]; simp [intOf]; omega
      | true =>
        have hidx : idxI l pr = (k : Int) := by
          have h9 : l.findIdx (fun a => pr a.1) = k := by
            rw [List.findIdx_eq HBR.out.2.2.2.1]
            refine ⟨by rw [HBR.out.2.2.2.2.1]; exact HBR.out.2.2.2.2.2, fun j hj => HBR.out.2.2.1 j _ hj⟩
          unfold idxI
          rw [h9, if_pos HBR.out.2.2.2.1]
        have HI := Lib.hid hidx
        clear hidx
        go_wp2_with fail
        refine HCL.out.mono ?_
        rintro e w5 ⟨rfl, hb5⟩
        go_wp2
        go_ret
        exact ⟨by rw [HI.out]; rfl, HBR.out.1.trans (hb5.mono HBR.out.1.size)⟩
    · replace heq := heq.symm
      subst heq
      have hidx : idxI l pr = -1 := by
        unfold idxI
        rw [if_neg]
        intro h9
        have h8 := List.findIdx_getElem (w := h9)
        have h7 := hno _ h9 (by rw [← HQ.out.2.1]; exact h9)
        rw [h7] at h8
        cases h8
      have HI := Lib.hid hidx
      clear hidx hno
      go_wp2
      go_ret
      exact ⟨by rw [HI.out]; rfl, hbr⟩

theorem indexFunc_owner {w : World} {q : Value} {l : List (Int × Int)} (h : QAt w q l) (hn : l.length ≤ 8796093022200) (b : Nat) (pr : Int → Bool)
    (hcl : ∀ (W : World) (u m : Int), Below w.heap.size w W → Calls Try.prog 39 #[.agg #[.int .u64 u, .int .i64 m], .pointer (some ⟨b, 0, none⟩)] W fun e w' => e = .returned (.bool (pr u)) ∧ Below W.heap.size W w') :
    Calls Try.prog 31 #[q, .func (.func 39) #[] #[.pointer (some ⟨b, 0, none⟩)]] w fun e w' => e = .returned (.int .i64 (idxI l pr)) ∧ Below w.heap.size w w' := by
  obtain ⟨qa, qn, qc, hq, hqn⟩ : ∃ qa qn qc, q = .slice qa qn qc ∧ l.length = qn := by
    rcases h with ⟨e, e2⟩ | ⟨g, off, c, cur, e, -⟩
    · exact ⟨none, 0, 0, e, by rw [e2]; rfl⟩
    · exact ⟨some ⟨g, off, none⟩, _, c, e, rfl⟩
  subst hq
  have HQ := Lib.hid (And.intro h (And.intro hqn (And.intro hcl hn)))
  clear h hqn hcl hn
  go_enter Try.func31, Try.ntmps31
  go_wp2
  go_loopw [5, 8] (fun a i wr => ∃ k : Nat, k ≤ qn ∧ i = .int .i64 (k : Int) ∧ Below w.heap.size w wr ∧ ∀ i (hi : i < l.length), i < k → pr l[i].1 = false) (fun _ i _ => qn - (intOf i).toNat)
  case atStart => exact ⟨0, by omega, rfl, Below.refl _ _, fun i _ hi => absurd hi (by omega)⟩
  case round =>
    obtain ⟨k, hk, rfl, hbr, hno⟩ := hrel
    rcases Nat.lt_or_eq_of_le hk with hlt | heq
    · have hkl : k < l.length := by rw [HQ.out.2.1]; exact hlt
      obtain ⟨g, off, c, e, k0, k1⟩ := (HQ.out.1.keep (w' := wr) (fun g hg => by obtain ⟨cur, hc⟩ := HQ.out.1.blk hg; exact hbr.block g (Array.getElem?_eq_some_iff.1 hc).1)).at_ k hkl
      injection e with e1 e2 e3
      subst e1 e3
      clear e2
      obtain ⟨y, hy⟩ : ∃ y, l[k] = y := ⟨_, rfl⟩
      rw [hy] at k0 k1
      have hcl := HQ.out.2.2.1 wr y.1 y.2 hbr
      obtain ⟨r, hr⟩ : ∃ r, pr y.1 = r := ⟨_, rfl⟩
      rw [hr] at hcl
      have HCL := Lib.hid hcl
      have hki : (k : Int) < (qn : Int) := by omega
      have hk0 : (0 : Int) ≤ (k : Int) := by omega
      have HWJ : Hid (wrap64 ((k : Int) + 1) = (k : Int) + 1) := by show _ = _; have h9 := HQ.out.2.2.2; have h8 := HQ.out.2.1; unfold wrap64; omega
      have HBR := Lib.hid (And.intro hbr (And.intro hlt (And.intro hno (And.intro hkl (And.intro hy hr)))))
      clear hcl hy hbr hlt hk hno hr
      cases r with
      | false =>
        go_wp2_with fail
        refine HCL.out.mono ?_
        rintro e w5 ⟨rfl, hb5⟩
        go_wp2
        go_roundw
        case rel => exact ⟨k + 1, by have := HBR.out.2.1; omega, by rw [HWJ.out]; rfl, HBR.out.1.trans (hb5.mono HBR.out.1.size), fun i hi hik => by
          rcases Nat.lt_or_eq_of_le (Nat.le_of_lt_succ hik) with h9 | h9
          · exact HBR.out.2.2.1 i hi h9
          · subst h9; rw [HBR.out.2.2.2.2.1]; exact HBR.out.2.2.2.2.2⟩
        case measure => have := HBR.out.2.1; rw [HWJ.out]; simp [intOf]; omega
      | true =>
        have hidx : idxI l pr = (k : Int) := by
          have h9 : l.findIdx (fun a => pr a.1) = k := by
            rw [List.findIdx_eq HBR.out.2.2.2.1]
            refine ⟨by rw [HBR.out.2.2.2.2.1]; exact HBR.out.2.2.2.2.2, fun j hj => HBR.out.2.2.1 j _ hj⟩
          unfold idxI
          rw [h9, if_pos HBR.out.2.2.2.1]
        have HI := Lib.hid hidx
        clear hidx
        go_wp2_with fail
        refine HCL.out.mono ?_
        rintro e w5 ⟨rfl, hb5⟩
        go_wp2
        go_ret
        exact ⟨by rw [HI.out]; rfl, HBR.out.1.trans (hb5.mono HBR.out.1.size)⟩
    · replace heq := heq.symm
      subst heq
      have hidx : idxI l pr = -1 := by
        unfold idxI
        rw [if_neg]
        intro h9
        have h8 := List.findIdx_getElem (w := h9)
        have h7 := hno _ h9 (by rw [← HQ.out.2.1]; exact h9)
        rw [h7] at h8
        cases h8
      have HI := Lib.hid hidx
      clear hidx hno
      go_wp2
      go_ret
      exact ⟨by rw [HI.out]; rfl, hbr⟩
end Mun
end
