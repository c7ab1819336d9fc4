/- Contracts of Ask over a whole table, where the name is known, or the asking is refused. -/
import Derived.Test.YtbdkhegfmnladaaLockV
set_option maxRecDepth 100000
set_option linter.unusedVariables false
set_option linter.unusedSimpArgs false
namespace Mun
open Go Go.RowKit
open Go.Proofs

/-- nobody waits, and the holders let it -/
theorem ask_there2 {W0 w : World} {t : TV} (h : TabL W0 w t) {i : Nat} {s : ByteArray} {x : PV} (hx : t.pl[i]? = some (s, x)) (hpa : klook t.pl s = some x) (o m : Int) (ho : o ≠ 0) (him : isM m = true) (hw : klook t.ws o = none) (hh : klook x.hs o = none) (hqs : x.qs = []) (hg : goesP (hsV x.hs) o m = true) :
    Calls Try.prog 17 #[.pointer (some ⟨t.T, 0, none⟩), .int .u64 o, .string s, .int .i64 m] w fun e w' => e = .returned (.int .i64 0) ∧ ∃ nm, TabL W0 w' (held1 t i (s, x) o m nm) ∧ NmIs nm t.nm o s := by
  have hpa2 : glook (plV t.pl) s = some (.pointer (some ⟨x.p, 0, none⟩)) := by
    have h9 := glook_map (fun y : PV => Value.pointer (some ⟨y.p, 0, none⟩)) t.pl s
    rw [hpa] at h9
    exact h9
  have hw2 : glook (wsV t.ws) o = none := by
    have h9 := glook_map (fun y : ByteArray × Int => Value.agg #[.string y.1, .int .i64 y.2]) t.ws o
    rw [hw] at h9
    exact h9
  have hhl : glook (hsV x.hs) o = (klook x.hs o).map (fun k : Int => Value.int .i64 k) := glook_map (fun k : Int => Value.int .i64 k) x.hs o
  have hm : ModesAt (hsV x.hs) := fun q hq => by obtain ⟨y, -, rfl⟩ := List.mem_map.1 hq; exact ⟨y.2, rfl⟩
  have ht := h.rep.tab
  have hpl := h.rep.pls i _ hx
  have HL := Lib.hid (And.intro h hx)
  obtain ⟨T, P, W, N, pl, ws0, nm⟩ := t
  obtain ⟨p, H, q, hs0, qs⟩ := x
  simp only at ht hpl hpa2 hw2 hhl hm ⊢
  obtain ⟨hp, hq⟩ := hpl
  obtain ⟨ps, hps⟩ : ∃ ps, plV pl = ps := ⟨_, rfl⟩
  obtain ⟨ws, hws⟩ : ∃ ws, wsV ws0 = ws := ⟨_, rfl⟩
  obtain ⟨ns, hns⟩ : ∃ ns, nmV nm = ns := ⟨_, rfl⟩
  obtain ⟨hs, hhs⟩ : ∃ hs, hsV hs0 = hs := ⟨_, rfl⟩
  rw [hps, hws, hns] at ht
  rw [hps] at hpa2
  rw [hws] at hw2
  rw [hhs] at hhl hm hp
  have hh2 : glook hs o = none := by rw [hhl, show klook hs0 o = none from hh]; rfl
  rw [show hsV (PV.hs ⟨p, H, q, hs0, qs⟩) = hs from hhs] at hg
  obtain ⟨qa, qc, rfl⟩ : ∃ qa qc, q = .slice qa 0 qc := by
    rcases hq with ⟨e, -⟩ | ⟨g, off, c, cur, e, -⟩
    · exact ⟨none, 0, e⟩
    · exact ⟨some ⟨g, off, none⟩, c, by rw [e, show qs = [] from hqs]; rfl⟩
  have hims := isMode_any w m
  rw [him] at hims
  have hob : (o == 0) = false := by simpa using ho
  have c1 : w.cell? ⟨T, 1, none⟩ = some (.map (some W)) := cell_of_row w T 1 _ _ _ ht.blk
  have hl1 := gmap_lookup (P := Try.prog) Try.underlying63 Try.underlying29 (z33 w) ht.wt o
  rw [hw2] at hl1
  change (Instr.lookup 63 (.map (some W)) (.int .u64 o) true).run Try.prog w = .ok (.tuple #[.agg #[.string ⟨#[]⟩, .int .i64 0], .bool false]) w at hl1
  obtain ⟨wA, hwA⟩ : ∃ wA, w.alloc (.cells #[.string ⟨#[]⟩, .int .i64 0] 33) = wA := ⟨_, rfl⟩
  have kA : ∀ k, k < w.heap.size → wA.heap[k]? = w.heap[k]? := fun k hk => by rw [← hwA, heap_alloc_old _ _ hk]
  have sA : wA.heap.size = w.heap.size + 1 := by rw [← hwA, World.size_alloc]
  have htA := ht.keep kA
  have hpA := hp.keep kA
  have c2 : wA.cell? ⟨T, 0, none⟩ = some (.map (some P)) := cell_of_row wA T 0 _ _ _ htA.blk
  have hl2 := gmap_lookup1 (P := Try.prog) Try.underlying62 Try.underlying9 (z67 wA) htA.pl s
  rw [hpa2] at hl2
  change (Instr.lookup 62 (.map (some P)) (.string s) false).run Try.prog wA = .ok (.pointer (some ⟨p, 0, none⟩)) wA at hl2
  obtain ⟨wB, hwB⟩ : ∃ wB, wA.alloc (.cells #[.pointer (some ⟨p, 0, none⟩)] 67) = wB := ⟨_, rfl⟩
  have kB : ∀ k, k < wA.heap.size → wB.heap[k]? = wA.heap[k]? := fun k hk => by rw [← hwB, heap_alloc_old _ _ hk]
  have sB : wB.heap.size = w.heap.size + 2 := by rw [← hwB, World.size_alloc, sA]
  have htB := htA.keep kB
  have hpB := hpA.keep kB
  have nB : wB.heap[w.heap.size + 1]? = some (.cells #[.pointer (some ⟨p, 0, none⟩)] 67 (0, 0)) := by rw [← hwB, ← sA]; exact heap_alloc_new wA _
  have c3 : wB.cell? ⟨w.heap.size + 1, 0, none⟩ = some (.pointer (some ⟨p, 0, none⟩)) := cell_of_row wB _ 0 _ _ _ nB
  have c4 : wB.cell? ⟨p, 0, none⟩ = some (.map (some H)) := cell_of_row wB p 0 _ _ _ hpB.blk
  have c5 : wB.cell? ⟨p, 1, none⟩ = some (.slice qa 0 qc) := cell_of_row wB p 1 _ _ _ hpB.blk
  have hl3 := gmap_lookup (P := Try.prog) Try.underlying68 Try.underlying29 (z3 wB) hpB.hl o
  rw [hh2] at hl3
  change (Instr.lookup 68 (.map (some H)) (.int .u64 o) true).run Try.prog wB = .ok (.tuple #[.int .i64 0, .bool false]) wB at hl3
  have hgo := goes_any wB p H _ hs o m hpB hm
  rw [hg] at hgo
  have HG := Lib.hid hgo
  have HN := Lib.hid nB
  have HBB : Hid (Below w.heap.size w wB) := by
    show Below _ _ _
    rw [← hwB, ← hwA]
    exact below_more (below_more (Below.refl _ _) _) _
  clear ht hp htA hpA htB hpB kA kB sA sB hgo nB h hx
  subst hwB
  subst hwA
  go_enter Try.func17, Try.ntmps17
  go_wp2_with fail
  refine hims.mono ?_
  rintro e w' ⟨rfl, rfl⟩
  go_wp2_with fail
  refine HG.out.mono ?_
  rintro e w2 ⟨rfl, hb2⟩
  have k2 : ∀ k, k < _ → w2.heap[k]? = _ := fun k hk => hb2.block k hk
  have c6 : w2.cell? ⟨w'.heap.size + 1, 0, none⟩ = some (.pointer (some ⟨p, 0, none⟩)) := cell_of_row w2 _ 0 _ _ _ ((k2 _ (Array.getElem?_eq_some_iff.1 HN.out).1).trans HN.out)
  have hho := hold_any ((HL.out.1.below HBB.out).below hb2) HL.out.2 o m
  have HH := Lib.hid hho
  clear hho hb2 k2
  go_wp2_with fail
  refine HH.out.mono ?_
  rintro e w3 ⟨rfl, nm', h3, hnm⟩
  go_wp2
  go_ret
  exact ⟨rfl, nm', h3, hnm⟩

/-- a holder asks for more, and nobody is in the way -/
theorem ask_up2 {W0 w : World} {t : TV} (h : TabL W0 w t) {i : Nat} {s : ByteArray} {x : PV} (hx : t.pl[i]? = some (s, x)) (hpa : klook t.pl s = some x) (o m : Int) (ho : o ≠ 0) (him : isM m = true) (hw : klook t.ws o = none) (m0 : Int) (hh : klook x.hs o = some m0) (hj : jn m0 m ≠ m0) (hg : goesP (hsV x.hs) o (jn m0 m) = true) :
    Calls Try.prog 17 #[.pointer (some ⟨t.T, 0, none⟩), .int .u64 o, .string s, .int .i64 m] w fun e w' => e = .returned (.int .i64 0) ∧ ∃ nm, TabL W0 w' (held1 t i (s, x) o (jn m0 m) nm) ∧ NmIs nm t.nm o s := by
  have hpa2 : glook (plV t.pl) s = some (.pointer (some ⟨x.p, 0, none⟩)) := by
    have h9 := glook_map (fun y : PV => Value.pointer (some ⟨y.p, 0, none⟩)) t.pl s
    rw [hpa] at h9
    exact h9
  have hw2 : glook (wsV t.ws) o = none := by
    have h9 := glook_map (fun y : ByteArray × Int => Value.agg #[.string y.1, .int .i64 y.2]) t.ws o
    rw [hw] at h9
    exact h9
  have hhl : glook (hsV x.hs) o = (klook x.hs o).map (fun k : Int => Value.int .i64 k) := glook_map (fun k : Int => Value.int .i64 k) x.hs o
  have hm : ModesAt (hsV x.hs) := fun q hq => by obtain ⟨y, -, rfl⟩ := List.mem_map.1 hq; exact ⟨y.2, rfl⟩
  have ht := h.rep.tab
  have hpl := h.rep.pls i _ hx
  have HL := Lib.hid (And.intro h hx)
  obtain ⟨T, P, W, N, pl, ws0, nm⟩ := t
  obtain ⟨p, H, q, hs0, qs⟩ := x
  simp only at ht hpl hpa2 hw2 hhl hm ⊢
  obtain ⟨hp, hq⟩ := hpl
  obtain ⟨ps, hps⟩ : ∃ ps, plV pl = ps := ⟨_, rfl⟩
  obtain ⟨ws, hws⟩ : ∃ ws, wsV ws0 = ws := ⟨_, rfl⟩
  obtain ⟨ns, hns⟩ : ∃ ns, nmV nm = ns := ⟨_, rfl⟩
  obtain ⟨hs, hhs⟩ : ∃ hs, hsV hs0 = hs := ⟨_, rfl⟩
  rw [hps, hws, hns] at ht
  rw [hps] at hpa2
  rw [hws] at hw2
  rw [hhs] at hhl hm hp
  have hh2 : glook hs o = some (.int .i64 m0) := by rw [hhl, show klook hs0 o = some m0 from hh]; rfl
  rw [show hsV (PV.hs ⟨p, H, q, hs0, qs⟩) = hs from hhs] at hg
  have hims := isMode_any w m
  rw [him] at hims
  have hob : (o == 0) = false := by simpa using ho
  have c1 : w.cell? ⟨T, 1, none⟩ = some (.map (some W)) := cell_of_row w T 1 _ _ _ ht.blk
  have hl1 := gmap_lookup (P := Try.prog) Try.underlying63 Try.underlying29 (z33 w) ht.wt o
  rw [hw2] at hl1
  change (Instr.lookup 63 (.map (some W)) (.int .u64 o) true).run Try.prog w = .ok (.tuple #[.agg #[.string ⟨#[]⟩, .int .i64 0], .bool false]) w at hl1
  obtain ⟨wA, hwA⟩ : ∃ wA, w.alloc (.cells #[.string ⟨#[]⟩, .int .i64 0] 33) = wA := ⟨_, rfl⟩
  have kA : ∀ k, k < w.heap.size → wA.heap[k]? = w.heap[k]? := fun k hk => by rw [← hwA, heap_alloc_old _ _ hk]
  have sA : wA.heap.size = w.heap.size + 1 := by rw [← hwA, World.size_alloc]
  have htA := ht.keep kA
  have hpA := hp.keep kA
  have c2 : wA.cell? ⟨T, 0, none⟩ = some (.map (some P)) := cell_of_row wA T 0 _ _ _ htA.blk
  have hl2 := gmap_lookup1 (P := Try.prog) Try.underlying62 Try.underlying9 (z67 wA) htA.pl s
  rw [hpa2] at hl2
  change (Instr.lookup 62 (.map (some P)) (.string s) false).run Try.prog wA = .ok (.pointer (some ⟨p, 0, none⟩)) wA at hl2
  obtain ⟨wB, hwB⟩ : ∃ wB, wA.alloc (.cells #[.pointer (some ⟨p, 0, none⟩)] 67) = wB := ⟨_, rfl⟩
  have kB : ∀ k, k < wA.heap.size → wB.heap[k]? = wA.heap[k]? := fun k hk => by rw [← hwB, heap_alloc_old _ _ hk]
  have htB := htA.keep kB
  have hpB := hpA.keep kB
  have nB : wB.heap[w.heap.size + 1]? = some (.cells #[.pointer (some ⟨p, 0, none⟩)] 67 (0, 0)) := by rw [← hwB, ← sA]; exact heap_alloc_new wA _
  have c3 : wB.cell? ⟨w.heap.size + 1, 0, none⟩ = some (.pointer (some ⟨p, 0, none⟩)) := cell_of_row wB _ 0 _ _ _ nB
  have c4 : wB.cell? ⟨p, 0, none⟩ = some (.map (some H)) := cell_of_row wB p 0 _ _ _ hpB.blk
  have hl3 := gmap_lookup (P := Try.prog) Try.underlying68 Try.underlying29 (z3 wB) hpB.hl o
  rw [hh2] at hl3
  change (Instr.lookup 68 (.map (some H)) (.int .u64 o) true).run Try.prog wB = .ok (.tuple #[.int .i64 m0, .bool true]) wB at hl3
  have hjn := join_any wB m0 m
  have hgo := goes_any wB p H _ hs o (jn m0 m) hpB hm
  rw [hg] at hgo
  obtain ⟨j, hjj⟩ : ∃ j, jn m0 m = j := ⟨_, rfl⟩
  rw [hjj] at hj hjn hgo ⊢
  have hjb : (j == m0) = false := by simpa using hj
  have HG := Lib.hid hgo
  have HJ := Lib.hid hjn
  have HN := Lib.hid nB
  have HBB : Hid (Below w.heap.size w wB) := by
    show Below _ _ _
    rw [← hwB, ← hwA]
    exact below_more (below_more (Below.refl _ _) _) _
  clear ht hp htA hpA htB hpB kA kB sA hgo nB hjn hjj h hx
  subst hwB
  subst hwA
  go_enter Try.func17, Try.ntmps17
  go_wp2_with fail
  refine hims.mono ?_
  rintro e w' ⟨rfl, rfl⟩
  go_wp2_with fail
  refine HJ.out.mono ?_
  rintro e w2 ⟨rfl, rfl⟩
  go_wp2_with fail
  refine HG.out.mono ?_
  rintro e w2 ⟨rfl, hb2⟩
  have k2 : ∀ k, k < _ → w2.heap[k]? = _ := fun k hk => hb2.block k hk
  have c6 : w2.cell? ⟨w'.heap.size + 1, 0, none⟩ = some (.pointer (some ⟨p, 0, none⟩)) := cell_of_row w2 _ 0 _ _ _ ((k2 _ (Array.getElem?_eq_some_iff.1 HN.out).1).trans HN.out)
  have hho := hold_any ((HL.out.1.below HBB.out).below hb2) HL.out.2 o j
  have HH := Lib.hid hho
  clear hho hb2 k2
  go_wp2_with fail
  refine HH.out.mono ?_
  rintro e w3 ⟨rfl, nm', h3, hnm⟩
  go_wp2
  go_ret
  exact ⟨rfl, nm', h3, hnm⟩

/-- a holder asks for no more than it holds -/
theorem ask_same2 {W0 w : World} {t : TV} (h : TabL W0 w t) {i : Nat} {s : ByteArray} {x : PV} (hx : t.pl[i]? = some (s, x)) (hpa : klook t.pl s = some x) (o m : Int) (ho : o ≠ 0) (him : isM m = true) (hw : klook t.ws o = none) (m0 : Int) (hh : klook x.hs o = some m0) (hj : jn m0 m = m0) :
    Calls Try.prog 17 #[.pointer (some ⟨t.T, 0, none⟩), .int .u64 o, .string s, .int .i64 m] w fun e w' => e = .returned (.int .i64 0) ∧ TabL W0 w' t := by
  have hpa2 : glook (plV t.pl) s = some (.pointer (some ⟨x.p, 0, none⟩)) := by
    have h9 := glook_map (fun y : PV => Value.pointer (some ⟨y.p, 0, none⟩)) t.pl s
    rw [hpa] at h9
    exact h9
  have hw2 : glook (wsV t.ws) o = none := by
    have h9 := glook_map (fun y : ByteArray × Int => Value.agg #[.string y.1, .int .i64 y.2]) t.ws o
    rw [hw] at h9
    exact h9
  have hhl : glook (hsV x.hs) o = (klook x.hs o).map (fun k : Int => Value.int .i64 k) := glook_map (fun k : Int => Value.int .i64 k) x.hs o
  have hm : ModesAt (hsV x.hs) := fun q hq => by obtain ⟨y, -, rfl⟩ := List.mem_map.1 hq; exact ⟨y.2, rfl⟩
  have ht := h.rep.tab
  have hpl := h.rep.pls i _ hx
  have HL := Lib.hid (And.intro h hx)
  obtain ⟨T, P, W, N, pl, ws0, nm⟩ := t
  obtain ⟨p, H, q, hs0, qs⟩ := x
  simp only at ht hpl hpa2 hw2 hhl hm ⊢
  obtain ⟨hp, hq⟩ := hpl
  obtain ⟨ps, hps⟩ : ∃ ps, plV pl = ps := ⟨_, rfl⟩
  obtain ⟨ws, hws⟩ : ∃ ws, wsV ws0 = ws := ⟨_, rfl⟩
  obtain ⟨ns, hns⟩ : ∃ ns, nmV nm = ns := ⟨_, rfl⟩
  obtain ⟨hs, hhs⟩ : ∃ hs, hsV hs0 = hs := ⟨_, rfl⟩
  rw [hps, hws, hns] at ht
  rw [hps] at hpa2
  rw [hws] at hw2
  rw [hhs] at hhl hm hp
  have hh2 : glook hs o = some (.int .i64 m0) := by rw [hhl, show klook hs0 o = some m0 from hh]; rfl
  refine (ask_same w T P W N p H ps ws ns hs o m m0 s ht hpa2 hp ho him hw2 hh2 hj).mono ?_
  rintro e w' ⟨rfl, hb⟩
  exact ⟨rfl, HL.out.1.below hb⟩

/-- no owner, or no mode -/
theorem ask_bad (w : World) (T : Nat) (o m : Int) (s : ByteArray) (hb : o = 0 ∨ isM m = false) :
    Calls Try.prog 17 #[.pointer (some ⟨T, 0, none⟩), .int .u64 o, .string s, .int .i64 m] w fun e w' => e = .returned (.int .i64 1) ∧ w = w' := by
  by_cases ho : o = 0
  · subst ho
    go_enter Try.func17, Try.ntmps17
    go_wp2
    go_ret
    exact ⟨rfl, rfl⟩
  · have hob : (o == 0) = false := by simpa using ho
    have hims := isMode_any w m
    rw [hb.resolve_left ho] at hims
    go_enter Try.func17, Try.ntmps17
    go_wp2_with fail
    refine hims.mono ?_
    rintro e w' ⟨rfl, rfl⟩
    go_wp2
    go_ret
    exact ⟨rfl, rfl⟩

/-- an owner that waits already -/
theorem ask_state {W0 w : World} {t : TV} (h : TabL W0 w t) (o m : Int) (s : ByteArray) (ho : o ≠ 0) (him : isM m = true) {y : ByteArray × Int} (hw : klook t.ws o = some y) :
    Calls Try.prog 17 #[.pointer (some ⟨t.T, 0, none⟩), .int .u64 o, .string s, .int .i64 m] w fun e w' => e = .returned (.int .i64 18) ∧ TabL W0 w' t := by
  have hims := isMode_any w m
  rw [him] at hims
  have hob : (o == 0) = false := by simpa using ho
  have c1 : w.cell? ⟨t.T, 1, none⟩ = some (.map (some t.W)) := cell_of_row w t.T 1 _ _ _ h.rep.tab.blk
  have hl1 := gmap_lookup (P := Try.prog) Try.underlying63 Try.underlying29 (z33 w) h.rep.tab.wt o
  have hw2 : glook (wsV t.ws) o = some (.agg #[.string y.1, .int .i64 y.2]) := by
    have h9 := glook_map (fun y : ByteArray × Int => Value.agg #[.string y.1, .int .i64 y.2]) t.ws o
    rw [hw] at h9
    exact h9
  rw [hw2] at hl1
  change (Instr.lookup 63 (.map (some t.W)) (.int .u64 o) true).run Try.prog w = .ok (.tuple #[.agg #[.string y.1, .int .i64 y.2], .bool true]) w at hl1
  have HB : Hid (TabL W0 (w.alloc (.cells #[.string y.1, .int .i64 y.2] 33)) t) := h.below ((Below.refl _ _).alloc (Nat.le_refl _) _)
  clear h hw2
  go_enter Try.func17, Try.ntmps17
  go_wp2_with fail
  refine hims.mono ?_
  rintro e w' ⟨rfl, rfl⟩
  go_wp2
  go_ret
  exact ⟨rfl, HB.out⟩
end Mun
