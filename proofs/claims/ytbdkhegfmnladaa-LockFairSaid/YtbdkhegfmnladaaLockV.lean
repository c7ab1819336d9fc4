/- Contracts of Ask over a whole table, where the lock is granted at once. -/
import Derived.Test.YtbdkhegfmnladaaLockU
set_option maxRecDepth 100000
set_option linter.unusedVariables false
set_option linter.unusedSimpArgs false
namespace Mun
open Go Go.RowKit
open Go.Proofs

/-- what the owners' names are -/
def NmIs (nm' nm : List (Int × (Nat × List ByteArray))) (o : Int) (s : ByteArray) : Prop :=
  ∀ o2, (klook nm' o2).map (·.2) = if o2 = o then some (sadd (((klook nm o).map (·.2)).getD []) s) else (klook nm o2).map (·.2)
def plN (t : TV) (s : ByteArray) (p H : Nat) : TV := { t with pl := t.pl ++ [(s, ⟨p, H, .slice none 0 0, [], []⟩)] }

/-- a name of which nothing is known -/
theorem ask_fresh {W0 w : World} {t : TV} (h : TabL W0 w t) (o m : Int) (s : ByteArray) (ho : o ≠ 0) (him : isM m = true) (hw : klook t.ws o = none) (hpa : klook t.pl s = none) :
    Calls Try.prog 17 #[.pointer (some ⟨t.T, 0, none⟩), .int .u64 o, .string s, .int .i64 m] w fun e w' => e = .returned (.int .i64 0) ∧
      ∃ p H nm, TabL W0 w' (held1 (plN t s p H) t.pl.length (s, ⟨p, H, .slice none 0 0, [], []⟩) o m nm) ∧ NmIs nm t.nm o s := by
  have hpa2 : glook (plV t.pl) s = none := by
    have h9 := glook_map (fun y : PV => Value.pointer (some ⟨y.p, 0, none⟩)) t.pl s
    rw [hpa] at h9
    exact h9
  have hw2 : glook (wsV t.ws) o = none := by
    have h9 := glook_map (fun y : ByteArray × Int => Value.agg #[.string y.1, .int .i64 y.2]) t.ws o
    rw [hw] at h9
    exact h9
  have ht := h.rep.tab
  have d4 : t.N ≠ t.P := h.rep.d0.2.1.symm
  have d5 : t.N ≠ t.W := h.rep.d0.2.2.symm
  have d6 : t.P ≠ t.W := h.rep.d0.1
  have HL := Lib.hid h
  obtain ⟨T, P, W, N, pl, ws0, nm⟩ := t
  simp only at ht d4 d5 d6 hpa2 hw2 hpa ⊢
  obtain ⟨ps, hps⟩ : ∃ ps, plV pl = ps := ⟨_, rfl⟩
  obtain ⟨ws, hws⟩ : ∃ ws, wsV ws0 = ws := ⟨_, rfl⟩
  obtain ⟨ns, hns⟩ : ∃ ns, nmV nm = ns := ⟨_, rfl⟩
  rw [hps, hws, hns] at ht
  rw [hps] at hpa2
  rw [hws] at hw2
  have hims := isMode_any w m
  rw [him] at hims
  have hob : (o == 0) = false := by simpa using ho
  have c1 : w.cell? ⟨T, 1, none⟩ = some (.map (some W)) := cell_of_row w T 1 _ _ _ ht.blk
  have hl1 := gmap_lookup (P := Try.prog) Try.underlying63 Try.underlying29 (z33 w) ht.wt o
  rw [hw2] at hl1
  change (Instr.lookup 63 (.map (some W)) (.int .u64 o) true).run Try.prog w = .ok (.tuple #[.agg #[.string ⟨#[]⟩, .int .i64 0], .bool false]) w at hl1
  obtain ⟨wA, hwA⟩ : ∃ wA, w.alloc (.cells #[.string ⟨#[]⟩, .int .i64 0] 33) = wA := ⟨_, rfl⟩
  have kA : ∀ k, k < w.heap.size → wA.heap[k]? = w.heap[k]? := fun k hk => by rw [← hwA, heap_alloc_old _ _ hk]
  have sA : wA.heap.size = w.heap.size + 1 := by rw [← hwA, World.size_alloc]
  have htA := ht.keep kA
  have c2 : wA.cell? ⟨T, 0, none⟩ = some (.map (some P)) := cell_of_row wA T 0 _ _ _ htA.blk
  have hl2 := gmap_lookup1 (P := Try.prog) Try.underlying62 Try.underlying9 (z67 wA) htA.pl s
  rw [hpa2] at hl2
  change (Instr.lookup 62 (.map (some P)) (.string s) false).run Try.prog wA = .ok (.pointer none) wA at hl2
  have hmm := run_makeMap (P := Try.prog) 68
  obtain ⟨wE, hwE⟩ : ∃ wE, (((wA.alloc (.cells #[.pointer (some ⟨w.heap.size + 1 + 1 + 1, 0, none⟩)] 67)).alloc (.map #[] 0)).alloc (.cells #[.map (some (w.heap.size + 1 + 1)), .slice none 0 0] 71)) = wE := ⟨_, rfl⟩
  have kE : ∀ k, k < wA.heap.size → wE.heap[k]? = wA.heap[k]? := fun k hk => by
    rw [← hwE, heap_alloc_old _ _ (by simp; omega), heap_alloc_old _ _ (by simp; omega), heap_alloc_old _ _ hk]
  have sE : wE.heap.size = w.heap.size + 4 := by rw [← hwE]; simp [World.size_alloc, sA]
  have htE := htA.keep kE
  have n1 : wE.heap[w.heap.size + 1]? = some (.cells #[.pointer (some ⟨w.heap.size + 1 + 1 + 1, 0, none⟩)] 67 (0, 0)) := by
    rw [← hwE, heap_alloc_old _ _ (by simp; omega), heap_alloc_old _ _ (by simp; omega), ← sA]; exact heap_alloc_new wA _
  have n2 : GMap (α := Int) wE (w.heap.size + 1 + 1) [] := by
    have h := gmap_new (α := Int) (wA.alloc (.cells #[.pointer (some ⟨w.heap.size + 1 + 1 + 1, 0, none⟩)] 67))
    rw [World.size_alloc, sA] at h
    refine h.keep ?_
    rw [← hwE, heap_alloc_old _ _ (by simp; omega)]
  have n3 : wE.heap[w.heap.size + 1 + 1 + 1]? = some (.cells #[.map (some (w.heap.size + 1 + 1)), .slice none 0 0] 71 (0, 0)) := by
    have h := heap_alloc_new ((wA.alloc (.cells #[.pointer (some ⟨w.heap.size + 1 + 1 + 1, 0, none⟩)] 67)).alloc (.map #[] 0)) (.cells #[.map (some (w.heap.size + 1 + 1)), .slice none 0 0] 71)
    rw [World.size_alloc, World.size_alloc, sA, hwE] at h
    exact h
  have cE : wE.cell? ⟨T, 0, none⟩ = some (.map (some P)) := cell_of_row wE T 0 _ _ _ htE.blk
  have cE1 : wE.cell? ⟨w.heap.size + 1, 0, none⟩ = some (.pointer (some ⟨w.heap.size + 1 + 1 + 1, 0, none⟩)) := cell_of_row wE _ 0 _ _ _ n1
  have hPl := ht.pl.lt
  have hNl := ht.nm.lt
  have hWl := ht.wt.lt
  have hTl : T < w.heap.size := (Array.getElem?_eq_some_iff.1 ht.blk).1
  have nTP : T ≠ P := by
    rintro rfl
    obtain ⟨l, c, h, -⟩ := ht.pl
    have := h.2.2.2
    rw [ht.blk] at this
    cases this
  obtain ⟨oF, huF, hgF⟩ := gmap_update (P := Try.prog) Try.underlying62 Try.underlying9 (htE.pl.keep (w' := wE.drew) rfl) s (.pointer (some ⟨w.heap.size + 1 + 1 + 1, 0, none⟩))
  change (Instr.mapUpdate 62 (.map (some P)) (.string s) (.pointer (some ⟨w.heap.size + 1 + 1 + 1, 0, none⟩))).run Try.prog wE.drew = _ at huF
  obtain ⟨wF, hwF⟩ : ∃ wF, setObjW wE.drew P oF = wF := ⟨_, rfl⟩
  rw [hwF] at huF hgF
  have kF : ∀ k, k ≠ P → wF.heap[k]? = wE.heap[k]? := fun k hk => by rw [← hwF, setObjW_other _ _ _ _ hk]; rfl
  have sF : wF.heap.size = w.heap.size + 4 := by rw [← hwF, setObjW_size]; exact sE
  have htF : TabAt wF T P W N (gset ps s (.pointer (some ⟨w.heap.size + 1 + 1 + 1, 0, none⟩))) ws ns :=
    ⟨(kF T nTP).trans htE.blk, hgF, htE.wt.keep (kF W (Ne.symm d6)), htE.nm.keep (kF N d4)⟩
  have hpF : PlAt wF (w.heap.size + 1 + 1 + 1) (w.heap.size + 1 + 1) (.slice none 0 0) [] := ⟨(kF _ (by omega)).trans n3, n2.keep (kF _ (by omega))⟩
  have nF : wF.heap[w.heap.size + 1]? = _ := (kF _ (by omega)).trans n1
  have c3 : wF.cell? ⟨w.heap.size + 1, 0, none⟩ = some (.pointer (some ⟨w.heap.size + 1 + 1 + 1, 0, none⟩)) := cell_of_row wF _ 0 _ _ _ nF
  have c4 : wF.cell? ⟨w.heap.size + 1 + 1 + 1, 0, none⟩ = some (.map (some (w.heap.size + 1 + 1))) := cell_of_row wF _ 0 _ _ _ hpF.blk
  have c5 : wF.cell? ⟨w.heap.size + 1 + 1 + 1, 1, none⟩ = some (.slice none 0 0) := cell_of_row wF _ 1 _ _ _ hpF.blk
  have hl3 := gmap_lookup (P := Try.prog) Try.underlying68 Try.underlying29 (z3 wF) hpF.hl o
  change (Instr.lookup 68 (.map (some (w.heap.size + 1 + 1))) (.int .u64 o) true).run Try.prog wF = .ok (.tuple #[.int .i64 0, .bool false]) wF at hl3
  have hgo := goes_any wF _ _ _ [] o m hpF (fun _ h => by simp at h)
  rw [show goesP [] o m = true from rfl] at hgo
  have htl : TabL W0 wF (plN ⟨T, P, W, N, pl, ws0, nm⟩ s (w.heap.size + 1 + 1 + 1) (w.heap.size + 1 + 1)) := by
    have h9 := gset_map (fun y : PV => Value.pointer (some ⟨y.p, 0, none⟩)) pl s ⟨w.heap.size + 1 + 1 + 1, w.heap.size + 1 + 1, .slice none 0 0, [], []⟩
    rw [kset_new hpa] at h9
    have h8 := hgF
    rw [← hps] at h8
    unfold plV at h8
    rw [h9] at h8
    have hkF : ∀ k, k < w.heap.size → k ≠ P → wF.heap[k]? = w.heap[k]? := fun k hk hP => ((kF k hP).trans (kE k (by omega))).trans (kA k hk)
    have hl := HL.out.lo
    have hb := HL.out.bl
    have hbs := hb.size
    simp only at hl
    refine ⟨HL.out.rep.placeNew h8 hpF (by omega) (by omega) hkF, ⟨?_, ?_, ?_, by omega, fun k hk => by rw [hkF k (by omega) (by omega), hb.block k hk]⟩, hl, fun j y hy => ?_, HL.out.loN⟩
    · rw [← hb.os, ← hwF, ← hwE, ← hwA]; rfl
    · rw [← hb.tape, ← hwF, ← hwE, ← hwA]; rfl
    · rw [← hb.output, ← hwF, ← hwE, ← hwA]; rfl
    · rcases snoc_idx hy with h7 | ⟨-, rfl⟩
      · exact HL.out.loP j y h7
      · exact ⟨by show W0.heap.size ≤ w.heap.size + 1 + 1 + 1; omega, by show W0.heap.size ≤ w.heap.size + 1 + 1; omega, fun g hg => by simp [qblk] at hg⟩
  have HG := Lib.hid hgo
  have HTL := Lib.hid htl
  have HNF := Lib.hid nF
  clear ht htA kA sA kE sE htE n1 n2 n3 hgF hwF kF sF htF hpF nF hgo hPl hNl hWl hTl nTP htl h
  subst hwE
  subst hwA
  go_enter Try.func17, Try.ntmps17
  go_wp2_with fail
  refine hims.mono ?_
  rintro e w' ⟨rfl, rfl⟩
  go_wp2_with fail
  obtain ⟨wq, hwq⟩ : ∃ wq, (((((w'.alloc (.cells #[.string ⟨#[]⟩, .int .i64 0] 33)).alloc (.cells #[.pointer (some ⟨w'.heap.size + 1 + 1 + 1, 0, none⟩)] 67)).alloc (.map #[] 0)).alloc (.cells #[.map (some (w'.heap.size + 1 + 1)), .slice none 0 0] 71))) = wq := ⟨_, rfl⟩
  rw [hwq] at cE cE1 huF ⊢
  clear hwq
  go_still_tail 6, (by kernel_rfl)
  change wpList _ _ _ _ _ wq.drew
  go_wp2_with fail
  refine HG.out.mono ?_
  rintro e w2 ⟨rfl, hb2⟩
  have k2 : ∀ k, k < _ → w2.heap[k]? = _ := fun k hk => hb2.block k hk
  have c6 : w2.cell? ⟨w'.heap.size + 1, 0, none⟩ = some (.pointer (some ⟨w'.heap.size + 1 + 1 + 1, 0, none⟩)) := cell_of_row w2 _ 0 _ _ _ ((k2 _ (Array.getElem?_eq_some_iff.1 HNF.out).1).trans HNF.out)
  have hho := hold_any (HTL.out.below hb2) (i := pl.length) (x := (s, ⟨w'.heap.size + 1 + 1 + 1, w'.heap.size + 1 + 1, .slice none 0 0, [], []⟩)) (by simp [plN]) o m
  have HH := Lib.hid hho
  clear hho hb2 k2
  go_wp2_with fail
  refine HH.out.mono ?_
  rintro e w3 ⟨rfl, nm', h3, hnm⟩
  go_wp2
  go_ret
  exact ⟨rfl, _, _, nm', h3, hnm⟩
end Mun
