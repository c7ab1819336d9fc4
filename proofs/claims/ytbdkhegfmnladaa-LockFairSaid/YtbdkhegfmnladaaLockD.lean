/- Contract of Ask: a name of which nothing is known. -/
import Derived.Test.YtbdkhegfmnladaaLockC
set_option maxRecDepth 100000
set_option linter.unusedVariables false
namespace Mun
open Go Go.RowKit
open Go.Proofs

theorem ask_new (w : World) (T P W N : Nat) (ps : BL) (ws ns : UL) (o m : Int) (s : ByteArray) (ht : TabAt w T P W N ps ws ns) (hpa : glook ps s = none)
    (ho : o ≠ 0) (him : isM m = true) (hw : glook ws o = none) (hn : glook ns o = none) (d4 : N ≠ P) (d5 : N ≠ W) (d6 : P ≠ W) :
    Calls Try.prog 17 #[.pointer (some ⟨T, 0, none⟩), .int .u64 o, .string s, .int .i64 m] w fun e w' => e = .returned (.int .i64 0) ∧
      ∃ p H M, TabAt w' T P W N (gset ps s (.pointer (some ⟨p, 0, none⟩))) ws (gset ns o (.map (some M))) ∧ PlAt w' p H (.slice none 0 0) [(o, .int .i64 m)] ∧ (GMap w' M [(s, .agg #[])] ∧ H < M) ∧ w.heap.size ≤ w'.heap.size ∧
      w.heap.size ≤ M ∧ M < w'.heap.size ∧ w.heap.size ≤ p ∧ w.heap.size ≤ H ∧ w'.os = w.os ∧ w'.tape = w.tape ∧ w'.output = w.output ∧ ∀ k, k < w.heap.size → k ≠ P → k ≠ N → w'.heap[k]? = w.heap[k]? := by
  have hims := isMode_any w m
  rw [him] at hims
  have hob : (o == 0) = false := by simpa using ho
  have c1 : w.cell? ⟨T, 1, none⟩ = some (.map (some W)) := cell_of_row w T 1 _ _ _ ht.blk
  have hl1 := gmap_lookup (P := Try.prog) Try.underlying63 Try.underlying29 (z33 w) ht.wt o
  rw [hw] at hl1
  change (Instr.lookup 63 (.map (some W)) (.int .u64 o) true).run Try.prog w = .ok (.tuple #[.agg #[.string ⟨#[]⟩, .int .i64 0], .bool false]) w at hl1
  obtain ⟨wA, hwA⟩ : ∃ wA, w.alloc (.cells #[.string ⟨#[]⟩, .int .i64 0] 33) = wA := ⟨_, rfl⟩
  have kA : ∀ k, k < w.heap.size → wA.heap[k]? = w.heap[k]? := fun k hk => by rw [← hwA, heap_alloc_old _ _ hk]
  have sA : wA.heap.size = w.heap.size + 1 := by rw [← hwA, World.size_alloc]
  have htA := ht.keep kA
  have c2 : wA.cell? ⟨T, 0, none⟩ = some (.map (some P)) := cell_of_row wA T 0 _ _ _ htA.blk
  have hl2 := gmap_lookup1 (P := Try.prog) Try.underlying62 Try.underlying9 (z67 wA) htA.pl s
  rw [hpa] at hl2
  change (Instr.lookup 62 (.map (some P)) (.string s) false).run Try.prog wA = .ok (.pointer none) wA at hl2
  have hmm := run_makeMap (P := Try.prog) 68
  obtain ⟨wE, hwE⟩ : ∃ wE, (((wA.alloc (.cells #[.pointer (some ⟨w.heap.size + 1 + 1 + 1, 0, none⟩)] 67)).alloc (.map #[] 0)).alloc (.cells #[.map (some (w.heap.size + 1 + 1)), .slice none 0 0] 71)) = wE := ⟨_, rfl⟩
  have kE : ∀ k, k < wA.heap.size → wE.heap[k]? = wA.heap[k]? := fun k hk => by
    rw [← hwE, heap_alloc_old _ _ (by simp; omega), heap_alloc_old _ _ (by simp; omega), heap_alloc_old _ _ hk]
  have sE : wE.heap.size = w.heap.size + 4 := by rw [← hwE]; simp [World.size_alloc, sA]
  have htE := htA.keep kE
  have n1 : wE.heap[w.heap.size + 1]? = some (.cells #[.pointer (some ⟨w.heap.size + 1 + 1 + 1, 0, none⟩)] 67 (0, 0)) := by
    rw [← hwE, heap_alloc_old _ _ (by simp; omega), heap_alloc_old _ _ (by simp; omega), ← sA]; exact heap_alloc_new wA _
  have n2 : GMap (α := Int) wE (w.heap.size + 1 + 1) [] := by
    have h := gmap_new (α := Int) (wA.alloc (.cells #[.pointer (some ⟨w.heap.size + 1 + 1 + 1, 0, none⟩)] 67))
    rw [World.size_alloc, sA] at h
    refine h.keep ?_
    rw [← hwE, heap_alloc_old _ _ (by simp; omega)]
  have n3 : wE.heap[w.heap.size + 1 + 1 + 1]? = some (.cells #[.map (some (w.heap.size + 1 + 1)), .slice none 0 0] 71 (0, 0)) := by
    have h := heap_alloc_new ((wA.alloc (.cells #[.pointer (some ⟨w.heap.size + 1 + 1 + 1, 0, none⟩)] 67)).alloc (.map #[] 0)) (.cells #[.map (some (w.heap.size + 1 + 1)), .slice none 0 0] 71)
    rw [World.size_alloc, World.size_alloc, sA, hwE] at h
    exact h
  have cE : wE.cell? ⟨T, 0, none⟩ = some (.map (some P)) := cell_of_row wE T 0 _ _ _ htE.blk
  have cE1 : wE.cell? ⟨w.heap.size + 1, 0, none⟩ = some (.pointer (some ⟨w.heap.size + 1 + 1 + 1, 0, none⟩)) := cell_of_row wE _ 0 _ _ _ n1
  have hPl := ht.pl.lt
  have hNl := ht.nm.lt
  have hWl := ht.wt.lt
  have hTl : T < w.heap.size := (Array.getElem?_eq_some_iff.1 ht.blk).1
  have nTP : T ≠ P := by
    rintro rfl
    obtain ⟨l, c, h, -⟩ := ht.pl
    have := h.2.2.2
    rw [ht.blk] at this
    cases this
  obtain ⟨oF, huF, hgF⟩ := gmap_update (P := Try.prog) Try.underlying62 Try.underlying9 (htE.pl.keep (w' := wE.drew) rfl) s (.pointer (some ⟨w.heap.size + 1 + 1 + 1, 0, none⟩))
  change (Instr.mapUpdate 62 (.map (some P)) (.string s) (.pointer (some ⟨w.heap.size + 1 + 1 + 1, 0, none⟩))).run Try.prog wE.drew = _ at huF
  obtain ⟨wF, hwF⟩ : ∃ wF, setObjW wE.drew P oF = wF := ⟨_, rfl⟩
  rw [hwF] at huF hgF
  have kF : ∀ k, k ≠ P → wF.heap[k]? = wE.heap[k]? := fun k hk => by rw [← hwF, setObjW_other _ _ _ _ hk]; rfl
  have sF : wF.heap.size = w.heap.size + 4 := by rw [← hwF, setObjW_size]; exact sE
  have htF : TabAt wF T P W N (gset ps s (.pointer (some ⟨w.heap.size + 1 + 1 + 1, 0, none⟩))) ws ns :=
    ⟨(kF T nTP).trans htE.blk, hgF, htE.wt.keep (kF W (Ne.symm d6)), htE.nm.keep (kF N d4)⟩
  have hpF : PlAt wF (w.heap.size + 1 + 1 + 1) (w.heap.size + 1 + 1) (.slice none 0 0) [] := ⟨(kF _ (by omega)).trans n3, n2.keep (kF _ (by omega))⟩
  have nF : wF.heap[w.heap.size + 1]? = _ := (kF _ (by omega)).trans n1
  have c3 : wF.cell? ⟨w.heap.size + 1, 0, none⟩ = some (.pointer (some ⟨w.heap.size + 1 + 1 + 1, 0, none⟩)) := cell_of_row wF _ 0 _ _ _ nF
  have c4 : wF.cell? ⟨w.heap.size + 1 + 1 + 1, 0, none⟩ = some (.map (some (w.heap.size + 1 + 1))) := cell_of_row wF _ 0 _ _ _ hpF.blk
  have c5 : wF.cell? ⟨w.heap.size + 1 + 1 + 1, 1, none⟩ = some (.slice none 0 0) := cell_of_row wF _ 1 _ _ _ hpF.blk
  have hl3 := gmap_lookup (P := Try.prog) Try.underlying68 Try.underlying29 (z3 wF) hpF.hl o
  change (Instr.lookup 68 (.map (some (w.heap.size + 1 + 1))) (.int .u64 o) true).run Try.prog wF = .ok (.tuple #[.int .i64 0, .bool false]) wF at hl3
  have hgo := goes_any wF _ _ _ [] o m hpF (fun _ h => by simp at h)
  rw [show goesP [] o m = true from rfl] at hgo
  have HG := Lib.hid hgo
  have HTF := Lib.hid htF
  have HPF := Lib.hid hpF
  have HSF := Lib.hid sF
  have HNF := Lib.hid nF
  have HPL := Lib.hid (And.intro hPl (And.intro hNl hWl))
  have HFR : Hid ((wF.os = w.os ∧ wF.tape = w.tape ∧ wF.output = w.output) ∧ ∀ k, k < w.heap.size → k ≠ P → wF.heap[k]? = w.heap[k]?) := by
    show _ ∧ _
    refine ⟨?_, fun k hk hP => ((kF k hP).trans (kE k (by omega))).trans (kA k hk)⟩
    rw [← hwF, ← hwE, ← hwA]
    exact ⟨rfl, rfl, rfl⟩
  clear ht htA kA sA kE sE htE n1 n2 n3 hgF hwF kF sF htF hpF nF hgo hPl hNl hWl hTl nTP
  subst hwE
  subst hwA
  go_enter Try.func17, Try.ntmps17
  go_wp2_with fail
  refine hims.mono ?_
  rintro e w' ⟨rfl, rfl⟩
  go_wp2_with fail
  obtain ⟨wq, hwq⟩ : ∃ wq, (((((w'.alloc (.cells #[.string ⟨#[]⟩, .int .i64 0] 33)).alloc (.cells #[.pointer (some ⟨w'.heap.size + 1 + 1 + 1, 0, none⟩)] 67)).alloc (.map #[] 0)).alloc (.cells #[.map (some (w'.heap.size + 1 + 1)), .slice none 0 0] 71))) = wq := ⟨_, rfl⟩
  rw [hwq] at cE cE1 huF ⊢
  clear hwq
  go_still_tail 6, (by kernel_rfl)
  change wpList _ _ _ _ _ wq.drew
  go_wp2_with fail
  refine HG.out.mono ?_
  rintro e w2 ⟨rfl, hb2⟩
  have k2 : ∀ k, k < _ → w2.heap[k]? = _ := fun k hk => hb2.block k hk
  have c6 : w2.cell? ⟨w'.heap.size + 1, 0, none⟩ = some (.pointer (some ⟨w'.heap.size + 1 + 1 + 1, 0, none⟩)) := cell_of_row w2 _ 0 _ _ _ ((k2 _ (Array.getElem?_eq_some_iff.1 HNF.out).1).trans HNF.out)
  have hho := hold_new w2 T P W N _ _ _ _ ws ns [] o m s (HTF.out.keep k2) (HPF.out.keep k2) hn (by have := HPL.out; omega) (by have := HPL.out; omega) (by have := HPL.out; omega) d4 d5
  have HH := Lib.hid hho
  have HB2 := Lib.hid hb2
  clear hho hb2 k2
  go_wp2_with fail
  refine HH.out.mono ?_
  rintro e w3 ⟨rfl, t3, p3, s3, x1, x2, x3, g3, k3⟩
  go_wp2
  go_ret
  have hss := HSF.out
  have h2s := HB2.out.size
  have hfr := HFR.out
  refine ⟨rfl, _, _, w2.heap.size, t3, p3, ⟨g3, by omega⟩, by omega, by omega, by omega, by omega, by omega, x1.trans (HB2.out.os.trans hfr.1.1), x2.trans (HB2.out.tape.trans hfr.1.2.1), x3.trans (HB2.out.output.trans hfr.1.2.2), fun k h1 h2 h3 => ?_⟩
  rw [k3 k (by omega) (by omega) h3, HB2.out.block k (by omega), hfr.2 k h1 h2]
end Mun
