/- Contract of Ask: a name that nobody holds. -/
import Derived.Test.YtbdkhegfmnladaaLockB
set_option maxRecDepth 100000
set_option linter.unusedVariables false
namespace Mun
open Go Go.RowKit
open Go.Proofs

theorem z33 (w : World) : (zeroValue 33).run Try.prog w = .ok (.agg #[.string ⟨#[]⟩, .int .i64 0]) w := by
  have h : ((Try.prog.info? 33).bind (·.zero)) = some (.agg #[.string ⟨#[]⟩, .int .i64 0]) := by kernel_rfl
  cases hq : Try.prog.info? 33 with
  | none => simp [hq] at h
  | some i =>
    simp [hq] at h
    simp [zeroValue, typeInfo, hq, h]
theorem z67 (w : World) : (zeroValue 67).run Try.prog w = .ok (.pointer none) w := by
  have h : ((Try.prog.info? 67).bind (·.zero)) = some (.pointer none) := by kernel_rfl
  cases hq : Try.prog.info? 67 with
  | none => simp [hq] at h
  | some i =>
    simp [hq] at h
    simp [zeroValue, typeInfo, hq, h]
theorem z3 (w : World) : (zeroValue 3).run Try.prog w = .ok (.int .i64 0) w := by
  have h : ((Try.prog.info? 3).bind (·.zero)) = some (.int .i64 0) := by kernel_rfl
  cases hq : Try.prog.info? 3 with
  | none => simp [hq] at h
  | some i =>
    simp [hq] at h
    simp [zeroValue, typeInfo, hq, h]

theorem TabAt.keep {w w' : World} {T P W N : Nat} {ps : BL} {ws ns : UL} (h : TabAt w T P W N ps ws ns) (hk : ∀ k, k < w.heap.size → w'.heap[k]? = w.heap[k]?) : TabAt w' T P W N ps ws ns :=
  ⟨(hk _ (Array.getElem?_eq_some_iff.1 h.blk).1).trans h.blk, h.pl.keep (hk _ h.pl.lt), h.wt.keep (hk _ h.wt.lt), h.nm.keep (hk _ h.nm.lt)⟩
theorem PlAt.keep {w w' : World} {p H : Nat} {q : Value} {hs : UL} (h : PlAt w p H q hs) (hk : ∀ k, k < w.heap.size → w'.heap[k]? = w.heap[k]?) : PlAt w' p H q hs :=
  ⟨(hk _ (Array.getElem?_eq_some_iff.1 h.blk).1).trans h.blk, h.hl.keep (hk _ h.hl.lt)⟩

theorem ask_there (w : World) (T P W N p H : Nat) (ps : BL) (ws ns hs : UL) (o m : Int) (s : ByteArray) (ht : TabAt w T P W N ps ws ns) (hpa : glook ps s = some (.pointer (some ⟨p, 0, none⟩))) (hp : PlAt w p H (.slice none 0 0) hs)
    (hm : ModesAt hs) (ho : o ≠ 0) (him : isM m = true) (hw : glook ws o = none) (hh : glook hs o = none) (hn : glook ns o = none) (hg : goesP hs o m = true)
    (d1 : H ≠ N) (d2 : H ≠ P) (d3 : H ≠ W) (d4 : N ≠ P) (d5 : N ≠ W) :
    Calls Try.prog 17 #[.pointer (some ⟨T, 0, none⟩), .int .u64 o, .string s, .int .i64 m] w fun e w' => e = .returned (.int .i64 0) ∧
      ∃ M, TabAt w' T P W N ps ws (gset ns o (.map (some M))) ∧ PlAt w' p H (.slice none 0 0) (gset hs o (.int .i64 m)) ∧ w.heap.size ≤ w'.heap.size ∧ w'.os = w.os ∧ w'.tape = w.tape ∧ w'.output = w.output ∧
      w.heap.size ≤ M ∧ M < w'.heap.size ∧ GMap w' M [(s, .agg #[])] ∧ ∀ k, k < w.heap.size → k ≠ H → k ≠ N → w'.heap[k]? = w.heap[k]? := by
  have hims := isMode_any w m
  rw [him] at hims
  have hob : (o == 0) = false := by simpa using ho
  have c1 : w.cell? ⟨T, 1, none⟩ = some (.map (some W)) := cell_of_row w T 1 _ _ _ ht.blk
  have hl1 := gmap_lookup (P := Try.prog) Try.underlying63 Try.underlying29 (z33 w) ht.wt o
  rw [hw] at hl1
  change (Instr.lookup 63 (.map (some W)) (.int .u64 o) true).run Try.prog w = .ok (.tuple #[.agg #[.string ⟨#[]⟩, .int .i64 0], .bool false]) w at hl1
  obtain ⟨wA, hwA⟩ : ∃ wA, w.alloc (.cells #[.string ⟨#[]⟩, .int .i64 0] 33) = wA := ⟨_, rfl⟩
  have kA : ∀ k, k < w.heap.size → wA.heap[k]? = w.heap[k]? := fun k hk => by rw [← hwA, heap_alloc_old _ _ hk]
  have sA : wA.heap.size = w.heap.size + 1 := by rw [← hwA, World.size_alloc]
  have htA := ht.keep kA
  have hpA := hp.keep kA
  have c2 : wA.cell? ⟨T, 0, none⟩ = some (.map (some P)) := cell_of_row wA T 0 _ _ _ htA.blk
  have hl2 := gmap_lookup1 (P := Try.prog) Try.underlying62 Try.underlying9 (z67 wA) htA.pl s
  rw [hpa] at hl2
  change (Instr.lookup 62 (.map (some P)) (.string s) false).run Try.prog wA = .ok (.pointer (some ⟨p, 0, none⟩)) wA at hl2
  obtain ⟨wB, hwB⟩ : ∃ wB, wA.alloc (.cells #[.pointer (some ⟨p, 0, none⟩)] 67) = wB := ⟨_, rfl⟩
  have kB : ∀ k, k < wA.heap.size → wB.heap[k]? = wA.heap[k]? := fun k hk => by rw [← hwB, heap_alloc_old _ _ hk]
  have sB : wB.heap.size = w.heap.size + 2 := by rw [← hwB, World.size_alloc, sA]
  have htB := htA.keep kB
  have hpB := hpA.keep kB
  have nB : wB.heap[w.heap.size + 1]? = some (.cells #[.pointer (some ⟨p, 0, none⟩)] 67 (0, 0)) := by rw [← hwB, ← sA]; exact heap_alloc_new wA _
  have c3 : wB.cell? ⟨w.heap.size + 1, 0, none⟩ = some (.pointer (some ⟨p, 0, none⟩)) := cell_of_row wB _ 0 _ _ _ nB
  have c4 : wB.cell? ⟨p, 0, none⟩ = some (.map (some H)) := cell_of_row wB p 0 _ _ _ hpB.blk
  have c5 : wB.cell? ⟨p, 1, none⟩ = some (.slice none 0 0) := cell_of_row wB p 1 _ _ _ hpB.blk
  have hl3 := gmap_lookup (P := Try.prog) Try.underlying68 Try.underlying29 (z3 wB) hpB.hl o
  rw [hh] at hl3
  change (Instr.lookup 68 (.map (some H)) (.int .u64 o) true).run Try.prog wB = .ok (.tuple #[.int .i64 0, .bool false]) wB at hl3
  have hgo := goes_any wB p H _ hs o m hpB hm
  rw [hg] at hgo
  have HG := Lib.hid hgo
  have HTB := Lib.hid htB
  have HPB := Lib.hid hpB
  have HK : Hid (∀ k, k < w.heap.size → wB.heap[k]? = w.heap[k]?) := fun k hk => (kB k (by omega)).trans (kA k hk)
  have HS := Lib.hid sB
  have HAB := Lib.hid sA
  have HN := Lib.hid nB
  have HW : Hid (wB.os = w.os ∧ wB.tape = w.tape ∧ wB.output = w.output) := by show _ ∧ _ ∧ _; rw [← hwB, ← hwA]; exact ⟨rfl, rfl, rfl⟩
  clear ht hp htA hpA htB hpB kA kB sA sB hgo nB
  subst hwB
  subst hwA
  go_enter Try.func17, Try.ntmps17
  go_wp2_with fail
  refine hims.mono ?_
  rintro e w' ⟨rfl, rfl⟩
  go_wp2_with fail
  refine HG.out.mono ?_
  rintro e w2 ⟨rfl, hb2⟩
  have k2 : ∀ k, k < _ → w2.heap[k]? = _ := fun k hk => hb2.block k hk
  have c6 : w2.cell? ⟨w'.heap.size + 1, 0, none⟩ = some (.pointer (some ⟨p, 0, none⟩)) := cell_of_row w2 _ 0 _ _ _ ((k2 _ (Array.getElem?_eq_some_iff.1 HN.out).1).trans HN.out)
  have hho := hold_new w2 T P W N p H _ ps ws ns hs o m s (HTB.out.keep k2) (HPB.out.keep k2) hn d1 d2 d3 d4 d5
  have HH := Lib.hid hho
  have HB2 := Lib.hid hb2
  clear hho hb2 k2
  go_wp2_with fail
  refine HH.out.mono ?_
  rintro e w3 ⟨rfl, t3, p3, s3, x1, x2, x3, g3, k3⟩
  go_wp2
  go_ret
  have hss := HS.out
  have h2s := HB2.out.size
  refine ⟨rfl, w2.heap.size, t3, p3, by omega, x1.trans (HB2.out.os.trans HW.out.1), x2.trans (HB2.out.tape.trans HW.out.2.1), x3.trans (HB2.out.output.trans HW.out.2.2), by omega, by omega, g3, fun k h1 h2 h3 => ?_⟩
  rw [k3 k (by omega) h2 h3, HB2.out.block k (by omega), HK.out k h1]
end Mun
