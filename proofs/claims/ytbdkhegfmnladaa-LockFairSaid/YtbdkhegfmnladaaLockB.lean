/- Contract of hold, at an owner that holds nothing yet. -/
import Derived.Test.YtbdkhegfmnladaaLockA
set_option maxRecDepth 100000
set_option linter.unusedVariables false
namespace Mun
open Go Go.RowKit
open Go.Proofs

theorem z80 (w : World) : (zeroValue 80).run Try.prog w = .ok (.map none) w := by
  have h : ((Try.prog.info? 80).bind (·.zero)) = some (.map none) := by kernel_rfl
  cases hq : Try.prog.info? 80 with
  | none => simp [hq] at h
  | some i =>
    simp [hq] at h
    simp [zeroValue, typeInfo, hq, h]

theorem nil80 (W : World) : (binOp .eql 80 (.map none) (.map none)).run Try.prog W = .ok (.bool true) W := by
  kernel_rfl
theorem hold_new (w : World) (T P W N p H : Nat) (q : Value) (ps : BL) (ws ns hs : UL) (o m : Int) (s : ByteArray) (ht : TabAt w T P W N ps ws ns) (hp : PlAt w p H q hs) (hn : glook ns o = none)
    (d1 : H ≠ N) (d2 : H ≠ P) (d3 : H ≠ W) (d4 : N ≠ P) (d5 : N ≠ W) :
    Calls Try.prog 30 #[.pointer (some ⟨T, 0, none⟩), .pointer (some ⟨p, 0, none⟩), .int .u64 o, .string s, .int .i64 m] w fun e w' => e = .returned (.tuple #[]) ∧
      TabAt w' T P W N ps ws (gset ns o (.map (some w.heap.size))) ∧ PlAt w' p H q (gset hs o (.int .i64 m)) ∧ w'.heap.size = w.heap.size + 1 ∧ w'.os = w.os ∧ w'.tape = w.tape ∧ w'.output = w.output ∧
      GMap w' w.heap.size [(s, .agg #[])] ∧ ∀ k, k < w.heap.size → k ≠ H → k ≠ N → w'.heap[k]? = w.heap[k]? := by
  have hTl : T < w.heap.size := (Array.getElem?_eq_some_iff.1 ht.blk).1
  have hpl : p < w.heap.size := (Array.getElem?_eq_some_iff.1 hp.blk).1
  have hPl := ht.pl.lt
  have hWl := ht.wt.lt
  have hNl := ht.nm.lt
  have hHl := hp.hl.lt
  have eT : ∀ X, (∃ (α : Type) (_ : DecidableEq α) (_ : KeyT α) (es : List (α × Value)), GMap w X es) → ∀ y cs t fr, w.heap[y]? = some (.cells cs t fr) → y ≠ X := by
    rintro X ⟨α, i1, i2, es, l, c, h, -⟩ y cs t fr hy rfl
    rw [h.2.2.2] at hy
    cases hy
  have nTH : T ≠ H := eT H ⟨_, _, _, _, hp.hl⟩ T _ _ _ ht.blk
  have nTN : T ≠ N := eT N ⟨_, _, _, _, ht.nm⟩ T _ _ _ ht.blk
  have npH : p ≠ H := eT H ⟨_, _, _, _, hp.hl⟩ p _ _ _ hp.blk
  have npN : p ≠ N := eT N ⟨_, _, _, _, ht.nm⟩ p _ _ _ hp.blk
  clear eT
  have c1 : w.cell? ⟨p, 0, none⟩ = some (.map (some H)) := cell_of_row w p 0 _ _ _ hp.blk
  obtain ⟨o1, hu1, hg1⟩ := gmap_update (P := Try.prog) Try.underlying68 Try.underlying29 hp.hl o (.int .i64 m)
  obtain ⟨w1, hw1⟩ : ∃ w1, setObjW w H o1 = w1 := ⟨_, rfl⟩
  have s1 : w1.heap.size = w.heap.size := by rw [← hw1, setObjW_size]
  have k1 : ∀ k, k ≠ H → w1.heap[k]? = w.heap[k]? := fun k hk => by rw [← hw1, setObjW_other _ _ _ _ hk]
  have b1 : w1.heap[T]? = _ := (k1 T nTH).trans ht.blk
  have c2 : w1.cell? ⟨T, 2, none⟩ = some (.map (some N)) := cell_of_row w1 T 2 _ _ _ b1
  have nm1 : GMap w1 N ns := ht.nm.keep (k1 N (Ne.symm d1))
  have hl1 := gmap_lookup1 (P := Try.prog) Try.underlying64 Try.underlying29 (z80 w1) nm1 o
  rw [hn] at hl1
  have hmm := run_makeMap (P := Try.prog) 80 w1
  obtain ⟨w2, hw2⟩ : ∃ w2, w1.alloc (.map #[] 0) = w2 := ⟨_, rfl⟩
  have s2 : w2.heap.size = w.heap.size + 1 := by rw [← hw2, World.size_alloc, s1]
  have k2 : ∀ k, k < w.heap.size → w2.heap[k]? = w1.heap[k]? := fun k hk => by rw [← hw2, heap_alloc_old _ _ (by omega)]
  have new2 : GMap (α := ByteArray) w2 w.heap.size [] := by rw [← hw2, ← s1]; exact gmap_new w1
  have c22 : w2.cell? ⟨T, 2, none⟩ = some (.map (some N)) := cell_of_row w2 T 2 _ _ _ ((k2 T hTl).trans b1)
  obtain ⟨o3, hu3, hg3⟩ := gmap_update (P := Try.prog) Try.underlying64 Try.underlying29 (nm1.keep (k2 N hNl)) o (.map (some w1.heap.size))
  obtain ⟨w3, hw3⟩ : ∃ w3, setObjW w2 N o3 = w3 := ⟨_, rfl⟩
  have s3 : w3.heap.size = w.heap.size + 1 := by rw [← hw3, setObjW_size, s2]
  have k3 : ∀ k, k ≠ N → w3.heap[k]? = w2.heap[k]? := fun k hk => by rw [← hw3, setObjW_other _ _ _ _ hk]
  have c32 : w3.cell? ⟨T, 2, none⟩ = some (.map (some N)) := cell_of_row w3 T 2 _ _ _ ((k3 T nTN).trans ((k2 T hTl).trans b1))
  rw [hw3] at hu3 hg3
  have hl3 := gmap_lookup1 (P := Try.prog) Try.underlying64 Try.underlying29 (z80 w3) hg3 o
  rw [glook_gset, if_pos rfl] at hl3
  rw [hw1] at hu1 hg1
  have new3 : GMap (α := ByteArray) w3 w1.heap.size [] := by rw [s1]; exact new2.keep (k3 _ (by omega))
  obtain ⟨o4, hu4, hg4⟩ := gmap_update (P := Try.prog) Try.underlying80 Try.underlying9 new3 s (.agg #[])
  obtain ⟨w4, hw4⟩ : ∃ w4, setObjW w3 w1.heap.size o4 = w4 := ⟨_, rfl⟩
  rw [hw4] at hu4 hg4
  have s4 : w4.heap.size = w.heap.size + 1 := by rw [← hw4, setObjW_size, s3]
  have k4 : ∀ k, k ≠ w.heap.size → w4.heap[k]? = w3.heap[k]? := fun k hk => by rw [← hw4, setObjW_other _ _ _ _ (by omega)]
  have kk : ∀ k, k < w.heap.size → k ≠ H → k ≠ N → w4.heap[k]? = w.heap[k]? := fun k h1 h2 h3 => by rw [k4 k (by omega), k3 k h3, k2 k h1, k1 k h2]
  have hfin : TabAt w4 T P W N ps ws (gset ns o (.map (some w.heap.size))) ∧ PlAt w4 p H q (gset hs o (.int .i64 m)) ∧ w4.heap.size = w.heap.size + 1 ∧ w4.os = w.os ∧ w4.tape = w.tape ∧ w4.output = w.output ∧
      GMap w4 w.heap.size [(s, .agg #[])] ∧ ∀ k, k < w.heap.size → k ≠ H → k ≠ N → w4.heap[k]? = w.heap[k]? := by
    refine ⟨⟨(kk T hTl nTH nTN).trans ht.blk, ht.pl.keep (kk P hPl (Ne.symm d2) (Ne.symm d4)), ht.wt.keep (kk W hWl (Ne.symm d3) (Ne.symm d5)), ?_⟩, ⟨(kk p hpl npH npN).trans hp.blk, ?_⟩, s4, ?_, ?_, ?_, ?_, kk⟩
    · rw [← s1]; exact hg3.keep (k4 N (by omega))
    · exact hg1.keep (by rw [k4 H (by omega), k3 H d1, k2 H hHl])
    · rw [← hw4, ← hw3, ← hw2, ← hw1]; rfl
    · rw [← hw4, ← hw3, ← hw2, ← hw1]; rfl
    · rw [← hw4, ← hw3, ← hw2, ← hw1]; rfl
    · rw [← s1]; exact hg4
  have HF := Lib.hid hfin
  clear hfin kk k4 s4 hg4 new3 k3 s3 hg3 new2 k2 s2 nm1 b1 k1 hg1 nTH nTN npH npN ht hp hn d1 d2 d3 d4 d5 hTl hpl hPl hWl hNl hHl hw1 hw3 hw4 s1
  change (Instr.mapUpdate 68 (.map (some H)) (.int .u64 o) (.int .i64 m)).run Try.prog w = _ at hu1
  change (Instr.lookup 64 (.map (some N)) (.int .u64 o) false).run Try.prog w1 = .ok (.map none) w1 at hl1
  change (Instr.mapUpdate 64 (.map (some N)) (.int .u64 o) (.map (some w1.heap.size))).run Try.prog w2 = _ at hu3
  change (Instr.lookup 64 (.map (some N)) (.int .u64 o) false).run Try.prog w3 = .ok (.map (some w1.heap.size)) w3 at hl3
  change (Instr.mapUpdate 80 (.map (some w1.heap.size)) (.string s) (.agg #[])).run Try.prog w3 = _ at hu4
  have hnil := nil80 w1
  go_enter Try.func30, Try.ntmps30
  go_wp2
  go_end0
  exact ⟨rfl, HF.out⟩
end Mun
