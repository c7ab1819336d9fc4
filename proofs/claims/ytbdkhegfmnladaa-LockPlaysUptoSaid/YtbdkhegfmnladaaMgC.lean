/- Texts of mine, one behind the other: LockF, LockH, LockI. -/
import Derived.Test.YtbdkhegfmnladaaMgB
import Derived.Deep.RegionLaw
section
/- Contract of Ask: a holder asks for more, others are in the way. -/
set_option maxRecDepth 100000
set_option linter.unusedVariables false
namespace Mun
open Go Go.RowKit
open Go.Proofs

theorem setCell_heapL (w : World) (a : Addr) (v : Value) (k : Nat) (h : k ≠ a.block) : (w.setCell a v).heap[k]? = w.heap[k]? := Below.heap_setCell w a v k h
theorem setCell_sizeL (w : World) (a : Addr) (v : Value) : (w.setCell a v).heap.size = w.heap.size := by simp [World.setCell]

set_option maxHeartbeats 4000000 in
theorem ask_wait (w : World) (T P W N p H : Nat) (ps : BL) (ws ns hs : UL) (o m m0 : Int) (s : ByteArray) (ht : TabAt w T P W N ps ws ns) (hpa : glook ps s = some (.pointer (some ⟨p, 0, none⟩))) (hp : PlAt w p H (.slice none 0 0) hs)
    (hm : ModesAt hs) (ho : o ≠ 0) (him : isM m = true) (hw : glook ws o = none) (hh : glook hs o = some (.int .i64 m0)) (hj : jn m0 m ≠ m0) (hg : goesP hs o (jn m0 m) = false) :
    Calls Try.prog 17 #[.pointer (some ⟨T, 0, none⟩), .int .u64 o, .string s, .int .i64 m] w fun e w' => e = .returned (.int .i64 10) ∧ w.heap.size ≤ w'.heap.size ∧ w'.os = w.os ∧ w'.tape = w.tape ∧ w'.output = w.output ∧ ∀ k, k < w.heap.size → k ≠ p → k ≠ W → w'.heap[k]? = w.heap[k]? := by
  have hims := isMode_any w m
  rw [him] at hims
  have hob : (o == 0) = false := by simpa using ho
  have c1 : w.cell? ⟨T, 1, none⟩ = some (.map (some W)) := cell_of_row w T 1 _ _ _ ht.blk
  have hl1 := gmap_lookup (P := Try.prog) Try.underlying63 Try.underlying29 (z33 w) ht.wt o
  rw [hw] at hl1
  change (Instr.lookup 63 (.map (some W)) (.int .u64 o) true).run Try.prog w = .ok (.tuple #[.agg #[.string ⟨#[]⟩, .int .i64 0], .bool false]) w at hl1
  obtain ⟨wA, hwA⟩ : ∃ wA, w.alloc (.cells #[.string ⟨#[]⟩, .int .i64 0] 33) = wA := ⟨_, rfl⟩
  have kA : ∀ k, k < w.heap.size → wA.heap[k]? = w.heap[k]? := fun k hk => by rw [← hwA, heap_alloc_old _ _ hk]
  have sA : wA.heap.size = w.heap.size + 1 := by rw [← hwA, World.size_alloc]
  have htA := ht.keep kA
  have hpA := hp.keep kA
  have c2 : wA.cell? ⟨T, 0, none⟩ = some (.map (some P)) := cell_of_row wA T 0 _ _ _ htA.blk
  have hl2 := gmap_lookup1 (P := Try.prog) Try.underlying62 Try.underlying9 (z67 wA) htA.pl s
  rw [hpa] at hl2
  change (Instr.lookup 62 (.map (some P)) (.string s) false).run Try.prog wA = .ok (.pointer (some ⟨p, 0, none⟩)) wA at hl2
  obtain ⟨wB, hwB⟩ : ∃ wB, wA.alloc (.cells #[.pointer (some ⟨p, 0, none⟩)] 67) = wB := ⟨_, rfl⟩
  have kB : ∀ k, k < wA.heap.size → wB.heap[k]? = wA.heap[k]? := fun k hk => by rw [← hwB, heap_alloc_old _ _ hk]
  have htB := htA.keep kB
  have hpB := hpA.keep kB
  have nB : wB.heap[w.heap.size + 1]? = some (.cells #[.pointer (some ⟨p, 0, none⟩)] 67 (0, 0)) := by rw [← hwB, ← sA]; exact heap_alloc_new wA _
  have c3 : wB.cell? ⟨w.heap.size + 1, 0, none⟩ = some (.pointer (some ⟨p, 0, none⟩)) := cell_of_row wB _ 0 _ _ _ nB
  have c4 : wB.cell? ⟨p, 0, none⟩ = some (.map (some H)) := cell_of_row wB p 0 _ _ _ hpB.blk
  have hl3 := gmap_lookup (P := Try.prog) Try.underlying68 Try.underlying29 (z3 wB) hpB.hl o
  rw [hh] at hl3
  change (Instr.lookup 68 (.map (some H)) (.int .u64 o) true).run Try.prog wB = .ok (.tuple #[.int .i64 m0, .bool true]) wB at hl3
  have hjn := join_any wB m0 m
  have hgo := goes_any wB p H _ hs o (jn m0 m) hpB hm
  rw [hg] at hgo
  obtain ⟨j, hjj⟩ : ∃ j, jn m0 m = j := ⟨_, rfl⟩
  rw [hjj] at hj hjn hgo
  have hjb : (j == m0) = false := by simpa using hj
  have HG := Lib.hid hgo
  have HJ := Lib.hid hjn
  have HTB := Lib.hid htB
  have HPB := Lib.hid hpB
  have HN := Lib.hid nB
  have HFR : Hid ((wB.os = w.os ∧ wB.tape = w.tape ∧ wB.output = w.output) ∧ w.heap.size ≤ wB.heap.size ∧ ∀ k, k < w.heap.size → wB.heap[k]? = w.heap[k]?) := by
    show _ ∧ _
    refine ⟨?_, by rw [← hwB, World.size_alloc]; omega, fun k hk => (kB k (by omega)).trans (kA k hk)⟩
    rw [← hwB, ← hwA]
    exact ⟨rfl, rfl, rfl⟩
  have nTp : T ≠ p := by
    rintro rfl
    have h1 := ht.blk
    rw [hp.blk] at h1
    injection h1 with h1
    injection h1 with _ h1 _
    exact absurd h1 (by decide)
  have npW : p ≠ W := by
    rintro rfl
    obtain ⟨l, c, h, -⟩ := ht.wt
    have := h.2.2.2
    rw [hp.blk] at this
    cases this
  clear ht hp htA hpA htB hpB kA kB sA hgo nB hjn hjj
  subst hwB
  subst hwA
  go_enter Try.func17, Try.ntmps17
  go_wp2_with fail
  refine hims.mono ?_
  rintro e w' ⟨rfl, rfl⟩
  go_wp2_with fail
  refine HJ.out.mono ?_
  rintro e w2 ⟨rfl, rfl⟩
  go_wp2_with fail
  refine HG.out.mono ?_
  rintro e w2 ⟨rfl, hb2⟩
  have k2 : ∀ k, k < _ → w2.heap[k]? = _ := fun k hk => hb2.block k hk
  have nB2 : w2.heap[w'.heap.size + 1]? = _ := (k2 _ (Array.getElem?_eq_some_iff.1 HN.out).1).trans HN.out
  have hp2 := HPB.out.keep k2
  have ht2 := HTB.out.keep k2
  have c6 : w2.cell? ⟨w'.heap.size + 1, 0, none⟩ = some (.pointer (some ⟨p, 0, none⟩)) := cell_of_row w2 _ 0 _ _ _ nB2
  have c7 : w2.cell? ⟨p, 1, none⟩ = some (.slice none 0 0) := cell_of_row w2 p 1 _ _ _ hp2.blk
  have HP2 := Lib.hid hp2
  have HT2 := Lib.hid ht2
  have HN2 := Lib.hid nB2
  have HB2 := Lib.hid hb2
  clear hp2 ht2 nB2 k2 hb2
  go_wp2_with fail
  refine (indexFunc_empty _ _).mono ?_
  rintro e w3 ⟨rfl, rfl⟩
  go_wp2_with fail
  clear HG HJ HTB HPB HN c3 c4 hl3 hl2 hl1 c1 c2
  have f7 : w3.frozen? ⟨p, 1, none⟩ = false := by simp [World.frozen?, HP2.out.blk]
  have hlt6 : w'.heap.size + 1 < w3.heap.size := (Array.getElem?_eq_some_iff.1 HN2.out).1
  have hlt7 : p < w3.heap.size := (Array.getElem?_eq_some_iff.1 HP2.out.blk).1
  have hSall : Hid (∀ W', Below w3.heap.size w3 W' → (W'.cell? ⟨w'.heap.size + 1, 0, none⟩ = some (.pointer (some ⟨p, 0, none⟩)) ∧ W'.cell? ⟨p, 1, none⟩ = some (.slice none 0 0) ∧ W'.frozen? ⟨p, 1, none⟩ = false ∧ Below w3.heap.size w3 W')) := by
    show ∀ _, _
    intro W' hb
    exact ⟨(hb.cell (p := ⟨_, _, none⟩) hlt6).trans c6, (hb.cell (p := ⟨_, _, none⟩) hlt7).trans c7, (hb.frozen (p := ⟨_, _, none⟩) hlt7).trans f7, hb⟩
  have hS0 := hSall.out w3.drew (below_drewN (Below.refl _ _) 1)
  have hSA := hSall.out (w3.alloc (.cells #[.int .u64 o, .int .i64 j] 77)) ((Below.refl _ _).alloc (Nat.le_refl _) _)
  have d1 := hS0.1
  have d2 := hS0.2.1
  have d3 := hS0.2.2.1
  have e1 := hSA.1
  have e2 := hSA.2.1
  have e3 := hSA.2.2.1
  clear hS0 hSA hlt6 hlt7
  go_region_law
    ((go_simp
      go_at_call 33
      refine (insert_empty _ _ o j (heap_alloc_new w3.drew _)).mono ?_
      rintro e W1 ⟨⟨a, c, rfl⟩, hb1⟩
      have hS1 := hSall.out W1 (((below_drewN (Below.refl _ _) 1).alloc (Nat.le_refl _) _).trans (hb1.mono (by simp)))
      have g1 := hS1.1
      have g2 := hS1.2.1
      have g3 := hS1.2.2.1
      have hB1 := hS1.2.2.2
      obtain ⟨W2, hW2⟩ : ∃ W2, W1.setCell ⟨p, 1, none⟩ (.slice (some a) 1 c) = W2 := ⟨_, rfl⟩
      have hk2 : ∀ k, k < w3.heap.size → k ≠ p → W2.heap[k]? = w3.heap[k]? := fun k h1 h2 => by rw [← hW2, setCell_heapL _ _ _ _ h2]; exact hB1.block k h1
      have c8 : W2.cell? ⟨T, 1, none⟩ = some (.map (some W)) := cell_of_row W2 T 1 _ _ _ ((hk2 T (Array.getElem?_eq_some_iff.1 HT2.out.blk).1 nTp).trans HT2.out.blk)
      obtain ⟨oW, huW, -⟩ := gmap_update (P := Try.prog) Try.underlying63 Try.underlying29 (HT2.out.wt.keep (hk2 W HT2.out.wt.lt (Ne.symm npW))) o (.agg #[.string s, .int .i64 j])
      change (Instr.mapUpdate 63 (.map (some W)) (.int .u64 o) (.agg #[.string s, .int .i64 j])).run Try.prog W2 = _ at huW
      have HF2 : Hid ((W2.os = w3.os ∧ W2.tape = w3.tape ∧ W2.output = w3.output) ∧ w3.heap.size ≤ W2.heap.size ∧ ∀ k, k < w3.heap.size → k ≠ p → W2.heap[k]? = w3.heap[k]?) := by
        show _ ∧ _
        refine ⟨?_, ?_, hk2⟩
        · rw [← hW2]; exact ⟨hB1.os, hB1.tape, hB1.output⟩
        · rw [← hW2, setCell_sizeL]; exact hB1.size
      clear hS1 hb1 hB1 hk2))
  all_goals
    clear e1 e2 e3 d1 d2 d3 g1 g2 g3 c6 c7 f7
    go_wp2
    go_ret
    have h1 := HFR.out
    have h2 := HB2.out
    have h3 := HF2.out
    refine ⟨rfl, by rw [setObjW_size]; have := h2.size; omega, ?_, ?_, ?_, fun k g1 g2 g3 => ?_⟩
    · exact h3.1.1.trans (h2.os.trans h1.1.1)
    · exact h3.1.2.1.trans (h2.tape.trans h1.1.2.1)
    · exact h3.1.2.2.trans (h2.output.trans h1.1.2.2)
    · have := h2.size
      rw [setObjW_other _ _ _ _ g3, h3.2.2 k (by omega) g2, h2.block k (by omega), h1.2.2 k g1]
end Mun
end

section
/- Contracts of hold and Ask: a holder asks again; another owner must wait. -/
set_option maxRecDepth 100000
set_option linter.unusedVariables false
namespace Mun
open Go Go.RowKit
open Go.Proofs

theorem some80 (M : Nat) (W : World) : (binOp .eql 80 (.map (some M)) (.map none)).run Try.prog W = .ok (.bool false) W := by
  kernel_rfl

/-- hold, at an owner that holds something already -/
theorem hold_old (w : World) (T P W N p H M : Nat) (q : Value) (ps : BL) (ws ns hs : UL) (es : BL) (o m : Int) (s : ByteArray) (ht : TabAt w T P W N ps ws ns) (hp : PlAt w p H q hs) (hn : glook ns o = some (.map (some M))) (hM : GMap w M es)
    (d1 : H ≠ N) (d2 : H ≠ P) (d3 : H ≠ W) (d4 : M ≠ P) (d5 : M ≠ W) (d6 : M ≠ N) (d7 : M ≠ H) :
    Calls Try.prog 30 #[.pointer (some ⟨T, 0, none⟩), .pointer (some ⟨p, 0, none⟩), .int .u64 o, .string s, .int .i64 m] w fun e w' => e = .returned (.tuple #[]) ∧
      TabAt w' T P W N ps ws ns ∧ PlAt w' p H q (gset hs o (.int .i64 m)) ∧ GMap w' M (gset es s (.agg #[])) ∧ w'.heap.size = w.heap.size ∧ w'.os = w.os ∧ w'.tape = w.tape ∧ w'.output = w.output ∧
      ∀ k, k ≠ H → k ≠ M → w'.heap[k]? = w.heap[k]? := by
  have eT : ∀ X, (∃ (α : Type) (_ : DecidableEq α) (_ : KeyT α) (es : List (α × Value)), GMap w X es) → ∀ y cs t fr, w.heap[y]? = some (.cells cs t fr) → y ≠ X := by
    rintro X ⟨α, i1, i2, es, l, c, h, -⟩ y cs t fr hy rfl
    rw [h.2.2.2] at hy
    cases hy
  have nTH : T ≠ H := eT H ⟨_, _, _, _, hp.hl⟩ T _ _ _ ht.blk
  have nTM : T ≠ M := eT M ⟨_, _, _, _, hM⟩ T _ _ _ ht.blk
  have npH : p ≠ H := eT H ⟨_, _, _, _, hp.hl⟩ p _ _ _ hp.blk
  have npM : p ≠ M := eT M ⟨_, _, _, _, hM⟩ p _ _ _ hp.blk
  clear eT
  have c1 : w.cell? ⟨p, 0, none⟩ = some (.map (some H)) := cell_of_row w p 0 _ _ _ hp.blk
  obtain ⟨o1, hu1, hg1⟩ := gmap_update (P := Try.prog) Try.underlying68 Try.underlying29 hp.hl o (.int .i64 m)
  obtain ⟨w1, hw1⟩ : ∃ w1, setObjW w H o1 = w1 := ⟨_, rfl⟩
  have s1 : w1.heap.size = w.heap.size := by rw [← hw1, setObjW_size]
  have k1 : ∀ k, k ≠ H → w1.heap[k]? = w.heap[k]? := fun k hk => by rw [← hw1, setObjW_other _ _ _ _ hk]
  have b1 : w1.heap[T]? = _ := (k1 T nTH).trans ht.blk
  have c2 : w1.cell? ⟨T, 2, none⟩ = some (.map (some N)) := cell_of_row w1 T 2 _ _ _ b1
  have nm1 : GMap w1 N ns := ht.nm.keep (k1 N (Ne.symm d1))
  have hl1 := gmap_lookup1 (P := Try.prog) Try.underlying64 Try.underlying29 (z80 w1) nm1 o
  rw [hn] at hl1
  rw [hw1] at hu1 hg1
  obtain ⟨o4, hu4, hg4⟩ := gmap_update (P := Try.prog) Try.underlying80 Try.underlying9 (hM.keep (k1 M d7)) s (.agg #[])
  obtain ⟨w4, hw4⟩ : ∃ w4, setObjW w1 M o4 = w4 := ⟨_, rfl⟩
  rw [hw4] at hu4 hg4
  have s4 : w4.heap.size = w.heap.size := by rw [← hw4, setObjW_size, s1]
  have k4 : ∀ k, k ≠ M → w4.heap[k]? = w1.heap[k]? := fun k hk => by rw [← hw4, setObjW_other _ _ _ _ hk]
  have kk : ∀ k, k ≠ H → k ≠ M → w4.heap[k]? = w.heap[k]? := fun k h1 h2 => by rw [k4 k h2, k1 k h1]
  have hfin : TabAt w4 T P W N ps ws ns ∧ PlAt w4 p H q (gset hs o (.int .i64 m)) ∧ GMap w4 M (gset es s (.agg #[])) ∧ w4.heap.size = w.heap.size ∧ w4.os = w.os ∧ w4.tape = w.tape ∧ w4.output = w.output ∧
      ∀ k, k ≠ H → k ≠ M → w4.heap[k]? = w.heap[k]? := by
    refine ⟨⟨(kk T nTH nTM).trans ht.blk, ht.pl.keep (kk P (Ne.symm d2) (Ne.symm d4)), ht.wt.keep (kk W (Ne.symm d3) (Ne.symm d5)), ht.nm.keep (kk N (Ne.symm d1) (Ne.symm d6))⟩, ⟨(kk p npH npM).trans hp.blk, hg1.keep (k4 H (Ne.symm d7))⟩, hg4, s4, ?_, ?_, ?_, kk⟩
    · rw [← hw4, ← hw1]; rfl
    · rw [← hw4, ← hw1]; rfl
    · rw [← hw4, ← hw1]; rfl
  have HF := Lib.hid hfin
  clear hfin kk k4 s4 hg4 k1 hg1 nm1 b1 nTH nTM npH npM ht hp hn hM d1 d2 d3 d4 d5 d6 d7 hw1 hw4 s1
  change (Instr.mapUpdate 68 (.map (some H)) (.int .u64 o) (.int .i64 m)).run Try.prog w = _ at hu1
  change (Instr.lookup 64 (.map (some N)) (.int .u64 o) false).run Try.prog w1 = .ok (.map (some M)) w1 at hl1
  change (Instr.mapUpdate 80 (.map (some M)) (.string s) (.agg #[])).run Try.prog w1 = _ at hu4
  have hnil := some80 M w1
  go_enter Try.func30, Try.ntmps30
  go_wp2
  go_end0
  exact ⟨rfl, HF.out⟩

/-- a holder asks for no more than it holds -/
theorem ask_same (w : World) (T P W N p H : Nat) (ps : BL) (ws ns hs : UL) (o m m0 : Int) (s : ByteArray) (ht : TabAt w T P W N ps ws ns) (hpa : glook ps s = some (.pointer (some ⟨p, 0, none⟩))) {q : Value} (hp : PlAt w p H q hs)
    (ho : o ≠ 0) (him : isM m = true) (hw : glook ws o = none) (hh : glook hs o = some (.int .i64 m0)) (hj : jn m0 m = m0) :
    Calls Try.prog 17 #[.pointer (some ⟨T, 0, none⟩), .int .u64 o, .string s, .int .i64 m] w fun e w' => e = .returned (.int .i64 0) ∧ Below w.heap.size w w' := by
  have hims := isMode_any w m
  rw [him] at hims
  have hob : (o == 0) = false := by simpa using ho
  have c1 : w.cell? ⟨T, 1, none⟩ = some (.map (some W)) := cell_of_row w T 1 _ _ _ ht.blk
  have hl1 := gmap_lookup (P := Try.prog) Try.underlying63 Try.underlying29 (z33 w) ht.wt o
  rw [hw] at hl1
  change (Instr.lookup 63 (.map (some W)) (.int .u64 o) true).run Try.prog w = .ok (.tuple #[.agg #[.string ⟨#[]⟩, .int .i64 0], .bool false]) w at hl1
  obtain ⟨wA, hwA⟩ : ∃ wA, w.alloc (.cells #[.string ⟨#[]⟩, .int .i64 0] 33) = wA := ⟨_, rfl⟩
  have kA : ∀ k, k < w.heap.size → wA.heap[k]? = w.heap[k]? := fun k hk => by rw [← hwA, heap_alloc_old _ _ hk]
  have sA : wA.heap.size = w.heap.size + 1 := by rw [← hwA, World.size_alloc]
  have htA := ht.keep kA
  have hpA := hp.keep kA
  have c2 : wA.cell? ⟨T, 0, none⟩ = some (.map (some P)) := cell_of_row wA T 0 _ _ _ htA.blk
  have hl2 := gmap_lookup1 (P := Try.prog) Try.underlying62 Try.underlying9 (z67 wA) htA.pl s
  rw [hpa] at hl2
  change (Instr.lookup 62 (.map (some P)) (.string s) false).run Try.prog wA = .ok (.pointer (some ⟨p, 0, none⟩)) wA at hl2
  obtain ⟨wB, hwB⟩ : ∃ wB, wA.alloc (.cells #[.pointer (some ⟨p, 0, none⟩)] 67) = wB := ⟨_, rfl⟩
  have kB : ∀ k, k < wA.heap.size → wB.heap[k]? = wA.heap[k]? := fun k hk => by rw [← hwB, heap_alloc_old _ _ hk]
  have htB := htA.keep kB
  have hpB := hpA.keep kB
  have nB : wB.heap[w.heap.size + 1]? = some (.cells #[.pointer (some ⟨p, 0, none⟩)] 67 (0, 0)) := by rw [← hwB, ← sA]; exact heap_alloc_new wA _
  have c3 : wB.cell? ⟨w.heap.size + 1, 0, none⟩ = some (.pointer (some ⟨p, 0, none⟩)) := cell_of_row wB _ 0 _ _ _ nB
  have c4 : wB.cell? ⟨p, 0, none⟩ = some (.map (some H)) := cell_of_row wB p 0 _ _ _ hpB.blk
  have hl3 := gmap_lookup (P := Try.prog) Try.underlying68 Try.underlying29 (z3 wB) hpB.hl o
  rw [hh] at hl3
  change (Instr.lookup 68 (.map (some H)) (.int .u64 o) true).run Try.prog wB = .ok (.tuple #[.int .i64 m0, .bool true]) wB at hl3
  have hjn := join_any wB m0 m
  rw [hj] at hjn
  have HJ := Lib.hid hjn
  have HB : Hid (Below w.heap.size w wB) := by
    show Below _ _ _
    rw [← hwB, ← hwA]
    exact below_more (below_more (Below.refl _ _) _) _
  clear ht hp htA hpA htB hpB kA kB sA nB hj hjn
  subst hwB
  subst hwA
  go_enter Try.func17, Try.ntmps17
  go_wp2_with fail
  refine hims.mono ?_
  rintro e w' ⟨rfl, rfl⟩
  go_wp2_with fail
  refine HJ.out.mono ?_
  rintro e w2 ⟨rfl, rfl⟩
  go_wp2
  go_ret
  exact ⟨rfl, HB.out⟩

/-- a holder asks for more, and nobody is in the way -/
theorem ask_up (w : World) (T P W N p H M : Nat) (ps : BL) (ws ns hs : UL) (es : BL) (o m m0 : Int) (s : ByteArray) (ht : TabAt w T P W N ps ws ns) (hpa : glook ps s = some (.pointer (some ⟨p, 0, none⟩))) {q : Value} (hp : PlAt w p H q hs)
    (hm : ModesAt hs) (ho : o ≠ 0) (him : isM m = true) (hw : glook ws o = none) (hh : glook hs o = some (.int .i64 m0)) (hj : jn m0 m ≠ m0) (hg : goesP hs o (jn m0 m) = true)
    (hn : glook ns o = some (.map (some M))) (hM : GMap w M es) (d1 : H ≠ N) (d2 : H ≠ P) (d3 : H ≠ W) (d4 : M ≠ P) (d5 : M ≠ W) (d6 : M ≠ N) (d7 : M ≠ H) :
    Calls Try.prog 17 #[.pointer (some ⟨T, 0, none⟩), .int .u64 o, .string s, .int .i64 m] w fun e w' => e = .returned (.int .i64 0) ∧
      TabAt w' T P W N ps ws ns ∧ PlAt w' p H q (gset hs o (.int .i64 (jn m0 m))) ∧ GMap w' M (gset es s (.agg #[])) ∧ w.heap.size ≤ w'.heap.size ∧ w'.os = w.os ∧ w'.tape = w.tape ∧ w'.output = w.output ∧
      ∀ k, k < w.heap.size → k ≠ H → k ≠ M → w'.heap[k]? = w.heap[k]? := by
  have hims := isMode_any w m
  rw [him] at hims
  have hob : (o == 0) = false := by simpa using ho
  have c1 : w.cell? ⟨T, 1, none⟩ = some (.map (some W)) := cell_of_row w T 1 _ _ _ ht.blk
  have hl1 := gmap_lookup (P := Try.prog) Try.underlying63 Try.underlying29 (z33 w) ht.wt o
  rw [hw] at hl1
  change (Instr.lookup 63 (.map (some W)) (.int .u64 o) true).run Try.prog w = .ok (.tuple #[.agg #[.string ⟨#[]⟩, .int .i64 0], .bool false]) w at hl1
  obtain ⟨wA, hwA⟩ : ∃ wA, w.alloc (.cells #[.string ⟨#[]⟩, .int .i64 0] 33) = wA := ⟨_, rfl⟩
  have kA : ∀ k, k < w.heap.size → wA.heap[k]? = w.heap[k]? := fun k hk => by rw [← hwA, heap_alloc_old _ _ hk]
  have sA : wA.heap.size = w.heap.size + 1 := by rw [← hwA, World.size_alloc]
  have htA := ht.keep kA
  have hpA := hp.keep kA
  have c2 : wA.cell? ⟨T, 0, none⟩ = some (.map (some P)) := cell_of_row wA T 0 _ _ _ htA.blk
  have hl2 := gmap_lookup1 (P := Try.prog) Try.underlying62 Try.underlying9 (z67 wA) htA.pl s
  rw [hpa] at hl2
  change (Instr.lookup 62 (.map (some P)) (.string s) false).run Try.prog wA = .ok (.pointer (some ⟨p, 0, none⟩)) wA at hl2
  obtain ⟨wB, hwB⟩ : ∃ wB, wA.alloc (.cells #[.pointer (some ⟨p, 0, none⟩)] 67) = wB := ⟨_, rfl⟩
  have kB : ∀ k, k < wA.heap.size → wB.heap[k]? = wA.heap[k]? := fun k hk => by rw [← hwB, heap_alloc_old _ _ hk]
  have htB := htA.keep kB
  have hpB := hpA.keep kB
  have nB : wB.heap[w.heap.size + 1]? = some (.cells #[.pointer (some ⟨p, 0, none⟩)] 67 (0, 0)) := by rw [← hwB, ← sA]; exact heap_alloc_new wA _
  have c3 : wB.cell? ⟨w.heap.size + 1, 0, none⟩ = some (.pointer (some ⟨p, 0, none⟩)) := cell_of_row wB _ 0 _ _ _ nB
  have c4 : wB.cell? ⟨p, 0, none⟩ = some (.map (some H)) := cell_of_row wB p 0 _ _ _ hpB.blk
  have hl3 := gmap_lookup (P := Try.prog) Try.underlying68 Try.underlying29 (z3 wB) hpB.hl o
  rw [hh] at hl3
  change (Instr.lookup 68 (.map (some H)) (.int .u64 o) true).run Try.prog wB = .ok (.tuple #[.int .i64 m0, .bool true]) wB at hl3
  have hjn := join_any wB m0 m
  have hgo := goes_any wB p H _ hs o (jn m0 m) hpB hm
  rw [hg] at hgo
  obtain ⟨j, hjj⟩ : ∃ j, jn m0 m = j := ⟨_, rfl⟩
  rw [hjj] at hj hjn hgo ⊢
  have hjb : (j == m0) = false := by simpa using hj
  have HG := Lib.hid hgo
  have HJ := Lib.hid hjn
  have HTB := Lib.hid htB
  have HPB := Lib.hid hpB
  have HN := Lib.hid nB
  have HMB := Lib.hid (hM.keep (w' := wB) ((kB M (by have := hM.lt; omega)).trans (kA M hM.lt)))
  have HFR : Hid ((wB.os = w.os ∧ wB.tape = w.tape ∧ wB.output = w.output) ∧ w.heap.size ≤ wB.heap.size ∧ ∀ k, k < w.heap.size → wB.heap[k]? = w.heap[k]?) := by
    show _ ∧ _
    refine ⟨?_, by rw [← hwB, World.size_alloc]; omega, fun k hk => (kB k (by omega)).trans (kA k hk)⟩
    rw [← hwB, ← hwA]
    exact ⟨rfl, rfl, rfl⟩
  clear ht hp hM htA hpA htB hpB kA kB sA hgo nB hjn hjj
  subst hwB
  subst hwA
  go_enter Try.func17, Try.ntmps17
  go_wp2_with fail
  refine hims.mono ?_
  rintro e w' ⟨rfl, rfl⟩
  go_wp2_with fail
  refine HJ.out.mono ?_
  rintro e w2 ⟨rfl, rfl⟩
  go_wp2_with fail
  refine HG.out.mono ?_
  rintro e w2 ⟨rfl, hb2⟩
  have k2 : ∀ k, k < _ → w2.heap[k]? = _ := fun k hk => hb2.block k hk
  have c6 : w2.cell? ⟨w'.heap.size + 1, 0, none⟩ = some (.pointer (some ⟨p, 0, none⟩)) := cell_of_row w2 _ 0 _ _ _ ((k2 _ (Array.getElem?_eq_some_iff.1 HN.out).1).trans HN.out)
  have hho := hold_old w2 T P W N p H M _ ps ws ns hs es o j s (HTB.out.keep k2) (HPB.out.keep k2) hn (HMB.out.keep (k2 M HMB.out.lt)) d1 d2 d3 d4 d5 d6 d7
  have HH := Lib.hid hho
  have HB2 := Lib.hid hb2
  clear hho hb2 k2
  go_wp2_with fail
  refine HH.out.mono ?_
  rintro e w3 ⟨rfl, t3, p3, m3, s3, x1, x2, x3, k3⟩
  go_wp2
  go_ret
  have h2s := HB2.out.size
  have hfr := HFR.out
  refine ⟨rfl, t3, p3, m3, by omega, x1.trans (HB2.out.os.trans hfr.1.1), x2.trans (HB2.out.tape.trans hfr.1.2.1), x3.trans (HB2.out.output.trans hfr.1.2.2), fun k h1 h2 h3 => ?_⟩
  rw [k3 k h2 h3, HB2.out.block k (by omega), hfr.2.2 k h1]
end Mun
end

section
/- Contract of Ask: an owner that holds nothing there must wait; nobody waits yet. -/
set_option maxRecDepth 100000
set_option linter.unusedVariables false
namespace Mun
open Go Go.RowKit
open Go.Proofs

set_option maxHeartbeats 4000000 in
theorem ask_later (w : World) (T P W N p H : Nat) (ps : BL) (ws ns hs : UL) (o m : Int) (s : ByteArray) (ht : TabAt w T P W N ps ws ns) (hpa : glook ps s = some (.pointer (some ⟨p, 0, none⟩))) (hp : PlAt w p H (.slice none 0 0) hs)
    (hm : ModesAt hs) (ho : o ≠ 0) (him : isM m = true) (hw : glook ws o = none) (hh : glook hs o = none) (hg : goesP hs o m = false) :
    Calls Try.prog 17 #[.pointer (some ⟨T, 0, none⟩), .int .u64 o, .string s, .int .i64 m] w fun e w' => e = .returned (.int .i64 10) ∧ w.heap.size ≤ w'.heap.size ∧ w'.os = w.os ∧ w'.tape = w.tape ∧ w'.output = w.output ∧ ∀ k, k < w.heap.size → k ≠ p → k ≠ W → w'.heap[k]? = w.heap[k]? := by
  have hims := isMode_any w m
  rw [him] at hims
  have hob : (o == 0) = false := by simpa using ho
  have c1 : w.cell? ⟨T, 1, none⟩ = some (.map (some W)) := cell_of_row w T 1 _ _ _ ht.blk
  have hl1 := gmap_lookup (P := Try.prog) Try.underlying63 Try.underlying29 (z33 w) ht.wt o
  rw [hw] at hl1
  change (Instr.lookup 63 (.map (some W)) (.int .u64 o) true).run Try.prog w = .ok (.tuple #[.agg #[.string ⟨#[]⟩, .int .i64 0], .bool false]) w at hl1
  obtain ⟨wA, hwA⟩ : ∃ wA, w.alloc (.cells #[.string ⟨#[]⟩, .int .i64 0] 33) = wA := ⟨_, rfl⟩
  have kA : ∀ k, k < w.heap.size → wA.heap[k]? = w.heap[k]? := fun k hk => by rw [← hwA, heap_alloc_old _ _ hk]
  have sA : wA.heap.size = w.heap.size + 1 := by rw [← hwA, World.size_alloc]
  have htA := ht.keep kA
  have hpA := hp.keep kA
  have c2 : wA.cell? ⟨T, 0, none⟩ = some (.map (some P)) := cell_of_row wA T 0 _ _ _ htA.blk
  have hl2 := gmap_lookup1 (P := Try.prog) Try.underlying62 Try.underlying9 (z67 wA) htA.pl s
  rw [hpa] at hl2
  change (Instr.lookup 62 (.map (some P)) (.string s) false).run Try.prog wA = .ok (.pointer (some ⟨p, 0, none⟩)) wA at hl2
  obtain ⟨wB, hwB⟩ : ∃ wB, wA.alloc (.cells #[.pointer (some ⟨p, 0, none⟩)] 67) = wB := ⟨_, rfl⟩
  have kB : ∀ k, k < wA.heap.size → wB.heap[k]? = wA.heap[k]? := fun k hk => by rw [← hwB, heap_alloc_old _ _ hk]
  have htB := htA.keep kB
  have hpB := hpA.keep kB
  have nB : wB.heap[w.heap.size + 1]? = some (.cells #[.pointer (some ⟨p, 0, none⟩)] 67 (0, 0)) := by rw [← hwB, ← sA]; exact heap_alloc_new wA _
  have c3 : wB.cell? ⟨w.heap.size + 1, 0, none⟩ = some (.pointer (some ⟨p, 0, none⟩)) := cell_of_row wB _ 0 _ _ _ nB
  have c4 : wB.cell? ⟨p, 0, none⟩ = some (.map (some H)) := cell_of_row wB p 0 _ _ _ hpB.blk
  have hl3 := gmap_lookup (P := Try.prog) Try.underlying68 Try.underlying29 (z3 wB) hpB.hl o
  rw [hh] at hl3
  change (Instr.lookup 68 (.map (some H)) (.int .u64 o) true).run Try.prog wB = .ok (.tuple #[.int .i64 0, .bool false]) wB at hl3
  have c5 : wB.cell? ⟨p, 1, none⟩ = some (.slice none 0 0) := cell_of_row wB p 1 _ _ _ hpB.blk
  have hgo := goes_any wB p H _ hs o m hpB hm
  rw [hg] at hgo
  have HG := Lib.hid hgo
  have HTB := Lib.hid htB
  have HPB := Lib.hid hpB
  have HN := Lib.hid nB
  have HFR : Hid ((wB.os = w.os ∧ wB.tape = w.tape ∧ wB.output = w.output) ∧ w.heap.size ≤ wB.heap.size ∧ ∀ k, k < w.heap.size → wB.heap[k]? = w.heap[k]?) := by
    show _ ∧ _
    refine ⟨?_, by rw [← hwB, World.size_alloc]; omega, fun k hk => (kB k (by omega)).trans (kA k hk)⟩
    rw [← hwB, ← hwA]
    exact ⟨rfl, rfl, rfl⟩
  have nTp : T ≠ p := by
    rintro rfl
    have h1 := ht.blk
    rw [hp.blk] at h1
    injection h1 with h1
    injection h1 with _ h1 _
    exact absurd h1 (by decide)
  have npW : p ≠ W := by
    rintro rfl
    obtain ⟨l, c, h, -⟩ := ht.wt
    have := h.2.2.2
    rw [hp.blk] at this
    cases this
  clear ht hp htA hpA htB hpB kA kB sA hgo nB
  subst hwB
  subst hwA
  go_enter Try.func17, Try.ntmps17
  go_wp2_with fail
  refine hims.mono ?_
  rintro e w' ⟨rfl, rfl⟩
  go_wp2_with fail
  refine HG.out.mono ?_
  rintro e w2 ⟨rfl, hb2⟩
  have k2 : ∀ k, k < _ → w2.heap[k]? = _ := fun k hk => hb2.block k hk
  have nB2 : w2.heap[w'.heap.size + 1]? = _ := (k2 _ (Array.getElem?_eq_some_iff.1 HN.out).1).trans HN.out
  have hp2 := HPB.out.keep k2
  have ht2 := HTB.out.keep k2
  have c6 : w2.cell? ⟨w'.heap.size + 1, 0, none⟩ = some (.pointer (some ⟨p, 0, none⟩)) := cell_of_row w2 _ 0 _ _ _ nB2
  have c7 : w2.cell? ⟨p, 1, none⟩ = some (.slice none 0 0) := cell_of_row w2 p 1 _ _ _ hp2.blk
  have HP2 := Lib.hid hp2
  have HT2 := Lib.hid ht2
  have HN2 := Lib.hid nB2
  have HB2 := Lib.hid hb2
  clear hp2 ht2 nB2 k2 hb2
  go_wp2_with fail
  clear HG HTB HPB HN c3 c4 c5 hl3 hl2 hl1 c1 c2
  have f7 : w2.frozen? ⟨p, 1, none⟩ = false := by simp [World.frozen?, HP2.out.blk]
  have hlt6 : w'.heap.size + 1 < w2.heap.size := (Array.getElem?_eq_some_iff.1 HN2.out).1
  have hlt7 : p < w2.heap.size := (Array.getElem?_eq_some_iff.1 HP2.out.blk).1
  have hSall : Hid (∀ W', Below w2.heap.size w2 W' → (W'.cell? ⟨w'.heap.size + 1, 0, none⟩ = some (.pointer (some ⟨p, 0, none⟩)) ∧ W'.cell? ⟨p, 1, none⟩ = some (.slice none 0 0) ∧ W'.frozen? ⟨p, 1, none⟩ = false ∧ Below w2.heap.size w2 W')) := by
    show ∀ _, _
    intro W' hb
    exact ⟨(hb.cell (p := ⟨_, _, none⟩) hlt6).trans c6, (hb.cell (p := ⟨_, _, none⟩) hlt7).trans c7, (hb.frozen (p := ⟨_, _, none⟩) hlt7).trans f7, hb⟩
  have hS0 := hSall.out w2.drew (below_drewN (Below.refl _ _) 1)
  have hSA := hSall.out (w2.alloc (.cells #[.int .u64 o, .int .i64 m] 77)) ((Below.refl _ _).alloc (Nat.le_refl _) _)
  have d1 := hS0.1
  have d2 := hS0.2.1
  have d3 := hS0.2.2.1
  have e1 := hSA.1
  have e2 := hSA.2.1
  have e3 := hSA.2.2.1
  clear hS0 hSA hlt6 hlt7
  go_region_law
    ((go_simp
      go_at_call 33
      refine (insert_empty _ _ o m (heap_alloc_new w2.drew _)).mono ?_
      rintro e W1 ⟨⟨a, c, rfl⟩, hb1⟩
      have hS1 := hSall.out W1 (((below_drewN (Below.refl _ _) 1).alloc (Nat.le_refl _) _).trans (hb1.mono (by simp)))
      have g1 := hS1.1
      have g2 := hS1.2.1
      have g3 := hS1.2.2.1
      have hB1 := hS1.2.2.2
      obtain ⟨W2, hW2⟩ : ∃ W2, W1.setCell ⟨p, 1, none⟩ (.slice (some a) 1 c) = W2 := ⟨_, rfl⟩
      have hk2 : ∀ k, k < w2.heap.size → k ≠ p → W2.heap[k]? = w2.heap[k]? := fun k h1 h2 => by rw [← hW2, setCell_heapL _ _ _ _ h2]; exact hB1.block k h1
      have c8 : W2.cell? ⟨T, 1, none⟩ = some (.map (some W)) := cell_of_row W2 T 1 _ _ _ ((hk2 T (Array.getElem?_eq_some_iff.1 HT2.out.blk).1 nTp).trans HT2.out.blk)
      obtain ⟨oW, huW, -⟩ := gmap_update (P := Try.prog) Try.underlying63 Try.underlying29 (HT2.out.wt.keep (hk2 W HT2.out.wt.lt (Ne.symm npW))) o (.agg #[.string s, .int .i64 m])
      change (Instr.mapUpdate 63 (.map (some W)) (.int .u64 o) (.agg #[.string s, .int .i64 m])).run Try.prog W2 = _ at huW
      have HF2 : Hid ((W2.os = w2.os ∧ W2.tape = w2.tape ∧ W2.output = w2.output) ∧ w2.heap.size ≤ W2.heap.size ∧ ∀ k, k < w2.heap.size → k ≠ p → W2.heap[k]? = w2.heap[k]?) := by
        show _ ∧ _
        refine ⟨?_, ?_, hk2⟩
        · rw [← hW2]; exact ⟨hB1.os, hB1.tape, hB1.output⟩
        · rw [← hW2, setCell_sizeL]; exact hB1.size
      clear hS1 hb1 hB1 hk2))
  all_goals
    clear e1 e2 e3 d1 d2 d3 g1 g2 g3 c6 c7 f7
    go_wp2
    go_ret
    have h1 := HFR.out
    have h2 := HB2.out
    have h3 := HF2.out
    refine ⟨rfl, by rw [setObjW_size]; have := h2.size; omega, ?_, ?_, ?_, fun k g1 g2 g3 => ?_⟩
    · exact h3.1.1.trans (h2.os.trans h1.1.1)
    · exact h3.1.2.1.trans (h2.tape.trans h1.1.2.1)
    · exact h3.1.2.2.trans (h2.output.trans h1.1.2.2)
    · have := h2.size
      rw [setObjW_other _ _ _ _ g3, h3.2.2 k (by omega) g2, h2.block k (by omega), h1.2.2 k g1]
end Mun
end
