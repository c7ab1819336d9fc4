/- One owner that holds one name, alone: it asks again and again. -/
import Derived.Test.YtbdkhegfmnladaaLockH
set_option maxRecDepth 100000
set_option linter.unusedVariables false
namespace Mun
open Go Go.RowKit
open Go.Proofs

/-- a table on which owner o alone holds the name s, in the mode m -/
structure One (W0 w : World) (T P W N p H M : Nat) (o : Int) (s : ByteArray) (m : Int) : Prop where
  tab : TabAt w T P W N [(s, .pointer (some ⟨p, 0, none⟩))] [] [(o, .map (some M))]
  pl : PlAt w p H (.slice none 0 0) [(o, .int .i64 m)]
  nm : GMap w M [(s, .agg #[])]
  bl : Below W0.heap.size W0 w
  own : W0.heap.size ≤ T ∧ W0.heap.size ≤ P ∧ W0.heap.size ≤ W ∧ W0.heap.size ≤ N ∧ W0.heap.size ≤ p ∧ W0.heap.size ≤ H ∧ W0.heap.size ≤ M
  ne : (H ≠ N ∧ H ≠ P ∧ H ≠ W ∧ N ≠ P ∧ N ≠ W ∧ P ≠ W) ∧ M ≠ P ∧ M ≠ W ∧ M ≠ N ∧ M ≠ H

theorem One.below {W0 w w' : World} {T P W N p H M : Nat} {o : Int} {s : ByteArray} {m : Int} (h : One W0 w T P W N p H M o s m) (hb : Below w.heap.size w w') : One W0 w' T P W N p H M o s m :=
  ⟨h.tab.keep hb.block, h.pl.keep hb.block, h.nm.keep (hb.block _ h.nm.lt), h.bl.trans (hb.mono h.bl.size), h.own, h.ne⟩

theorem one_start {W0 w : World} (hb : Below W0.heap.size W0 w) (o m : Int) (s : ByteArray) (ho : o ≠ 0) (him : isM m = true) {w1 : World} (hb1 : Below w.heap.size w w1) (hs1 : w1.heap.size = w.heap.size + 4) (ht : TabAt w1 (w.heap.size + 3) w.heap.size (w.heap.size + 1) (w.heap.size + 2) [] [] []) :
    Calls Try.prog 17 #[.pointer (some ⟨w.heap.size + 3, 0, none⟩), .int .u64 o, .string s, .int .i64 m] w1 fun e w' => e = .returned (.int .i64 0) ∧ ∃ p H M, One W0 w' (w.heap.size + 3) w.heap.size (w.heap.size + 1) (w.heap.size + 2) p H M o s m := by
  refine (ask_new w1 _ _ _ _ [] [] [] o m s ht rfl ho him rfl rfl (by omega) (by omega) (by omega)).mono ?_
  rintro e w2 ⟨rfl, p, H, M, ht2, hp2, ⟨hM, hHM⟩, hs2, hM1, hM2, hpl, hHl, x1, x2, x3, hk2⟩
  have h0 := hb.size
  refine ⟨rfl, p, H, M, ht2, hp2, hM, ?_, by omega, by omega⟩
  exact ⟨x1.trans (hb1.os.trans hb.os), x2.trans (hb1.tape.trans hb.tape), x3.trans (hb1.output.trans hb.output), by omega, fun k hk => by rw [hk2 k (by omega) (by omega) (by omega), hb1.block k (by omega), hb.block k hk]⟩

theorem goes_one (o m0 m : Int) : goesP [(o, .int .i64 m0)] o m = true := by simp [goesP]

theorem ask_again {W0 w : World} {T P W N p H M : Nat} {o m0 : Int} {s : ByteArray} (h : One W0 w T P W N p H M o s m0) (ho : o ≠ 0) (m : Int) (him : isM m = true) :
    Calls Try.prog 17 #[.pointer (some ⟨T, 0, none⟩), .int .u64 o, .string s, .int .i64 m] w fun e w' => e = .returned (.int .i64 0) ∧ One W0 w' T P W N p H M o s (jn m0 m) := by
  have hpa : glook (α := ByteArray) [(s, Value.pointer (some ⟨p, 0, none⟩))] s = some (.pointer (some ⟨p, 0, none⟩)) := by simp [glook]
  have hh : glook (α := Int) [(o, Value.int .i64 m0)] o = some (.int .i64 m0) := by simp [glook]
  have hn : glook (α := Int) [(o, Value.map (some M))] o = some (.map (some M)) := by simp [glook]
  by_cases hj : jn m0 m = m0
  · refine (ask_same w T P W N p H _ _ _ _ o m m0 s h.tab hpa h.pl ho him rfl hh hj).mono ?_
    rintro e w' ⟨rfl, hb⟩
    rw [hj]
    exact ⟨rfl, h.below hb⟩
  · obtain ⟨⟨d1, d2, d3, d4, d5, d6⟩, e1, e2, e3, e4⟩ := h.ne
    refine (ask_up w T P W N p H M _ _ _ _ _ o m m0 s h.tab hpa h.pl (fun q hq => ?_) ho him rfl hh hj (goes_one o m0 _) hn h.nm d1 d2 d3 e1 e2 e3 e4).mono ?_
    · rw [List.mem_singleton] at hq
      exact ⟨m0, by rw [hq]⟩
    · rintro e w' ⟨rfl, t1, p1, m1, s1, x1, x2, x3, k1⟩
      have hg : gset (α := Int) [(o, Value.int .i64 m0)] o (.int .i64 (jn m0 m)) = [(o, .int .i64 (jn m0 m))] := by simp [gset]
      have hg2 : gset (α := ByteArray) [(s, Value.agg #[])] s (.agg #[]) = [(s, .agg #[])] := by simp [gset]
      rw [hg] at p1
      rw [hg2] at m1
      have h1 := h.bl.size
      refine ⟨rfl, t1, p1, m1, ⟨x1.trans h.bl.os, x2.trans h.bl.tape, x3.trans h.bl.output, by omega, fun k hk => ?_⟩, h.own, h.ne⟩
      have h2 := h.own
      rw [k1 k (by omega) (by omega) (by omega), h.bl.block k hk]
end Mun
