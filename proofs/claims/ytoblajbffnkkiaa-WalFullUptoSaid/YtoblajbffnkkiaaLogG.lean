/- Plain facts for the log's Cut: a row of numbers, its cuts. -/
import Derived.Test.YtoblajbffnkkiaaLogF
set_option maxRecDepth 100000
set_option linter.unusedVariables false
set_option linter.unusedSimpArgs false
namespace Mun
open Go Go.RowKit
open Go.Proofs

theorem make_ints (n : Nat) (hn : n ≤ 16777216) (w : World) : (Instr.makeSlice 84 (.int .i64 0) (.int .i64 n)).run Try.prog w = .ok (.slice (some ⟨w.heap.size, 0, none⟩) 0 n) (w.alloc (.cells (madeCells #[Value.int .i64 0] n) 3)) := by
  obtain ⟨i, hi, hz, h1, h2⟩ := info_of info_int
  have hr := run_make (P := Try.prog) w _ _ i _ Try.underlying84 hi hz .i64 .i64 0 n (by omega) (by omega) (by rw [h2]; omega) (by omega)
  rw [hr, h1]
  simp only [Int.toNat_natCast, Nat.mul_one]
  rfl

theorem ints_own (n : Nat) (hn : n ≤ 16777216) (w : World) : (w.alloc (.cells (madeCells #[Value.int .i64 0] n) 3)).ownsRow w.heap.size 3 1 (.slice (some ⟨w.heap.size, 0, none⟩) 0 n) 0 (iv []) :=
  ⟨by simp [iv], .inr ⟨w.heap.size, n, _, rfl, Nat.le_refl _, heap_alloc_new w _, Nat.zero_le _, by unfold maxLen; omega, by simp [madeCells], by simp [iv]⟩⟩

theorem ints_from {F : Foot} {w : World} {a : Option Addr} {n c : Nat} {xs : List Value} (h : RdV F w 1 (.slice a n c) n xs) (lo : Nat) (h1 : lo ≤ n) :
    ∃ a1 c1, (∀ W, (Instr.sliceAt 84 (.slice a n c) (some (.int .i64 lo)) none none).run Try.prog W = .ok (.slice a1 (n - lo) c1) W) ∧ RdV F w 1 (.slice a1 (n - lo) c1) (n - lo) (xs.drop lo) := by
  obtain ⟨h0, a', c', hv, hc1, hc2, hnil, h4⟩ := h
  injection hv with e1 e2 e3
  subst e1 e3
  have hr : ∀ W, (Instr.sliceAt 84 (.slice a n c) (some (.int .i64 (lo : Int))) none none).run Try.prog W = .ok (.slice (if c = lo then a else a.map (·.add lo)) (n - lo) (c - lo)) W := by
    intro W
    obtain ⟨i, hi', hz, hs1, hs2⟩ := info_of info_int
    have he : Try.prog.elem 84 = 3 := by kernel_rfl
    have ht : Try.prog.underlying 84 = some (.slice (Try.prog.elem 84)) := by rw [he]; exact Try.underlying84
    rw [run_sliceAt_slice _ _ _ _ _ _ ht, run_slice_l _ _ _ _ _ ht _ _ (by omega) (by omega), he]
    simp [Go.sizeOf, typeInfo, hi', hs1, sliced]
  refine ⟨_, _, hr, by rw [List.length_drop]; omega, _, _, rfl, by omega, by omega, ?_, ?_⟩
  · intro hn
    split at hn
    · have := hnil hn; omega
    · cases a with
      | none => have := hnil rfl; omega
      | some _ => simp at hn
  · intro hp
    obtain ⟨g, off, cur, e, fr, ha, hg, hh, hx⟩ := h4 (by omega)
    subst ha
    refine ⟨g, off + lo, cur, e, fr, ?_, hg, hh, ?_⟩
    · rw [if_neg (by omega)]
      simp only [Option.map_some, addr_add]
    · rw [← hx, ← List.drop_drop, List.drop_take]
      congr 1
      omega

theorem Fnd.at_ {m : LM} {lsn f i : Nat} (h : Fnd m lsn f) (hi : i ≤ m.recs.length) (he : m.base + m.off i = lsn) : f = i := by
  rcases Nat.lt_or_ge i m.recs.length with h1 | h1
  · exact h.yes h1 he
  · obtain rfl : i = m.recs.length := by omega
    rcases Nat.lt_or_ge f m.recs.length with h2 | h2
    · have h3 := h.hi f (Nat.le_refl _) h2
      have h4 : m.off f < m.off m.recs.length := lenL_take_lt _ h2 h2
      omega
    · have := h.le; omega

def LM.cut (m : LM) (i : Nat) : LM := { m with base := m.base + m.off i, recs := m.recs.drop i, forced := m.forced - m.off i }

def CutOut (w : World) (D L : Nat) (F : Foot) (dm : DM) (m : LM) (bv sv : Value) (i : Nat) (e : Ending) (w' : World) : Prop :=
  ((dm.cut (m.off i) (markB (m.base + m.off i) m.check)).2 ≠ 0 ∧ e = .returned (.int .i64 (dm.cut (m.off i) (markB (m.base + m.off i) m.check)).2) ∧ ∃ F', LogAt w' D L F' (dm.cut (m.off i) (markB (m.base + m.off i) m.check)).1 m bv sv ∧ Chg (uf F (lfoot L bv sv)) (uf F' (lfoot L bv sv)) w w') ∨
  ((dm.cut (m.off i) (markB (m.base + m.off i) m.check)).2 = 0 ∧ e = .returned (.int .i64 0) ∧ ∃ F' bv' sv', LogAt w' D L F' (dm.cut (m.off i) (markB (m.base + m.off i) m.check)).1 (m.cut i) bv' sv' ∧ Chg (uf F (lfoot L bv sv)) (uf F' (lfoot L bv' sv')) w w')

theorem off_add (m : LM) (i j : Nat) : m.off (i + j) = m.off i + lenL ((m.recs.drop i).take j) := by
  unfold LM.off
  rw [List.take_add, lenL_append]
theorem off_split (m : LM) (i : Nat) : lenL m.recs = m.off i + lenL (m.recs.drop i) := by
  have h := lenL_append (m.recs.take i) (m.recs.drop i)
  rw [List.take_append_drop] at h
  exact h
theorem LM.cut_bytes (m : LM) (i : Nat) : (m.cut i).bytes = m.bytes.drop (m.off i) := by
  have h := encL_append (m.recs.take i) (m.recs.drop i) m.base
  rw [List.take_append_drop] at h
  show encL (m.base + m.off i) (m.recs.drop i) = (encL m.base m.recs).drop (m.off i)
  rw [h, List.drop_left' (by rw [encL_length]; rfl)]
  rfl
theorem LM.cut_wf {m : LM} (h : m.Wf) {i : Nat} (hf : m.off i ≤ m.forced) (hb : m.base + m.off i < 4611686018427387904) : (m.cut i).Wf :=
  ⟨fun r hr => h.recs r (List.mem_of_mem_drop hr), by have := off_split m i; have := h.len; show lenL (m.recs.drop i) ≤ _; omega, hb, by have := off_split m i; have := h.forced; show m.forced - m.off i ≤ lenL (m.recs.drop i); omega, h.check⟩
theorem LM.cut_fin (m : LM) (i : Nat) : (m.cut i).fin = m.fin := by
  have := off_split m i
  show m.base + m.off i + lenL (m.recs.drop i) = m.base + lenL m.recs
  omega
end Mun
