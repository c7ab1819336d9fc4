/- One row of owners laid behind another one. -/
import Derived.Test.YtbdkhegfmnladaaLockMk
set_option maxRecDepth 100000
set_option linter.unusedVariables false
set_option linter.unusedSimpArgs false
namespace Mun
open Go Go.RowKit
open Go.Proofs

theorem app_rows {F : Foot} {w : World} {B : Nat} {v s : Value} {l l2 : List (Int × Int)} (h : w.ownsRow B 29 1 v l.length (ov l)) (hs : RdV F w 1 s l2.length (ov l2)) (hB : B ≤ w.heap.size) (hl : l.length + l2.length ≤ 4398046511104) :
    ∃ v' w', (Builtin.append_ #[36, 36] 36 #[v, s]).run Try.prog w = .ok v' w' ∧ w'.ownsRow B 29 1 v' (l ++ l2).length (ov (l ++ l2)) ∧
      w.heap.size ≤ w'.heap.size ∧ w'.os = w.os ∧ w'.tape = w.tape ∧ w'.output = w.output ∧ (∀ k, k < w.heap.size → v.ownBlock ≠ some k → w'.heap[k]? = w.heap[k]?) ∧ (v'.ownBlock = v.ownBlock ∨ v'.ownBlock = some w.heap.size) := by
  obtain ⟨i, hi, hz, h1, h2⟩ := info_of info_u64L
  obtain ⟨v', w', hr, ho, hg, hob, -⟩ := run_append_rd (P := Try.prog) (base := B) (ty := 36) Try.underlying36 hi hz h1 h2 rfl (by decide) h hs (by
    intro u hu
    obtain ⟨a, -, rfl⟩ := List.mem_map.1 hu
    rfl) (by omega) (by decide) hB
  obtain ⟨g1, g2, g3, g4, g5⟩ := hg
  refine ⟨v', w', hr, ?_, g4, g1, g2, g3, fun k hk hne => g5 k hk (Ne.symm hne), hob⟩
  rw [List.length_append, show ov (l ++ l2) = ov l ++ ov l2 by simp [ov]]
  exact ho
end Mun
