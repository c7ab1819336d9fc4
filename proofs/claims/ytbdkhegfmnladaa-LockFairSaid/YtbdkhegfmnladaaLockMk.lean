/- A row of owners copied into new memory. -/
import Derived.Test.YtbdkhegfmnladaaLockPp
set_option maxRecDepth 100000
set_option linter.unusedVariables false
set_option linter.unusedSimpArgs false
namespace Mun
open Go Go.RowKit
open Go.Proofs

theorem popQ_len : ∀ (qs hs : List (Int × Int)), (popQ hs qs).2.2.length ≤ qs.length
  | [], hs => Nat.le_refl _
  | a :: qs, hs => by
    unfold popQ
    split
    · have := popQ_len qs (kset hs a.1 a.2)
      simp only [List.length_cons]; omega
    · simp

theorem make_u64 (n : Nat) (hn : n ≤ 4398046511104) (w : World) : (Instr.makeSlice 36 (.int .i64 0) (.int .i64 n)).run Try.prog w = .ok (.slice (some ⟨w.heap.size, 0, none⟩) 0 n) (w.alloc (.cells (madeCells #[Value.int .u64 0] n) 29)) := by
  obtain ⟨i, hi, hz, h1, h2⟩ := info_of info_u64L
  have hr := run_make (P := Try.prog) w _ _ i _ Try.underlying36 hi hz .i64 .i64 0 n (by omega) (by omega) (by rw [h2]; omega) (by omega)
  rw [hr, h1]
  simp only [Int.toNat_natCast, Nat.mul_one]
  rfl

theorem u64_own (n B : Nat) (hn : n ≤ 4398046511104) (w : World) (hB : B ≤ w.heap.size) : (w.alloc (.cells (madeCells #[Value.int .u64 0] n) 29)).ownsRow B 29 1 (.slice (some ⟨w.heap.size, 0, none⟩) 0 n) 0 [] :=
  ⟨rfl, .inr ⟨w.heap.size, n, _, rfl, hB, heap_alloc_new w _, Nat.zero_le _, by unfold maxLen; omega, by simp [madeCells], by simp⟩⟩

theorem copy_out {w : World} {B : Nat} {oa : Option Addr} {n oc : Nat} {l : List (Int × Int)} (h : w.ownsRow B 29 1 (.slice oa n oc) l.length (ov l)) (hn : l.length = n) (hn2 : n ≤ 4398046511104) (hB : B ≤ w.heap.size) :
    ∃ wm v' w', (Instr.makeSlice 36 (.int .i64 0) (.int .i64 n)).run Try.prog w = .ok (.slice (some ⟨w.heap.size, 0, none⟩) 0 n) wm ∧
      (Builtin.append_ #[36, 36] 36 #[.slice (some ⟨w.heap.size, 0, none⟩) 0 n, .slice oa n oc]).run Try.prog wm = .ok v' w' ∧
      w'.ownsRow B 29 1 v' l.length (ov l) ∧ Below w.heap.size w w' := by
  obtain ⟨i, hi, hz, h1, h2⟩ := info_of info_u64L
  have hsrc : RdV NoF (w.alloc (.cells (madeCells #[Value.int .u64 0] n) 29)) 1 (.slice oa n oc) l.length (ov l) := (RdV.of_own h (fun _ _ => noF _)).alloc _
  obtain ⟨v', w', hr, ho, hg, -, -⟩ := run_append_rd (P := Try.prog) (base := B) (ty := 36) Try.underlying36 hi hz h1 h2 rfl (by decide) (u64_own n B hn2 w hB) hsrc (by
    intro u hu
    obtain ⟨a, -, rfl⟩ := List.mem_map.1 hu
    rfl) (by omega) (by decide) (by simp; omega)
  rw [Nat.zero_add, List.nil_append] at ho
  obtain ⟨g1, g2, g3, g4, g5⟩ := hg
  rw [World.size_alloc] at g4
  exact ⟨_, v', w', make_u64 n hn2 w, hr, ho, g1, g2, g3, by omega, fun k hk => by
    rw [g5 k (by rw [World.size_alloc]; omega) (by simp [Value.ownBlock]; omega), heap_alloc_old _ _ hk]⟩
end Mun
