/- A queue's first one is taken off. -/
import Derived.Test.YtbdkhegfmnladaaLockHf
set_option maxRecDepth 100000
set_option linter.unusedVariables false
set_option linter.unusedSimpArgs false
namespace Mun
open Go Go.RowKit
open Go.Proofs

theorem QAt.pop {w : World} {q : Value} {y : Int × Int} {rest : List (Int × Int)} (h : QAt w q (y :: rest)) :
    ∃ q2 c2, (∀ W, (Instr.sliceAt 69 q (some (.int .i64 1)) none none).run Try.prog W = .ok (.slice (some q2) rest.length c2) W) ∧ QAt w (.slice (some q2) rest.length c2) rest ∧ ∀ g, qblk (.slice (some q2) rest.length c2) = some g → qblk q = some g := by
  rcases h with ⟨-, e⟩ | ⟨g, off, c, cur, rfl, h1, h2, h3, h4, h5⟩
  · cases e
  simp only [List.length_cons] at h2 h5
  have h6 : (cur.toList.drop (off + 2)).take (rest.length * 2) = acells rest := by
    have h7 := congrArg (List.drop 2) h5
    rw [show acells (y :: rest) = [.int .u64 y.1, .int .i64 y.2] ++ acells rest from rfl, show (rest.length + 1) * 2 = rest.length * 2 + 2 by omega, List.drop_take, List.drop_drop] at h7
    have h8 : List.drop 2 ([Value.int .u64 y.1, Value.int .i64 y.2] ++ acells rest) = acells rest := rfl
    rw [h8] at h7
    simpa using h7
  have hrun : ∀ W, (Instr.sliceAt 69 (.slice (some ⟨g, off, none⟩) (rest.length + 1) c) (some (.int .i64 1)) none none).run Try.prog W = .ok (sliced (some ⟨g, off, none⟩) 1 (rest.length + 1) c 2) W := fun W => by
    obtain ⟨i, hi', hz, hs1, hs2⟩ := info_of info_ask
    have he : Try.prog.elem 69 = 77 := by kernel_rfl
    have ht : Try.prog.underlying 69 = some (.slice (Try.prog.elem 69)) := by rw [he]; exact Try.underlying69
    rw [run_sliceAt_slice _ _ _ _ _ _ ht, run_slice_l _ _ _ _ _ ht _ _ (by omega) (by omega), he]
    simp [Go.sizeOf, typeInfo, hi', hs1]
  by_cases hc : c = 1
  · subst hc
    obtain rfl : rest = [] := List.eq_nil_of_length_eq_zero (by omega)
    refine ⟨⟨g, off, none⟩, 0, fun W => by have h9 := hrun W; simp only [List.length_cons, List.length_nil] at h9 ⊢; rw [h9]; simp [sliced], .inr ⟨g, off, 0, cur, rfl, h1, by simp, by omega, by omega, by simp [acells]⟩, fun g' h => h⟩
  · refine ⟨⟨g, off + 2, none⟩, c - 1, fun W => by have h9 := hrun W; simp only [List.length_cons] at h9 ⊢; rw [h9]; simp [sliced, Addr.add, hc], .inr ⟨g, off + 2, c - 1, cur, rfl, h1, by omega, by omega, by omega, h6⟩, fun g' h => h⟩
end Mun
