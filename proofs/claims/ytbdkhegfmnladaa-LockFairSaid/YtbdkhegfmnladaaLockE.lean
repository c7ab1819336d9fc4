/- IndexFunc over an empty queue, Insert into one. -/
import Derived.Test.YtbdkhegfmnladaaLockD
import Derived.Test.YtbdkhegfmnladaaLaw
import Derived.Laws.Append
set_option maxRecDepth 100000
set_option linter.unusedVariables false
namespace Mun
open Go Go.RowKit
open Go.Proofs

theorem indexFunc_empty (w : World) (f : Value) : Calls Try.prog 31 #[.slice none 0 0, f] w fun e w' => e = .returned (.int .i64 (-1)) ∧ w' = w := by
  go_enter Try.func31, Try.ntmps31
  go_wp2
  go_loopw [8] (fun v wr => v = .int .i64 0 ∧ w = wr) (fun v wr => 0)
  case atStart => exact ⟨rfl, rfl⟩
  case round =>
    obtain ⟨rfl, rfl⟩ := hrel
    go_wp2
    go_ret
    exact ⟨rfl, rfl⟩

theorem insert_empty (w : World) (g : Nat) (o m : Int) (hg : w.heap[g]? = some (.cells #[.int .u64 o, .int .i64 m] 77 (0, 0))) :
    Calls Try.prog 33 #[.slice none 0 0, .int .i64 0, .slice (some ⟨g, 0, none⟩) 1 1] w fun e w' => (∃ a c, e = .returned (.slice (some a) 1 c)) ∧ Below w.heap.size w w' := by
  have hinf : (Try.prog.info? 77).map (fun i => (i.zero, i.size, i.bytes)) = some (some (.agg #[.int .u64 0, .int .i64 0]), 2, 16) := by kernel_rfl
  cases hq : Try.prog.info? 77 with
  | none => simp [hq] at hinf
  | some i =>
    simp [hq] at hinf
    obtain ⟨hz, hs, hb⟩ := hinf
    have hc0 : w.cell? ⟨g, 0, none⟩ = some (.int .u64 o) := cell_of_row w g 0 _ _ _ hg
    have hc1 : w.cell? ⟨g, 1, none⟩ = some (.int .i64 m) := cell_of_row w g 1 _ _ _ hg
    have hap := run_append_nil (P := Try.prog) (w := w) 69 69 77 i _ Try.underlying69 hq hz ⟨g, 0, none⟩ 1 1 [.int .u64 o, .int .i64 m] (by rw [hs]; rfl)
      (by
        intro j v hv
        match j, hv with
        | 0, hv => simp at hv; subst hv; exact hc0
        | 1, hv => simp at hv; subst hv; exact hc1
        | j + 2, hv => simp at hv) (by decide) (by decide) (by rw [hb]; decide)
    have HR := Lib.hid hap
    clear hap hc0 hc1 hq hz hs hb
    go_enter Try.func33, Try.ntmps33
    go_wp2_with ((at_builtin; refine wpList_append_eq rfl rfl HR.out rfl rfl ?_; clear HR))
    go_ret
    exact ⟨⟨_, _, rfl⟩, (below_drewN (Below.refl _ _) 1).alloc (Nat.le_refl _) _⟩
end Mun
