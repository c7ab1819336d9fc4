/- Contracts of a log: the mark it lays; a copy. -/
import Derived.Test.YtoblajbffnkkiaaLogE
import Derived.Lib.SliceRun
set_option maxRecDepth 100000
set_option linter.unusedVariables false
set_option linter.unusedSimpArgs false
namespace Mun
open Go Go.RowKit
open Go.Proofs

def markB (base check : Nat) : Bytes := leBytes 8 base ++ leBytes 8 check

def MarkOut (w : World) (base check : Nat) (e : Ending) (w' : World) : Prop := ∃ v, e = .returned v ∧ OwnB w' w.heap.size 5 v (markB base check) ∧ Below w.heap.size w w'

theorem l_marked (w : World) (p : Value) (base check : Nat) : Calls Try.prog 54 #[p, .int .u64 base, .int .u64 check] w (MarkOut w base check) := by
  have hl := lay_any w w.heap.size (.slice none 0 0) [] base 8 8 rfl (Nat.le_refl _) (OwnB.nil _ _ _) (Nat.le_refl _) (by simp)
  have HL := Lib.hid hl
  clear hl
  go_enter Try.func54, Try.ntmps54
  go_wp2_with fail
  refine HL.out.mono ?_
  rintro e w2 ⟨v, rfl, ho, hb⟩
  have hl2 := lay_any w2 w.heap.size v ([] ++ leBytes 8 base) check 8 8 rfl (Nat.le_refl _) ho hb.size (by simp [leBytes])
  obtain ⟨a, n, c, rfl, -, -, -⟩ := OwnB.formN ho (by simp [leBytes])
  have HL2 := Lib.hid hl2
  have HB := Lib.hid hb
  clear hl2 ho hb HL
  go_wp2_with fail
  refine HL2.out.mono ?_
  rintro e w3 ⟨v, rfl, ho, hb⟩
  obtain ⟨a, n, c, rfl, -, -, -⟩ := OwnB.formN ho (by simp [leBytes])
  have HO := Lib.hid (And.intro ho (HB.out.trans hb))
  clear ho hb
  go_wp2
  go_ret
  exact ⟨_, rfl, by have := HO.out.1; simpa [markB] using this, HO.out.2⟩

def CloneOut (w : World) (l : Bytes) (e : Ending) (w' : World) : Prop := ∃ v, e = .returned v ∧ OwnB w' w.heap.size 5 v l ∧ Below w.heap.size w w'

theorem l_clone {F : Foot} (w : World) (v : Value) (l : Bytes) (hv : RdB F w v l) (hl : l.length ≤ 140737488355328) : Calls Try.prog 56 #[v] w (CloneOut w l) := by
  have qT : ∀ (w : World) (a : Option Addr) (n c n' c' : Nat), (binOp .eql 23 (.slice a n c) (.slice none n' c')).run Try.prog w = .ok (.bool a.isNone) w := fun w a n c n' c' => Lib.run_eql_slice_nil w _ _ a n c n' c' Try.underlying23
  obtain ⟨g, cp, w2, hr, ho, hb, -⟩ := append_empty_bytes (ty := 23) hv hl
  obtain ⟨a, n, c, rfl, HN, -, -⟩ := hv.formN
  cases a with
  | none =>
    have h0 : l = [] := by
      rcases Nat.eq_zero_or_pos l.length with h1 | h1
      · exact List.eq_nil_of_length_eq_zero h1
      · obtain ⟨g, off, c, e, -⟩ := hv.at_ h1
        simp at e
    have H0 := Lib.hid h0
    clear hr ho hb hv hl h0
    go_enter Try.func56, Try.ntmps56
    go_wp2
    go_ret
    exact ⟨_, rfl, by rw [H0.out]; exact OwnB.nil _ _ _, Below.refl _ _⟩
  | some a =>
    have HR := Lib.hid hr
    have HO := Lib.hid (And.intro ho hb)
    clear hr ho hb hv hl
    go_enter Try.func56, Try.ntmps56
    go_wp2_with (at_builtin; refine wpList_append_eq rfl rfl HR.out rfl rfl ?_)
    go_ret
    exact ⟨_, rfl, HO.out.1, HO.out.2⟩
end Mun
