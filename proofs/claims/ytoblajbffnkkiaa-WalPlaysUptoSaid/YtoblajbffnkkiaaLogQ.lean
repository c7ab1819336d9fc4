/- Contract of a log: Cut refused: not certain at the end, or behind the check. -/
import Derived.Test.YtoblajbffnkkiaaMgG
import Derived.Test.YtoblajbffnkkiaaMgF
import Derived.Test.YtoblajbffnkkiaaMgD
set_option maxRecDepth 100000
set_option linter.unusedVariables false
set_option linter.unusedSimpArgs false
namespace Mun
open Go Go.RowKit
open Go.Proofs

section
variable {w : World} {D L : Nat} {m : LM} {bv sv : Value}

theorem l_cut_lend (h : LMem w D L m bv sv) (i : Nat) (hi : i = m.recs.length) (hf : m.forced < m.off i) : Calls Try.prog 24 #[.pointer (some ⟨L, 0, none⟩), .int .u64 (m.base + m.off i : Nat)] w (NoOut w) := by
  have hen := l_end h
  have hfo := fun k => l_forced (h.keep (w' := w.drewN k) (fun _ _ => rfl))
  obtain ⟨q, hq⟩ : ∃ q, m.base + m.off i = q := ⟨_, rfl⟩
  obtain ⟨fi, hfi⟩ : ∃ fi, m.fin = fi := ⟨_, rfl⟩
  obtain ⟨fo, hfoq⟩ : ∃ fo, m.base + m.forced = fo := ⟨_, rfl⟩
  rw [hfi] at hen
  have hfq : q = fi := by rw [← hq, ← hfi, hi]; unfold LM.fin LM.off; rw [List.take_length]
  subst hfq
  have t2 : (fo : Int) < (q : Int) := by omega
  have t2n : decide (fo < q) = true := decide_eq_true (by omega)
  rw [hfoq] at hfo
  rw [hq]
  have HE := Lib.hid hen
  have HFO := Lib.hid hfo
  have HM := Lib.hid h
  clear h hen hfi hfo hi hq hfoq hf
  go_enter Try.func24, Try.ntmps24
  go_wp2_with fail
  refine HE.out.mono ?_
  rintro e w1 ⟨rfl, k1, rfl⟩
  go_wp2_with fail
  refine (HFO.out _).mono ?_
  rintro e w1 ⟨rfl, k1, hk1⟩
  rw [World.drewN_drewN] at hk1
  have HK1 := Lib.hid hk1
  clear hk1
  go_wp2
  go_ret
  exact ⟨rfl, _, HK1.out⟩

theorem l_cut_chk (h : LMem w D L m bv sv) (i : Nat) (hi : i < m.recs.length) (hf : m.off i ≤ m.forced) (hc : 0 < m.check ∧ m.check < m.base + m.off i) : Calls Try.prog 24 #[.pointer (some ⟨L, 0, none⟩), .int .u64 (m.base + m.off i : Nat)] w (NoOut w) := by
  have hen := l_end h
  have hfo := fun k => l_forced (h.keep (w' := w.drewN k) (fun _ _ => rfl))
  obtain ⟨q, hq⟩ : ∃ q, m.base + m.off i = q := ⟨_, rfl⟩
  obtain ⟨fi, hfi⟩ : ∃ fi, m.fin = fi := ⟨_, rfl⟩
  obtain ⟨fo, hfoq⟩ : ∃ fo, m.base + m.forced = fo := ⟨_, rfl⟩
  rw [hfi] at hen
  have hha := fun k => l_has_yes (w.drewN k) D L m _ _ q i (h.keep (fun _ _ => rfl)) hi hq
  have HHA := Lib.hid hha
  have hlt9 : q < fi := by
    have h9 : m.off i < m.off m.recs.length := lenL_take_lt _ hi hi
    have h8 : m.off m.recs.length = lenL m.recs := by unfold LM.off; rw [List.take_length]
    rw [← hq, ← hfi]; unfold LM.fin; omega
  have n1 : ((q : Int) != (fi : Int)) = true := by simp; omega
  have n2 : ((q : Int) == (fi : Int)) = false := by simp; omega
  clear hha hlt9
  have t2 : ¬ (fo : Int) < (q : Int) := by omega
  have t2n : decide (fo < q) = false := decide_eq_false (by omega)
  rw [hq] at hc
  have t3 : (m.check : Int) < (q : Int) := by omega
  have t3n : decide (m.check < q) = true := decide_eq_true hc.2
  have z1 : ((m.check : Int) != 0) = true := by simp; omega
  have z2 : ((m.check : Int) == 0) = false := by simp; omega
  rw [hfoq] at hfo
  rw [hq]
  have HE := Lib.hid hen
  have HFO := Lib.hid hfo
  have HM := Lib.hid h
  clear h hen hfi hfo hi hq hfoq hf hc
  go_enter Try.func24, Try.ntmps24
  go_wp2_with fail
  refine HE.out.mono ?_
  rintro e w1 ⟨rfl, k1, rfl⟩
  go_wp2_with fail
  refine (HHA.out _).mono ?_
  rintro e w1 ⟨rfl, k1, rfl⟩
  rw [World.drewN_drewN]
  go_wp2_with fail
  refine (HFO.out _).mono ?_
  rintro e w1 ⟨rfl, k1, hk1⟩
  rw [World.drewN_drewN] at hk1
  have c5 : w1.cell? ⟨L, 5, none⟩ = some (.int .u64 m.check) := by rw [hk1]; exact HM.out.cell 5
  have HK1 := Lib.hid hk1
  clear hk1
  go_wp2
  go_ret
  exact ⟨rfl, _, HK1.out⟩

theorem l_cut_cend (h : LMem w D L m bv sv) (i : Nat) (hi : i = m.recs.length) (hf : m.off i ≤ m.forced) (hc : 0 < m.check ∧ m.check < m.base + m.off i) : Calls Try.prog 24 #[.pointer (some ⟨L, 0, none⟩), .int .u64 (m.base + m.off i : Nat)] w (NoOut w) := by
  have hen := l_end h
  have hfo := fun k => l_forced (h.keep (w' := w.drewN k) (fun _ _ => rfl))
  obtain ⟨q, hq⟩ : ∃ q, m.base + m.off i = q := ⟨_, rfl⟩
  obtain ⟨fi, hfi⟩ : ∃ fi, m.fin = fi := ⟨_, rfl⟩
  obtain ⟨fo, hfoq⟩ : ∃ fo, m.base + m.forced = fo := ⟨_, rfl⟩
  rw [hfi] at hen
  have hfq : q = fi := by rw [← hq, ← hfi, hi]; unfold LM.fin LM.off; rw [List.take_length]
  subst hfq
  have t2 : ¬ (fo : Int) < (q : Int) := by omega
  have t2n : decide (fo < q) = false := decide_eq_false (by omega)
  rw [hq] at hc
  have t3 : (m.check : Int) < (q : Int) := by omega
  have t3n : decide (m.check < q) = true := decide_eq_true hc.2
  have z1 : ((m.check : Int) != 0) = true := by simp; omega
  have z2 : ((m.check : Int) == 0) = false := by simp; omega
  rw [hfoq] at hfo
  rw [hq]
  have HE := Lib.hid hen
  have HFO := Lib.hid hfo
  have HM := Lib.hid h
  clear h hen hfi hfo hi hq hfoq hf hc
  go_enter Try.func24, Try.ntmps24
  go_wp2_with fail
  refine HE.out.mono ?_
  rintro e w1 ⟨rfl, k1, rfl⟩
  go_wp2_with fail
  refine (HFO.out _).mono ?_
  rintro e w1 ⟨rfl, k1, hk1⟩
  rw [World.drewN_drewN] at hk1
  have c5 : w1.cell? ⟨L, 5, none⟩ = some (.int .u64 m.check) := by rw [hk1]; exact HM.out.cell 5
  have HK1 := Lib.hid hk1
  clear hk1
  go_wp2
  go_ret
  exact ⟨rfl, _, HK1.out⟩
end
end Mun
