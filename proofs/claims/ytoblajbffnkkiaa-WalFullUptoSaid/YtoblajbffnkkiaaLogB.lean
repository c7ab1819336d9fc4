/- Contracts of a log: where a record stands. -/
import Derived.Test.YtoblajbffnkkiaaLogA
set_option maxRecDepth 100000
set_option linter.unusedVariables false
set_option linter.unusedSimpArgs false
namespace Mun
open Go Go.RowKit
open Go.Proofs

theorem drewN_two (w : World) (k n : Nat) : ∃ j, (w.drewN k).drewN n = w.drewN j := ⟨_, World.drewN_drewN w k n⟩

def LM.off (m : LM) (i : Nat) : Nat := lenL (m.recs.take i)

theorem LMem.start {w : World} {D L : Nat} {m : LM} {bv sv : Value} (h : LMem w D L m bv sv) {sa : Option Addr} {sn sc : Nat} (e : sv = .slice sa sn sc) (i : Nat) (hi : i < m.recs.length) :
    ∃ g, sa = some ⟨g, 0, none⟩ ∧ w.cell? ⟨g, i, none⟩ = some (.int .i64 (m.off i : Nat)) := by
  subst e
  rcases h.s.2 with ⟨h0, h1⟩ | ⟨g, cap, cur, h0, h1, h2, h3⟩
  · omega
  · injection h0 with e1 e2 e3
    subst e1
    refine ⟨g, rfl, ?_⟩
    have := h.s.cells (g := g) rfl i (.int .i64 (m.off i : Nat)) (by
      unfold iv
      rw [List.getElem?_map, offs_get _ _ _ hi]
      simp [LM.off])
    simpa [addr_add] using this

/-- what find finds -/
structure Fnd (m : LM) (lsn f : Nat) : Prop where
  le : f ≤ m.recs.length
  lo : ∀ i, i < f → m.base + m.off i < lsn
  hi : ∀ i, f ≤ i → i < m.recs.length → lsn ≤ m.base + m.off i

def FndOut (w : World) (m : LM) (lsn : Nat) (e : Ending) (w' : World) : Prop := ∃ f : Nat, e = .returned (.int .i64 f) ∧ Fnd m lsn f ∧ ∃ k, w' = w.drewN k

set_option maxHeartbeats 1000000 in
theorem l_find (w : World) (D L : Nat) (m : LM) (bv sv : Value) (lsn : Nat) (h : LMem w D L m bv sv) :
    Calls Try.prog 55 #[.pointer (some ⟨L, 0, none⟩), .int .u64 lsn] w (FndOut w m lsn) := by
  obtain ⟨ba, bn, bc, sa, sn, sc, rfl, rfl, HN⟩ := h.forms
  have c3 : w.cell? ⟨L, 3, none⟩ = some (.slice sa sn sc) := h.cell 3
  have c1 : w.cell? ⟨L, 1, none⟩ = some (.int .u64 m.base) := h.cell 1
  have hsn : sn ≤ 16777216 := by rw [HN.out.2]; have := lenL_len m.recs; have := h.wf.len; omega
  have hsi : (sn : Int) ≤ 16777216 := by omega
  have HH := Lib.hid h
  clear h hsn
  go_enter Try.func55, Try.ntmps55
  go_upto_region 1 with (fail)
  go_quiet (fail)
  go_wp2
  go_loopw [5, 6] (fun lo hi wr => ∃ a b : Nat, lo = .int .i64 a ∧ hi = .int .i64 b ∧ a ≤ b ∧ b ≤ sn ∧ (∀ i, i < a → m.base + m.off i < lsn) ∧ (∀ i, b ≤ i → i < sn → lsn ≤ m.base + m.off i) ∧ ∃ k, wr = w.drewN k) (fun lo hi _ => (intOf hi).toNat - (intOf lo).toNat)
  case atStart => exact ⟨0, sn, rfl, rfl, Nat.zero_le _, Nat.le_refl _, fun i hi => absurd hi (Nat.not_lt_zero _), fun i h1 h2 => by omega, _, rfl⟩
  case round =>
    obtain ⟨a, b, rfl, rfl, hab, hbn, hlo, hhi, k, rfl⟩ := hrel
    have a0 : (0 : Int) ≤ (a : Int) := by omega
    have b0 : (b : Int) ≤ 16777216 := by omega
    have a1 : (a : Int) ≤ 16777216 := by omega
    by_cases hlt : a < b
    · obtain ⟨mid, hmid⟩ : ∃ mid, (a + b) / 2 = mid := ⟨_, rfl⟩
      have m1 : a ≤ mid := by omega
      have m2 : mid < b := by omega
      obtain ⟨g, rfl, cm⟩ := HH.out.start rfl mid (by rw [← HN.out.2]; omega)
      have ho1 : m.off mid ≤ 16777216 := Nat.le_trans (lenL_take_le _ _) HH.out.wf.len
      obtain ⟨o, ho⟩ : ∃ o, m.off mid = o := ⟨_, rfl⟩
      rw [ho] at cm ho1
      have v1 : IntKind.u64.wrap (o : Int) = (o : Int) := wrap_u64_nat _ (by omega)
      have v2 : IntKind.u64.wrap ((m.base : Int) + (o : Int)) = (m.base : Int) + (o : Int) := by
        have := wrap_u64_nat (m.base + o) (by have := HH.out.wf.base; omega)
        push_cast at this
        exact this
      have em : ((a : Int) + (b : Int)) / 2 = (mid : Int) := by omega
      have i1 : (mid : Int) < (sn : Int) := by omega
      have i0 : (0 : Int) ≤ (mid : Int) := by omega
      have HM := Lib.hid (And.intro m1 (And.intro m2 (And.intro ho hlt)))
      have HLO := Lib.hid hlo
      have HHI := Lib.hid hhi
      have HBN := Lib.hid (And.intro hab hbn)
      clear m1 m2 ho ho1 hlo hhi hab hbn hmid
      go_upto_region 4 with (fail)
      go_quiet (fail)
      by_cases hb : m.base + o < lsn
      · have hbi : ((m.base : Int) + (o : Int)) < (lsn : Int) := by omega
        have HBB := Lib.hid hb
        clear hb
        go_wp2
        go_roundw
        case rel =>
          obtain ⟨m1, m2, ho, _⟩ := HM.out
          refine ⟨mid + 1, b, by go_num, rfl, by omega, HBN.out.2, fun i hi => ?_, HHI.out, (by first | exact ⟨_, rfl⟩ | exact drewN_two _ _ _)⟩
          have h1 : m.off i ≤ m.off mid := lenL_take_mono _ (by omega)
          have := HBB.out
          omega
        case measure => obtain ⟨m1, m2, ho, _⟩ := HM.out; simp [intOf]; omega
      · have hbi : ¬ ((m.base : Int) + (o : Int)) < (lsn : Int) := by omega
        have HBB := Lib.hid hb
        clear hb
        go_wp2
        go_roundw
        case rel =>
          obtain ⟨m1, m2, ho, _⟩ := HM.out
          refine ⟨a, mid, rfl, by rw [em], m1, by have := HBN.out.2; omega, HLO.out, fun i h1 h2 => ?_, (by first | exact ⟨_, rfl⟩ | exact drewN_two _ _ _)⟩
          have h3 : m.off mid ≤ m.off i := lenL_take_mono _ h1
          have := HBB.out
          omega
        case measure => obtain ⟨m1, m2, ho, _⟩ := HM.out; simp [intOf]; omega
    · obtain rfl : a = b := by omega
      have HF : Hid (Fnd m lsn a) := ⟨by rw [← HN.out.2]; exact hbn, hlo, fun i h1 h2 => hhi i h1 (by rw [HN.out.2]; exact h2)⟩
      clear hlo hhi hab hbn
      go_wp2
      go_ret
      exact ⟨a, rfl, HF.out, _, rfl⟩

theorem Fnd.yes {m : LM} {lsn f i : Nat} (h : Fnd m lsn f) (hi : i < m.recs.length) (he : m.base + m.off i = lsn) : f = i := by
  rcases Nat.lt_trichotomy f i with h1 | h1 | h1
  · have h2 := h.hi f (Nat.le_refl _) (by omega)
    have h3 : m.off f < m.off i := lenL_take_lt _ h1 (by omega)
    omega
  · exact h1
  · have := h.lo i h1; omega

/-- no record begins there -/
def NoRec (m : LM) (lsn : Nat) : Prop := ∀ i, i < m.recs.length → m.base + m.off i ≠ lsn

set_option maxHeartbeats 1000000 in
theorem l_has_yes (w : World) (D L : Nat) (m : LM) (bv sv : Value) (lsn i : Nat) (h : LMem w D L m bv sv) (hi : i < m.recs.length) (he : m.base + m.off i = lsn) :
    Calls Try.prog 42 #[.pointer (some ⟨L, 0, none⟩), .int .u64 lsn] w fun e w' => e = .returned (.bool true) ∧ ∃ k, w' = w.drewN k := by
  obtain ⟨ba, bn, bc, sa, sn, sc, rfl, rfl, HN⟩ := h.forms
  have c3 : w.cell? ⟨L, 3, none⟩ = some (.slice sa sn sc) := h.cell 3
  have c1 : w.cell? ⟨L, 1, none⟩ = some (.int .u64 m.base) := h.cell 1
  obtain ⟨g, rfl, cm⟩ := h.start rfl i hi
  have ho1 : m.off i ≤ 16777216 := Nat.le_trans (lenL_take_le _ _) h.wf.len
  have hfi := l_find w D L m _ _ lsn h
  have hbs := h.wf.base
  have hsn : i < sn := by rw [HN.out.2]; exact hi
  have hs2 : sn ≤ 16777216 := by rw [HN.out.2]; have := lenL_len m.recs; have := h.wf.len; omega
  obtain ⟨o, ho⟩ : ∃ o, m.off i = o := ⟨_, rfl⟩
  have HO := Lib.hid (And.intro hi he)
  rw [ho] at cm ho1 he
  have v1 : IntKind.u64.wrap (o : Int) = (o : Int) := wrap_u64_nat _ (by omega)
  have v2 : IntKind.u64.wrap ((m.base : Int) + (o : Int)) = (m.base : Int) + (o : Int) := by
    have := wrap_u64_nat (m.base + o) (by omega)
    push_cast at this
    exact this
  have i0 : (0 : Int) ≤ (i : Int) := by omega
  have i1 : (i : Int) < (sn : Int) := by omega
  have q1 : ((m.base : Int) + (o : Int) == (lsn : Int)) = true := by simp; omega
  have HFI := Lib.hid hfi
  clear h hi he ho ho1 hfi hbs hs2
  go_enter Try.func42, Try.ntmps42
  go_wp2_with fail
  refine HFI.out.mono ?_
  rintro e w2 ⟨f, rfl, hf, k, rfl⟩
  obtain rfl := hf.yes HO.out.1 HO.out.2
  go_upto_region 2 with (fail)
  have d1 : decide ((f : Int) < (sn : Int)) = true := decide_eq_true i1
  go_quiet (fail)
  go_wp2
  go_ret
  exact ⟨rfl, drewN_two _ _ _⟩

set_option maxHeartbeats 1000000 in
theorem l_has_no (w : World) (D L : Nat) (m : LM) (bv sv : Value) (lsn : Nat) (h : LMem w D L m bv sv) (hno : NoRec m lsn) :
    Calls Try.prog 42 #[.pointer (some ⟨L, 0, none⟩), .int .u64 lsn] w fun e w' => e = .returned (.bool false) ∧ ∃ k, w' = w.drewN k := by
  obtain ⟨ba, bn, bc, sa, sn, sc, rfl, rfl, HN⟩ := h.forms
  have c3 : w.cell? ⟨L, 3, none⟩ = some (.slice sa sn sc) := h.cell 3
  have c1 : w.cell? ⟨L, 1, none⟩ = some (.int .u64 m.base) := h.cell 1
  have hfi := l_find w D L m _ _ lsn h
  have hbs := h.wf.base
  have hs2 : sn ≤ 16777216 := by rw [HN.out.2]; have := lenL_len m.recs; have := h.wf.len; omega
  have HFI := Lib.hid hfi
  have HH := Lib.hid h
  have HNO := Lib.hid hno
  clear h hfi hno
  go_enter Try.func42, Try.ntmps42
  go_wp2_with fail
  refine HFI.out.mono ?_
  rintro e w2 ⟨f, rfl, hf, k, rfl⟩
  have hfs : f ≤ sn := by rw [HN.out.2]; exact hf.le
  by_cases hlt : f < sn
  · obtain ⟨g, rfl, cm⟩ := HH.out.start rfl f (by rw [← HN.out.2]; exact hlt)
    have ho1 : m.off f ≤ 16777216 := Nat.le_trans (lenL_take_le _ _) HH.out.wf.len
    have hne := HNO.out f (by rw [← HN.out.2]; exact hlt)
    obtain ⟨o, ho⟩ : ∃ o, m.off f = o := ⟨_, rfl⟩
    rw [ho] at cm ho1 hne
    have v1 : IntKind.u64.wrap (o : Int) = (o : Int) := wrap_u64_nat _ (by omega)
    have v2 : IntKind.u64.wrap ((m.base : Int) + (o : Int)) = (m.base : Int) + (o : Int) := by
      have := wrap_u64_nat (m.base + o) (by omega)
      push_cast at this
      exact this
    have i0 : (0 : Int) ≤ (f : Int) := by omega
    have i1 : (f : Int) < (sn : Int) := by omega
    have q1 : ((m.base : Int) + (o : Int) == (lsn : Int)) = false := by simp; omega
    clear hf hfs ho ho1 hne hbs hs2 hlt
    go_upto_region 2 with (fail)
    have d1 : decide ((f : Int) < (sn : Int)) = true := decide_eq_true i1
    go_quiet (fail)
    go_wp2
    go_ret
    exact ⟨rfl, drewN_two _ _ _⟩
  · have i1 : ¬ (f : Int) < (sn : Int) := by omega
    clear hf hfs hbs hs2 hlt
    go_upto_region 2 with (fail)
    have d1 : decide ((f : Int) < (sn : Int)) = false := decide_eq_false (by omega)
    have d2 : decide (f < sn) = false := decide_eq_false (by omega)
    clear i1
    go_quiet (fail)
    go_wp2
    go_ret
    exact ⟨rfl, drewN_two _ _ _⟩
end Mun
