/- Texts of mine, one behind the other: LogD, LogE. -/
import Derived.Test.YtjfepmohoijalaaGreatMgK
section
/- Contracts of a log: Force; Open on a new device; fresh. -/
set_option maxRecDepth 100000
set_option linter.unusedVariables false
set_option linter.unusedSimpArgs false
namespace Mun
open Go Go.RowKit
open Go.Proofs

def LM.new : LM := ⟨1, [], 0, 0⟩
theorem LM.new_wf : LM.new.Wf := ⟨by simp [LM.new], by simp [LM.new, lenL], by simp [LM.new], by simp [LM.new, lenL], by simp [LM.new]⟩

def OpenOut (w : World) (D : Nat) (E F : Foot) (dm : DM) (e : Ending) (w' : World) : Prop :=
  ∃ L bv sv, e = .returned (.tuple #[.pointer (some ⟨L, 0, none⟩), .int .i64 0]) ∧ LogAt w' D L E F dm LM.new bv sv ∧ Below w.heap.size w w' ∧ ∀ k, lfoot L bv sv k → w.heap.size ≤ k

def FreshOut (w : World) (room : Nat) (e : Ending) (w' : World) : Prop :=
  ∃ D L F bv sv, e = .returned (.tuple #[.pointer (some ⟨D, 0, none⟩), .pointer (some ⟨L, 0, none⟩)]) ∧ LogAt w' D L NoF F (DM.new 1 room) LM.new bv sv ∧ Below w.heap.size w w' ∧ (∀ k, F k → w.heap.size ≤ k) ∧ ∀ k, lfoot L bv sv k → w.heap.size ≤ k

/-- no value -/
def nx : RV := ⟨.slice none 0 0, .slice none 0 0, []⟩
/-- the record of kind 1 -/
def r1 : PR := ⟨1, 0, 0, 0, [], []⟩
theorem r1_at (F : Foot) (w : World) : RecAt F w r1 nx := ⟨RdB.nil _ _, ⟨RdV.nil _ _ _, by simp [nx]⟩, rfl, by simp [r1], by simp [r1], by simp [r1]⟩
theorem r1_body : bodyR r1 = [1, 0, 0, 0, 0, 0] := by
  simp [bodyR, headR, txt, r1, vi_lt]
theorem r1_ok : RecOk r1 := ⟨by decide, by rw [r1_body]; simp, by simp [r1], by simp [r1], by simp [r1]⟩
theorem r1_len : recLen r1 = 14 := by unfold recLen; rw [r1_body]; rfl

end Mun
end

section
/- Contracts of a log: Force. -/
set_option maxRecDepth 100000
set_option linter.unusedVariables false
set_option linter.unusedSimpArgs false
namespace Mun
open Go Go.RowKit
open Go.Proofs

def LM.done (m : LM) : LM := { m with forced := lenL m.recs }

theorem l_force_no (w : World) (D L : Nat) (m : LM) (bv sv : Value) (lsn : Nat) (h : LMem w D L m bv sv) (hl : lsn < m.base + m.forced) :
    Calls Tryz.prog 81 #[.pointer (some ⟨L, 0, none⟩), .int .u64 lsn] w fun e w' => e = .returned (.int .i64 0) ∧ ∃ k, w' = w.drewN k := by
  have hf := l_forced h
  have HF := Lib.hid hf
  have t1 : (lsn : Int) < ((m.base + m.forced : Nat) : Int) := by omega
  obtain ⟨q, hq⟩ : ∃ q, m.base + m.forced = q := ⟨_, rfl⟩
  rw [hq] at t1 HF
  clear h hf hl hq
  go_enter Tryz.func81, Tryz.ntmps81
  go_wp2_with fail
  refine HF.out.mono ?_
  rintro e w2 ⟨rfl, k, rfl⟩
  go_wp2
  go_ret
  exact ⟨rfl, _, rfl⟩

def ForceOut (w : World) (D L : Nat) (Z F : Foot) (dm : DM) (m : LM) (bv sv : Value) (e : Ending) (w' : World) : Prop :=
  (dm.force.2 ≠ 0 ∧ e = .returned (.int .i64 dm.force.2) ∧ ∃ F', LogAt w' D L Z F' dm.force.1 m bv sv ∧ Chg (uf F (lfoot L bv sv)) (uf F' (lfoot L bv sv)) w w') ∨
  (dm.force.2 = 0 ∧ e = .returned (.int .i64 0) ∧ ∃ F', LogAt w' D L Z F' dm.force.1 m.done bv sv ∧ Chg (uf F (lfoot L bv sv)) (uf F' (lfoot L bv sv)) w w')

set_option maxHeartbeats 1000000 in
theorem l_force {Z : Foot} (w : World) (D L : Nat) (F : Foot) (dm : DM) (m : LM) (bv sv : Value) (lsn : Nat) (h : LogAt w D L Z F dm m bv sv) (ho : dm.ops < 4398046511104) (hl : m.base + m.forced ≤ lsn) :
    Calls Tryz.prog 81 #[.pointer (some ⟨L, 0, none⟩), .int .u64 lsn] w (ForceOut w D L Z F dm m bv sv) := by
  obtain ⟨ba, bn, bc, sa, sn, sc, rfl, rfl, HN⟩ := h.mem.forms
  have hf := l_forced h.mem
  have HF := Lib.hid hf
  have t1 : ¬ (lsn : Int) < ((m.base + m.forced : Nat) : Int) := by omega
  obtain ⟨q, hq⟩ : ∃ q, m.base + m.forced = q := ⟨_, rfl⟩
  rw [hq] at t1 HF
  have HH := Lib.hid h
  have HO := Lib.hid ho
  clear h hf hl hq ho
  go_enter Tryz.func81, Tryz.ntmps81
  go_wp2_with fail
  refine HF.out.mono ?_
  rintro e w2 ⟨rfl, k2, hk2⟩
  have h2 : LogAt w2 D L Z F dm m (.slice ba bn bc) (.slice sa sn sc) := by rw [hk2]; exact HH.out.drewN k2
  have hb2 : Below w.heap.size w w2 := by rw [hk2]; exact below_drewN (Below.refl _ _) k2
  have c0 : w2.cell? ⟨L, 0, none⟩ = some (.pointer (some ⟨D, 0, none⟩)) := h2.mem.cell 0
  have hfo := d_force w2 D F dm h2.disk HO.out
  have HFO := Lib.hid hfo
  have H2 := Lib.hid (And.intro h2 hb2)
  clear h2 hb2 hfo hk2
  obtain ⟨k, hk⟩ : ∃ k, dm.force.2 = k := ⟨_, rfl⟩
  go_wp2_with fail
  refine HFO.out.mono ?_
  rintro e w4 ⟨rfl, F', hd4, hc4⟩
  rw [hk]
  have hm4 : LMem w4 D L m (.slice ba bn bc) (.slice sa sn sc) := H2.out.1.mem.keep (fun k h1 => hc4.block k (H2.out.1.mem.lt k h1) (H2.out.1.disk.apart k (.inl h1)))
  have hchg : Chg (uf F (lfoot L (.slice ba bn bc) (.slice sa sn sc))) (uf F' (lfoot L (.slice ba bn bc) (.slice sa sn sc))) w w4 := (Chg.of_below H2.out.2 _).trans (chg_uf hc4)
  have HX := Lib.hid (And.intro hd4 (And.intro hm4 hchg))
  have HK := Lib.hid hk
  clear hd4 hc4 hm4 hchg hk c0 HFO
  by_cases hk0 : k = 0
  · subst hk0
    have c2 : w4.cell? ⟨L, 2, none⟩ = some (.slice ba bn bc) := HX.out.2.1.cell 2
    have c4 : w4.cell? ⟨L, 4, none⟩ = some (.int .i64 m.forced) := HX.out.2.1.cell 4
    have f4 := HX.out.2.1.free 4
    obtain ⟨w5, hw5⟩ : ∃ w5, w4.setCell ⟨L, 4, none⟩ (.int .i64 bn) = w5 := ⟨_, rfl⟩
    have hne := HX.out.2.1
    have k5 : w5.heap[L]? = some (.cells (lcells D m.done (.slice ba bn bc) (.slice sa sn sc)) 82 (0, 0)) := by
      rw [← hw5]
      have h9 := block_setCell (i := 4) hne.blk (.int .i64 bn)
      rw [h9]
      simp [lcells, LM.done, HN.out.1]
    have ko : ∀ k, k ≠ L → w5.heap[k]? = w4.heap[k]? := fun k h1 => by rw [← hw5]; exact block_setCell_ne _ h1
    have m5 : LMem w5 D L m.done (.slice ba bn bc) (.slice sa sn sc) :=
      ⟨k5, ownsRow_keep hne.b (fun k e => ko k (fun e2 => hne.neB (by rw [← e2]; exact e))), ownsRow_keep hne.s (fun k e => ko k (fun e2 => hne.neS (by rw [← e2]; exact e))), ⟨hne.wf.recs, hne.wf.len, hne.wf.base, Nat.le_refl _, hne.wf.check⟩⟩
    have ch5 : Chg (lfoot L (.slice ba bn bc) (.slice sa sn sc)) (lfoot L (.slice ba bn bc) (.slice sa sn sc)) w4 w5 := by rw [← hw5]; exact chg_setCell _ _ _ (.inl rfl)
    have HY := Lib.hid (And.intro (LogAt.mk (HX.out.1.chgE (chg_uf ch5)) m5) (HX.out.2.2.trans (chg_ufE ch5)))
    clear hne k5 ko m5 ch5
    go_wp2
    go_ret
    exact .inr ⟨HK.out, rfl, F', HY.out.1, HY.out.2⟩
  · have hz : (k != 0) = true := by simpa using hk0
    go_wp2
    go_ret
    exact .inl ⟨by rw [HK.out]; exact hk0, by rw [HK.out]; rfl, F', ⟨HX.out.1, HX.out.2.1⟩, HX.out.2.2⟩
end Mun
end
