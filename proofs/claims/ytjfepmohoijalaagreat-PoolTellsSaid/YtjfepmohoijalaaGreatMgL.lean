/- Texts of mine, one behind the other: LogD, LogE. -/
import Derived.Test.YtjfepmohoijalaaGreatMgK
section
/- Contracts of a log: Force; Open on a new device; fresh. -/
set_option maxRecDepth 100000
set_option linter.unusedVariables false
set_option linter.unusedSimpArgs false
namespace Mun
open Go Go.RowKit
open Go.Proofs

def LM.new : LM := ⟨1, [], 0, 0⟩
theorem LM.new_wf : LM.new.Wf := ⟨by simp [LM.new], by simp [LM.new, lenL], by simp [LM.new], by simp [LM.new, lenL], by simp [LM.new]⟩

def OpenOut (w : World) (D : Nat) (E F : Foot) (dm : DM) (e : Ending) (w' : World) : Prop :=
  ∃ L bv sv, e = .returned (.tuple #[.pointer (some ⟨L, 0, none⟩), .int .i64 0]) ∧ LogAt w' D L E F dm LM.new bv sv ∧ Below w.heap.size w w' ∧ ∀ k, lfoot L bv sv k → w.heap.size ≤ k

set_option maxHeartbeats 1000000 in
theorem open_new (w : World) (D : Nat) (E F : Foot) (dm : DM) (h : DiskAt w D E F dm) (hd : dm.dead = false) (hl : dm.log = []) (hm : dm.mark = []) (hc : dm.certain = 0) :
    Calls Tryz.prog 31 #[.pointer (some ⟨D, 0, none⟩)] w (OpenOut w D E F dm) := by
  have hmk := d_marked w D F dm h hd
  rw [hm] at hmk
  simp only [List.length_nil] at hmk
  obtain ⟨w1, hw1⟩ : ∃ w1, w.alloc (bobj []) = w1 := ⟨_, rfl⟩
  obtain ⟨w2, hw2⟩ : ∃ w2, w1.alloc (.cells #[.pointer (some ⟨D, 0, none⟩), .int .u64 1, .slice none 0 0, .slice none 0 0, .int .i64 0, .int .u64 0] 82) = w2 := ⟨_, rfl⟩
  have hb1 : Below w.heap.size w w1 := by rw [← hw1]; exact (Below.refl _ _).alloc (Nat.le_refl _) _
  have hb2 : Below w.heap.size w w2 := by rw [← hw2]; exact hb1.alloc hb1.size _
  have hlg := d_log w2 D F dm (h.below hb2) hd
  rw [hl] at hlg
  simp only [List.length_nil] at hlg
  obtain ⟨w3, hw3⟩ : ∃ w3, w2.alloc (bobj []) = w3 := ⟨_, rfl⟩
  have hb3 : Below w.heap.size w w3 := by rw [← hw3]; exact hb2.alloc hb2.size _
  rw [hw1] at hmk
  rw [hw3] at hlg
  have hs1 : w1.heap.size = w.heap.size + 1 := by rw [← hw1]; simp
  have hs2 : w2.heap.size = w.heap.size + 2 := by rw [← hw2]; simp [hs1]
  have hs3 : w3.heap.size = w.heap.size + 3 := by rw [← hw3]; simp [hs2]
  have k3 : w3.heap[w1.heap.size]? = some (.cells #[.pointer (some ⟨D, 0, none⟩), .int .u64 1, .slice none 0 0, .slice none 0 0, .int .i64 0, .int .u64 0] 82 (0, 0)) := by
    rw [← hw3, heap_alloc_old _ _ (by omega), ← hw2]; exact heap_alloc_new w1 _
  have o3 : OwnB w3 w.heap.size 5 (.slice (some ⟨w2.heap.size, 0, none⟩) 0 0) [] := by
    rw [← hw3]
    exact bobj_own w2 [] 0 _ rfl (Nat.zero_le _) hb2.size
  have c2 : w3.cell? ⟨w1.heap.size, 2, none⟩ = some (.slice none 0 0) := cell_of_row _ _ 2 _ _ _ k3
  have f2 : w3.frozen? ⟨w1.heap.size, 2, none⟩ = false := by simp [World.frozen?, k3]
  obtain ⟨w4, hw4⟩ : ∃ w4, w3.setCell ⟨w1.heap.size, 2, none⟩ (.slice (some ⟨w2.heap.size, 0, none⟩) 0 0) = w4 := ⟨_, rfl⟩
  have k4 : w4.heap[w1.heap.size]? = some (.cells #[.pointer (some ⟨D, 0, none⟩), .int .u64 1, .slice (some ⟨w2.heap.size, 0, none⟩) 0 0, .slice none 0 0, .int .i64 0, .int .u64 0] 82 (0, 0)) := by rw [← hw4]; exact block_setCell k3 _
  have o4 : OwnB w4 w.heap.size 5 (.slice (some ⟨w2.heap.size, 0, none⟩) 0 0) [] := ownB_same o3 (fun k e => by
    simp only [Value.ownBlock, Option.some.injEq] at e
    subst e
    rw [← hw4]
    exact block_setCell_ne _ (by omega))
  have hb4 : Below w.heap.size w w4 := by rw [← hw4]; exact hb3.setCell (by simp; omega) _
  have hcr : ∀ k, Calls Tryz.prog 72 #[.pointer (some ⟨D, 0, none⟩)] (w4.drewN k) fun e w' => e = .returned (.int .i64 0) ∧ w4.drewN k = w' := fun k => by
    have h9 := d_certain (w4.drewN k) D F dm ((h.below hb4).drewN k)
    rw [hc] at h9
    exact h9
  have d2 : w4.cell? ⟨w1.heap.size, 2, none⟩ = some (.slice (some ⟨w2.heap.size, 0, none⟩) 0 0) := cell_of_row _ _ 2 _ _ _ k4
  have d4 : w4.cell? ⟨w1.heap.size, 4, none⟩ = some (.int .i64 0) := cell_of_row _ _ 4 _ _ _ k4
  have f4 : w4.frozen? ⟨w1.heap.size, 4, none⟩ = false := by simp [World.frozen?, k4]
  have HMK := Lib.hid hmk
  have HLG := Lib.hid hlg
  have HCR := Lib.hid hcr
  have HX := Lib.hid (And.intro h (And.intro hb4 (And.intro k4 (And.intro o4 hs1))))
  clear hmk hlg hcr h hb1 hb2 hb3 hs2 hs3 k3 o3 k4 o4 hb4 hd hl hm hc hs1
  go_enter Tryz.func31, Tryz.ntmps31
  go_wp2_with fail
  refine HMK.out.mono ?_
  rintro e w9 ⟨rfl, rfl⟩
  go_wp2_with fail
  refine HLG.out.mono ?_
  rintro e w9 ⟨rfl, rfl⟩
  go_wp2
  clear hw1 hw2 hw3 hw4 c2 f2
  go_loopw [7] (fun a wr => a = .int .i64 0 ∧ wr = w4) (fun _ _ => 0)
  case atStart => exact ⟨rfl, rfl⟩
  case round =>
    obtain ⟨rfl, rfl⟩ := hrel
    go_upto_region 23 with (fail)
    go_quiet ((go_at_call 72; exact quiet_eq (HCR.out _)))
    have hb5 : Below w.heap.size w (wr.drewN nq) := below_drewN HX.out.2.1 nq
    have k5 : (wr.drewN nq).heap[w1.heap.size]? = some (.cells #[.pointer (some ⟨D, 0, none⟩), .int .u64 1, .slice (some ⟨w2.heap.size, 0, none⟩) 0 0, .slice none 0 0, .int .i64 0, .int .u64 0] 82 (0, 0)) := HX.out.2.2.1
    have o5 : OwnB (wr.drewN nq) w.heap.size 5 (.slice (some ⟨w2.heap.size, 0, none⟩) 0 0) [] := HX.out.2.2.2.1
    obtain ⟨w5, hw5⟩ : ∃ w5, wr.drewN nq = w5 := ⟨_, rfl⟩
    rw [hw5] at hb5 k5 o5 ⊢
    have e2 : w5.cell? ⟨w1.heap.size, 2, none⟩ = some (.slice (some ⟨w2.heap.size, 0, none⟩) 0 0) := cell_of_row _ _ 2 _ _ _ k5
    have e4 : w5.cell? ⟨w1.heap.size, 4, none⟩ = some (.int .i64 0) := cell_of_row _ _ 4 _ _ _ k5
    have g4 : w5.frozen? ⟨w1.heap.size, 4, none⟩ = false := by simp [World.frozen?, k5]
    obtain ⟨w6, hw6⟩ : ∃ w6, w5.setCell ⟨w1.heap.size, 4, none⟩ (.int .i64 0) = w6 := ⟨_, rfl⟩
    have hs1 := HX.out.2.2.2.2
    have k6 : w6.heap[w1.heap.size]? = some (.cells (lcells D LM.new (.slice (some ⟨w2.heap.size, 0, none⟩) 0 0) (.slice none 0 0)) 82 (0, 0)) := by rw [← hw6]; exact block_setCell k5 _
    have hne : w2.heap.size ≠ w1.heap.size := fun e => by
      obtain ⟨cu, hcu⟩ := ownsRow_blk o5 (k := w2.heap.size) rfl
      rw [e] at hcu
      exact blk_ne k5 hcu (by decide) rfl
    have o6 : OwnB w6 w.heap.size 5 (.slice (some ⟨w2.heap.size, 0, none⟩) 0 0) [] := ownB_same o5 (fun k e => by
      simp only [Value.ownBlock, Option.some.injEq] at e
      subst e
      rw [← hw6]
      exact block_setCell_ne _ hne)
    have hb6 : Below w.heap.size w w6 := by rw [← hw6]; exact hb5.setCell (by simp; omega) _
    have hm6 : LMem w6 D w1.heap.size LM.new (.slice (some ⟨w2.heap.size, 0, none⟩) 0 0) (.slice none 0 0) :=
      ⟨k6, ownsRow_base o6 (fun _ _ => Nat.zero_le _), World.ownsRow_nil _ _ _ _, LM.new_wf⟩
    have hown : ∀ k, lfoot w1.heap.size (.slice (some ⟨w2.heap.size, 0, none⟩) 0 0) (.slice none 0 0) k → w.heap.size ≤ k := fun k hk => by
      rcases hk with h1 | h1 | h1
      · omega
      · simp only [Value.ownBlock, Option.some.injEq] at h1; subst h1; exact (o6.lt _ rfl).1
      · simp [Value.ownBlock] at h1
    have hd6 : DiskAt w6 D (uf (lfoot w1.heap.size (.slice (some ⟨w2.heap.size, 0, none⟩) 0 0) (.slice none 0 0)) E) F dm := HX.out.1.grow hb6 (fun k hk => hk.elim (fun hk => .inr ⟨hown k hk, hm6.lt k hk⟩) .inl)
    have HF := Lib.hid (And.intro hd6 (And.intro hm6 (And.intro hb6 hown)))
    clear hb5 k5 o5 hs1 k6 hne o6 hb6 hm6 hown hd6 hw5 d2 d4 f4
    go_wp2
    go_ret2
    exact ⟨_, _, _, rfl, ⟨HF.out.1, HF.out.2.1⟩, HF.out.2.2.1, HF.out.2.2.2⟩

def FreshOut (w : World) (room : Nat) (e : Ending) (w' : World) : Prop :=
  ∃ D L F bv sv, e = .returned (.tuple #[.pointer (some ⟨D, 0, none⟩), .pointer (some ⟨L, 0, none⟩)]) ∧ LogAt w' D L NoF F (DM.new 1 room) LM.new bv sv ∧ Below w.heap.size w w' ∧ (∀ k, F k → w.heap.size ≤ k) ∧ ∀ k, lfoot L bv sv k → w.heap.size ≤ k

/-- no value -/
def nx : RV := ⟨.slice none 0 0, .slice none 0 0, []⟩
/-- the record of kind 1 -/
def r1 : PR := ⟨1, 0, 0, 0, [], []⟩
theorem r1_at (F : Foot) (w : World) : RecAt F w r1 nx := ⟨RdB.nil _ _, ⟨RdV.nil _ _ _, by simp [nx]⟩, rfl, by simp [r1], by simp [r1], by simp [r1]⟩
theorem r1_body : bodyR r1 = [1, 0, 0, 0, 0, 0] := by
  simp [bodyR, headR, txt, r1, vi_lt]
theorem r1_ok : RecOk r1 := ⟨by decide, by rw [r1_body]; simp, by simp [r1], by simp [r1], by simp [r1]⟩
theorem r1_len : recLen r1 = 14 := by unfold recLen; rw [r1_body]; rfl

theorem app_new (room : Nat) (h : 14 ≤ room) : ((DM.new 1 room).append (recB r1 1)).2 = 0 := by
  unfold DM.append DM.new
  simp only [List.length_nil, recB_len, r1_len, Nat.zero_add]
  rw [if_neg (by simp), if_neg (by omega), if_neg (by omega)]
end Mun
end

section
/- Contracts of a log: Force. -/
set_option maxRecDepth 100000
set_option linter.unusedVariables false
set_option linter.unusedSimpArgs false
namespace Mun
open Go Go.RowKit
open Go.Proofs

def LM.done (m : LM) : LM := { m with forced := lenL m.recs }

theorem l_force_no (w : World) (D L : Nat) (m : LM) (bv sv : Value) (lsn : Nat) (h : LMem w D L m bv sv) (hl : lsn < m.base + m.forced) :
    Calls Tryz.prog 81 #[.pointer (some ⟨L, 0, none⟩), .int .u64 lsn] w fun e w' => e = .returned (.int .i64 0) ∧ ∃ k, w' = w.drewN k := by
  have hf := l_forced h
  have HF := Lib.hid hf
  have t1 : (lsn : Int) < ((m.base + m.forced : Nat) : Int) := by omega
  obtain ⟨q, hq⟩ : ∃ q, m.base + m.forced = q := ⟨_, rfl⟩
  rw [hq] at t1 HF
  clear h hf hl hq
  go_enter Tryz.func81, Tryz.ntmps81
  go_wp2_with fail
  refine HF.out.mono ?_
  rintro e w2 ⟨rfl, k, rfl⟩
  go_wp2
  go_ret
  exact ⟨rfl, _, rfl⟩

def ForceOut (w : World) (D L : Nat) (Z F : Foot) (dm : DM) (m : LM) (bv sv : Value) (e : Ending) (w' : World) : Prop :=
  (dm.force.2 ≠ 0 ∧ e = .returned (.int .i64 dm.force.2) ∧ ∃ F', LogAt w' D L Z F' dm.force.1 m bv sv ∧ Chg (uf F (lfoot L bv sv)) (uf F' (lfoot L bv sv)) w w') ∨
  (dm.force.2 = 0 ∧ e = .returned (.int .i64 0) ∧ ∃ F', LogAt w' D L Z F' dm.force.1 m.done bv sv ∧ Chg (uf F (lfoot L bv sv)) (uf F' (lfoot L bv sv)) w w')

set_option maxHeartbeats 1000000 in
theorem l_force {Z : Foot} (w : World) (D L : Nat) (F : Foot) (dm : DM) (m : LM) (bv sv : Value) (lsn : Nat) (h : LogAt w D L Z F dm m bv sv) (ho : dm.ops < 4398046511104) (hl : m.base + m.forced ≤ lsn) :
    Calls Tryz.prog 81 #[.pointer (some ⟨L, 0, none⟩), .int .u64 lsn] w (ForceOut w D L Z F dm m bv sv) := by
  obtain ⟨ba, bn, bc, sa, sn, sc, rfl, rfl, HN⟩ := h.mem.forms
  have hf := l_forced h.mem
  have HF := Lib.hid hf
  have t1 : ¬ (lsn : Int) < ((m.base + m.forced : Nat) : Int) := by omega
  obtain ⟨q, hq⟩ : ∃ q, m.base + m.forced = q := ⟨_, rfl⟩
  rw [hq] at t1 HF
  have HH := Lib.hid h
  have HO := Lib.hid ho
  clear h hf hl hq ho
  go_enter Tryz.func81, Tryz.ntmps81
  go_wp2_with fail
  refine HF.out.mono ?_
  rintro e w2 ⟨rfl, k2, hk2⟩
  have h2 : LogAt w2 D L Z F dm m (.slice ba bn bc) (.slice sa sn sc) := by rw [hk2]; exact HH.out.drewN k2
  have hb2 : Below w.heap.size w w2 := by rw [hk2]; exact below_drewN (Below.refl _ _) k2
  have c0 : w2.cell? ⟨L, 0, none⟩ = some (.pointer (some ⟨D, 0, none⟩)) := h2.mem.cell 0
  have hfo := d_force w2 D F dm h2.disk HO.out
  have HFO := Lib.hid hfo
  have H2 := Lib.hid (And.intro h2 hb2)
  clear h2 hb2 hfo hk2
  obtain ⟨k, hk⟩ : ∃ k, dm.force.2 = k := ⟨_, rfl⟩
  go_wp2_with fail
  refine HFO.out.mono ?_
  rintro e w4 ⟨rfl, F', hd4, hc4⟩
  rw [hk]
  have hm4 : LMem w4 D L m (.slice ba bn bc) (.slice sa sn sc) := H2.out.1.mem.keep (fun k h1 => hc4.block k (H2.out.1.mem.lt k h1) (H2.out.1.disk.apart k (.inl h1)))
  have hchg : Chg (uf F (lfoot L (.slice ba bn bc) (.slice sa sn sc))) (uf F' (lfoot L (.slice ba bn bc) (.slice sa sn sc))) w w4 := (Chg.of_below H2.out.2 _).trans (chg_uf hc4)
  have HX := Lib.hid (And.intro hd4 (And.intro hm4 hchg))
  have HK := Lib.hid hk
  clear hd4 hc4 hm4 hchg hk c0 HFO
  by_cases hk0 : k = 0
  · subst hk0
    have c2 : w4.cell? ⟨L, 2, none⟩ = some (.slice ba bn bc) := HX.out.2.1.cell 2
    have c4 : w4.cell? ⟨L, 4, none⟩ = some (.int .i64 m.forced) := HX.out.2.1.cell 4
    have f4 := HX.out.2.1.free 4
    obtain ⟨w5, hw5⟩ : ∃ w5, w4.setCell ⟨L, 4, none⟩ (.int .i64 bn) = w5 := ⟨_, rfl⟩
    have hne := HX.out.2.1
    have k5 : w5.heap[L]? = some (.cells (lcells D m.done (.slice ba bn bc) (.slice sa sn sc)) 82 (0, 0)) := by
      rw [← hw5]
      have h9 := block_setCell (i := 4) hne.blk (.int .i64 bn)
      rw [h9]
      simp [lcells, LM.done, HN.out.1]
    have ko : ∀ k, k ≠ L → w5.heap[k]? = w4.heap[k]? := fun k h1 => by rw [← hw5]; exact block_setCell_ne _ h1
    have m5 : LMem w5 D L m.done (.slice ba bn bc) (.slice sa sn sc) :=
      ⟨k5, ownsRow_keep hne.b (fun k e => ko k (fun e2 => hne.neB (by rw [← e2]; exact e))), ownsRow_keep hne.s (fun k e => ko k (fun e2 => hne.neS (by rw [← e2]; exact e))), ⟨hne.wf.recs, hne.wf.len, hne.wf.base, Nat.le_refl _, hne.wf.check⟩⟩
    have ch5 : Chg (lfoot L (.slice ba bn bc) (.slice sa sn sc)) (lfoot L (.slice ba bn bc) (.slice sa sn sc)) w4 w5 := by rw [← hw5]; exact chg_setCell _ _ _ (.inl rfl)
    have HY := Lib.hid (And.intro (LogAt.mk (HX.out.1.chgE (chg_uf ch5)) m5) (HX.out.2.2.trans (chg_ufE ch5)))
    clear hne k5 ko m5 ch5
    go_wp2
    go_ret
    exact .inr ⟨HK.out, rfl, F', HY.out.1, HY.out.2⟩
  · have hz : (k != 0) = true := by simpa using hk0
    go_wp2
    go_ret
    exact .inl ⟨by rw [HK.out]; exact hk0, by rw [HK.out]; rfl, F', ⟨HX.out.1, HX.out.2.1⟩, HX.out.2.2⟩
end Mun
end
