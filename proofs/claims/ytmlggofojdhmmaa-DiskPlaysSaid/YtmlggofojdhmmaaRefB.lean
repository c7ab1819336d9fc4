/- Contracts of munimentref6: copied, spend. -/
import Derived.Test.YtmlggofojdhmmaaRefA
set_option maxRecDepth 100000
set_option linter.unusedVariables false
set_option linter.unusedSimpArgs false
namespace Mun
open Go Go.RowKit
open Go.Proofs

/-- append(nil, b...) -/
theorem append_nil_any {F : Foot} {w : World} {ty : TypeId} {s : Value} {ys : List UInt8} (hs : RdB F w s ys) (hbytes : ys.length ≤ 140737488355328) :
    ∃ a c w', (Builtin.append_ #[28, 28] ty #[.slice none 0 0, s]).run Try.prog w = .ok (.slice a ys.length c) w' ∧
      OwnB w' w.heap.size 5 (.slice a ys.length c) ys ∧ Below w.heap.size w w' := by
  obtain ⟨v3, w3, hr, ho, hgr, hob, hnil⟩ := append_bytes (base := w.heap.size) (ty := ty) (OwnB.nil w w.heap.size 5) hs (by simpa using hbytes) (Nat.le_refl _)
  rw [List.nil_append] at ho
  obtain ⟨a, c, rfl, -, -⟩ := (OwnB.rd (F := NoF) ho (fun _ _ => noF _)).form
  exact ⟨a, c, w3, hr, ho, (Below.refl _ _).grown hgr (Nat.le_refl _) (fun k hk => by simp [Value.ownBlock] at hk)⟩

def CopOut (w : World) (l : Bytes) (e : Ending) (w' : World) : Prop := ∃ a n c, e = .returned (.slice a n c) ∧ n = l.length ∧ OwnB w' w.heap.size 5 (.slice a n c) l ∧ Below w.heap.size w w'

theorem r6copied {F : Foot} (w : World) (v : Value) (l : Bytes) (hv : RdB F w v l) (hl : l.length ≤ 140737488355328) : Calls Try.prog 42 #[v] w (CopOut w l) := by
  obtain ⟨a1, c1, w1, hr, ho, hb⟩ := append_nil_any (ty := 28) hv hl
  obtain ⟨a, n, c, rfl, -, -, -⟩ := hv.formN
  obtain ⟨q, hq⟩ : ∃ q, l.length = q := ⟨_, rfl⟩
  have HO : Hid (CopOut w l (.returned (.slice a1 q c1)) w1) := ⟨a1, q, c1, rfl, hq.symm, by rw [← hq]; exact ho, hb⟩
  rw [hq] at hr
  have HR := Lib.hid hr
  clear hr ho hb hv hq
  go_enter Try.func42, Try.ntmps42
  go_wp2_with (at_builtin; refine wpList_append_eq rfl rfl HR.out rfl rfl ?_; clear HR)
  go_ret
  exact HO.out

theorem RRep.spend {F : Foot} {w : World} {m : DM} {r : RV} (h : RRep F w m r) : RRep F w m.spend r := by
  have e1 : m.spend.torn = m.torn := by unfold DM.spend; split <;> rfl
  have e2 : m.spend.mark = m.mark := by unfold DM.spend; split <;> rfl
  exact ⟨by rw [spend_base]; exact h.base, h.wrow, by rw [spend_waiting]; exact h.wws, h.wrd, by rw [spend_log]; exact h.log, by rw [e2]; exact h.mark, by rw [spend_tail]; exact h.tail, by rw [e1]; exact h.torn, h.lbf, DM.spend_wf h.wf⟩

set_option maxHeartbeats 1000000 in
theorem r6spend {F : Foot} (w : World) (m : DM) (r : RV) (h : RRep F w m r) (ho : m.ops < 4398046511104) : Calls Try.prog 41 #[.agg (rcells m r)] w fun e w' =>
    e = .returned (.tuple #[.agg (rcells m.spend r), .bool (decide (m.fuse ≠ 0))]) ∧ Below w.heap.size w w' := by
  obtain ⟨a0, c0, a1, c1, a2, c2, a3, c3, a4, n4, c4, a5, c5, e0, e1, e2, e3, e4, e5⟩ := h.forms
  have hf1 := h.wf.fuse1
  have hf2 := h.wf.fuse2
  obtain ⟨bv, wv, lv, mv, lb, tv, lp, bs, ws⟩ := r
  simp only at e0 e1 e2 e3 e4 e5
  subst e0 e1 e2 e3 e4 e5
  have et : m.spend.torn = m.torn := by unfold DM.spend; split <;> rfl
  have hoi : (m.ops : Int) < 4398046511104 := by omega
  have ho0 : (0 : Int) ≤ (m.ops : Int) := by omega
  have hB : ∀ o1 o2 : Obj, Below w.heap.size w ((w.alloc o1).alloc o2) := fun o1 o2 => below_more (below_more (Below.refl _ _) _) _
  rcases (show m.fuse = 0 ∨ (¬ m.fuse = 0 ∧ 0 < m.fuse) ∨ (¬ m.fuse = 0 ∧ ¬ 0 < m.fuse) by omega) with hz | ⟨hz, hp⟩ | ⟨hz, hp⟩
  · have e1 : m.spend = { m with dead := true } := by unfold DM.spend; rw [if_pos hz]
    rw [e1]
    have t1 : (m.fuse == 0) = true := by simpa using hz
    have HD : Hid (decide (m.fuse ≠ 0) = false) := by show _ = _; simpa using hz
    have HB := Lib.hid hB
    unfold rcells
    clear h hz e1 et hB
    go_enter Try.func41, Try.ntmps41
    go_wp2
    refine bodyPost_ret (by simp [results, Try.results41, go_sem]; try rfl) rfl ?_
    exact ⟨by rw [HD.out], HB.out _ _⟩
  · have e1 : m.spend = { m with fuse := m.fuse - 1, ops := m.ops + 1 } := by unfold DM.spend; rw [if_neg hz, if_pos hp]
    rw [e1]
    have t1 : (m.fuse == 0) = false := by simpa using hz
    have HD : Hid (decide (m.fuse ≠ 0) = true) := by show _ = _; simpa using hz
    have HB := Lib.hid hB
    have hp1 : m.fuse > 0 := hp
    unfold rcells
    clear h hz e1 et hB hp
    go_enter Try.func41, Try.ntmps41
    go_wp2
    refine bodyPost_ret (by simp [results, Try.results41, go_sem]; try rfl) rfl ?_
    exact ⟨by rw [HD.out]; rfl, HB.out _ _⟩
  · have e1 : m.spend = { m with fuse := m.fuse, ops := m.ops + 1 } := by unfold DM.spend; rw [if_neg hz, if_neg hp]
    rw [e1]
    have t1 : (m.fuse == 0) = false := by simpa using hz
    have HD : Hid (¬ m.fuse = 0) := hz
    have HB := Lib.hid hB
    have hp1 : ¬ m.fuse > 0 := hp
    unfold rcells
    clear h hz e1 et hB hp
    go_enter Try.func41, Try.ntmps41
    go_wp2
    refine bodyPost_ret (by simp [results, Try.results41, go_sem]; try rfl) rfl ?_
    exact ⟨by simp [HD.out], HB.out _ _⟩
end Mun
