/- Plain: what DiskCertain's loop keeps. -/
import Derived.Test.YtmlggofojdhmmaaDiskN
set_option linter.unusedVariables false
namespace Mun

structure CertInv (L X : Bytes) (k : Nat) (m : DM) (o : Nat) : Prop where
  base : m.base.length = 8
  page : m.base.getD k page0 = X
  wait : ∀ p ∈ m.waiting, 4 ≤ p.1
  torn : ∀ p, m.torn = some p → 4 ≤ p.1
  cert : m.certain = L.length
  log : m.log.take L.length = L
  ops : m.ops ≤ o

theorem spend_fields (m : DM) : m.spend.base = m.base ∧ m.spend.waiting = m.waiting ∧ m.spend.torn = m.torn ∧ m.spend.certain = m.certain ∧ m.spend.log = m.log ∧ m.spend.ops ≤ m.ops + 1 := by
  unfold DM.spend
  split
  · exact ⟨rfl, rfl, rfl, rfl, rfl, Nat.le_succ _⟩
  · exact ⟨rfl, rfl, rfl, rfl, rfl, Nat.le_refl _⟩

theorem CertInv.spend {L X : Bytes} {k : Nat} {m : DM} {o : Nat} (h : CertInv L X k m o) : CertInv L X k m.spend (o + 1) := by
  obtain ⟨h1, h2, h3, h4, h5, h6⟩ := spend_fields m
  exact ⟨by rw [h1]; exact h.base, by rw [h1]; exact h.page, by rw [h2]; exact h.wait, by rw [h3]; exact h.torn, by rw [h4]; exact h.cert, by rw [h5]; exact h.log, by have := h.ops; omega⟩

theorem CertInv.write {L X : Bytes} {k : Nat} {m : DM} {o : Nat} (h : CertInv L X k m o) (n : Nat) (hn : 4 ≤ n) (b : Bytes) : CertInv L X k (m.write n b).1 (o + 1) := by
  have hs := h.spend
  have h' : CertInv L X k m (o + 1) := ⟨h.base, h.page, h.wait, h.torn, h.cert, h.log, Nat.le_succ_of_le h.ops⟩
  unfold DM.write
  split
  · exact h'
  · split
    · exact h'
    · split
      · exact ⟨hs.base, hs.page, hs.wait, fun p hp => by injection hp with hp; subst hp; simpa using hn, hs.cert, hs.log, hs.ops⟩
      · refine ⟨hs.base, hs.page, fun p hp => ?_, hs.torn, hs.cert, hs.log, hs.ops⟩
        rcases List.mem_append.1 hp with hp | hp
        · exact h.wait p hp
        · obtain rfl : p = ((n : Int).toNat, b) := by simpa using hp
          simpa using hn

theorem CertInv.append {L X : Bytes} {k : Nat} {m : DM} {o : Nat} (h : CertInv L X k m o) (b : Bytes) : CertInv L X k (m.append b).1 (o + 1) := by
  have hs := h.spend
  have h' : CertInv L X k m (o + 1) := ⟨h.base, h.page, h.wait, h.torn, h.cert, h.log, Nat.le_succ_of_le h.ops⟩
  unfold DM.append
  split
  · exact h'
  · split
    · exact h'
    · split
      · exact ⟨hs.base, hs.page, hs.wait, hs.torn, hs.cert, hs.log, hs.ops⟩
      · refine ⟨hs.base, hs.page, hs.wait, hs.torn, hs.cert, ?_, hs.ops⟩
        show (m.log ++ b).take L.length = L
        have hl : L.length ≤ m.log.length := by
          have := congrArg List.length h.log
          rw [List.length_take] at this
          omega
        rw [List.take_append_of_le_length hl]
        exact h.log

theorem write_res {m : DM} (n : Nat) (hn : n < m.base.length) (b : Bytes) (hb : b.length = 512) : ((m.write n b).2 = 0) ∨ ((m.write n b).2 = 9 ∧ (m.write n b).1.dead = true) := by
  unfold DM.write
  split
  · exact .inr ⟨rfl, by assumption⟩
  · rw [if_neg (by omega)]
    split
    · rename_i hf
      refine .inr ⟨rfl, ?_⟩
      show m.spend.dead = true
      unfold DM.spend
      rw [if_pos hf]
    · exact .inl rfl

theorem append_res (m : DM) (b : Bytes) : (m.append b).2 = 0 ∨ (m.append b).2 = 7 ∨ (m.append b).2 = 9 := by
  unfold DM.append
  repeat' split
  all_goals simp
theorem append_dead {m : DM} (h : m.dead = true) (b : Bytes) : (m.append b).2 = 9 := by
  unfold DM.append
  rw [if_pos h]

/-- what is left when it dies has all that was certain -/
theorem CertInv.left {L X : Bytes} {k : Nat} {m : DM} {o : Nat} (h : CertInv L X k m o) (hw : m.Wf) (hk : k < 4) (c : Bytes) : (m.crash c).page k = X ∧ L.length ≤ (m.crash c).log.length ∧ (m.crash c).log.take L.length = L := by
  have hl : L.length ≤ m.log.length := by
    have := congrArg List.length h.log
    rw [List.length_take] at this
    omega
  have e : (m.crash c).log = L ++ m.rest.take (m.left c) := by
    show m.crashLog c = _
    unfold DM.crashLog
    rw [h.cert, h.log]
  refine ⟨?_, ?_, ?_⟩
  · rw [crash_page_keep c k (fun p hp => by have := h.wait p hp; omega) (fun p hp => by have := h.torn p hp; omega)]
    exact h.page
  · rw [e, List.length_append]; omega
  · rw [e, List.take_left]

theorem CertInv.setFuse {L X : Bytes} {k : Nat} {m : DM} {o : Nat} (h : CertInv L X k m o) (n : Int) : CertInv L X k (m.setFuse n) o := ⟨h.base, h.page, h.wait, h.torn, h.cert, h.log, h.ops⟩

/-- a page of bytes, padded -/
def pad512 (b : Bytes) : Bytes := (b ++ List.replicate 512 0).take 512
theorem pad512_length (b : Bytes) : (pad512 b).length = 512 := by unfold pad512; rw [List.length_take, List.length_append, List.length_replicate]; omega

def certM (k : Nat) (X L : Bytes) : DM := { DM.new 8 4096 with ops := 4, base := { DM.new 8 4096 with waiting := [(k, X)] }.settled, log := L, certain := L.length }
theorem certM_inv (k : Nat) (X L : Bytes) (hk : k < 4) : CertInv L X k (certM k X L) 4 := by
  refine ⟨?_, ?_, fun p hp => ?_, fun p hp => ?_, rfl, List.take_length, Nat.le_refl _⟩
  · show (DM.settled _).length = 8
    rw [settled_len]
    simp [DM.new]
  · show List.getD (DM.settled _) k page0 = X
    rw [settled_getD _ _ (by simp [DM.new]; omega)]
    simp [DM.page, lastW]
  · simp [certM, DM.new] at hp
  · simp [certM, DM.new] at hp
end Mun
