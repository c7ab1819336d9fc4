/- Plain: a record among other bytes, with a bit turned. -/
import Derived.Test.YtoblajbffnkkiaaLogP
set_option linter.unusedVariables false
set_option linter.unusedSimpArgs false
namespace Mun

theorem flip_right (a b : List UInt8) (j : Nat) : flipBit (a ++ b) (8 * a.length + j) = a ++ flipBit b j := by
  unfold flipBit
  have e1 : (8 * a.length + j) / 8 = a.length + j / 8 := by omega
  have e2 : (8 * a.length + j) % 8 = j % 8 := by omega
  rw [e1, e2, List.set_append_right _ _ (by omega), List.getD_eq_getElem?_getD, List.getElem?_append_right (by omega), List.getD_eq_getElem?_getD]
  rw [show a.length + j / 8 - a.length = j / 8 by omega]

theorem flip_left (a b : List UInt8) (j : Nat) (h : j < 8 * a.length) : flipBit (a ++ b) j = flipBit a j ++ b := by
  unfold flipBit
  rw [List.set_append_left _ _ (by omega), List.getD_eq_getElem?_getD, List.getElem?_append_left (by omega), List.getD_eq_getElem?_getD]

theorem flip_ne (l : List UInt8) (j : Nat) (h : j < 8 * l.length) : flipBit l j ≠ l := by
  intro e
  have h1 := bitAt_flipBit l j j h
  rw [e] at h1
  simp at h1

theorem leNat_inj {a b : List UInt8} (hl : a.length = b.length) (h : leNat a = leNat b) : a = b := by
  have h1 := leBytes_leNat a
  rw [hl, h, leBytes_leNat b] at h1
  exact h1.symm

theorem back_flip (ahead behind : List UInt8) (r : PR) (lsn kk : Nat) (hb : (bodyR r).length ≤ 1048576) (hk : kk < 8 * (4 + (bodyR r).length)) (l : List UInt8)
    (hl : l = flipBit (ahead ++ recB r lsn ++ behind) (8 * (ahead.length + 4) + kk)) :
    leNat ((l.drop ahead.length).take 4) = (bodyR r).length ∧ ahead.length + 8 + (bodyR r).length ≤ l.length ∧
      leNat ((l.drop (ahead.length + 4)).take 4) ≠ (sumR lsn ((l.drop (ahead.length + 8)).take (bodyR r).length)).toNat := by
  have l4 : ∀ n, (leBytes 4 n).length = 4 := fun n => leBytes_length 4 n
  obtain ⟨q, hq⟩ : ∃ q, leBytes 4 (sumR lsn (bodyR r)).toNat = q := ⟨_, rfl⟩
  obtain ⟨h4, hh4⟩ : ∃ h4, leBytes 4 (bodyR r).length = h4 := ⟨_, rfl⟩
  have lq : q.length = 4 := by rw [← hq]; exact l4 _
  have lh : h4.length = 4 := by rw [← hh4]; exact l4 _
  have nq : leNat q = (sumR lsn (bodyR r)).toNat := by rw [← hq]; exact le4_sum _
  have nh : leNat h4 = (bodyR r).length := by rw [← hh4]; exact le4_body r hb
  have e0 : ahead ++ recB r lsn ++ behind = (ahead ++ h4) ++ ((q ++ bodyR r) ++ behind) := by
    unfold recB; rw [hq, hh4]; simp only [List.append_assoc]
  have e1 : l = (ahead ++ h4) ++ (flipBit (q ++ bodyR r) kk ++ behind) := by
    rw [hl, e0, show 8 * (ahead.length + 4) + kk = 8 * (ahead ++ h4).length + kk by rw [List.length_append, lh], flip_right,
      flip_left _ _ _ (by rw [List.length_append, lq]; omega)]
  have hlen : l.length = ahead.length + 8 + (bodyR r).length + behind.length := by
    rw [e1]; simp only [List.length_append, flipBit_length, lq, lh]; omega
  have d0 : (l.drop ahead.length).take 4 = h4 := by
    rw [e1, List.append_assoc, List.drop_left' rfl, List.take_left' lh]
  have d4 : l.drop (ahead.length + 4) = flipBit (q ++ bodyR r) kk ++ behind := by
    rw [e1, List.drop_left' (by rw [List.length_append, lh])]
  refine ⟨by rw [d0, nh], by omega, ?_⟩
  have d8 : l.drop (ahead.length + 8) = (flipBit (q ++ bodyR r) kk ++ behind).drop 4 := by
    rw [← d4, List.drop_drop]
  rw [d4, d8]
  by_cases hk32 : kk < 32
  · rw [flip_left _ _ _ (by rw [lq]; omega), List.append_assoc, List.take_left' (by rw [flipBit_length, lq]), List.drop_left' (by rw [flipBit_length, lq]), List.take_left' rfl]
    intro h
    rw [← nq] at h
    exact flip_ne q kk (by rw [lq]; omega) (leNat_inj (flipBit_length _ _) h)
  · obtain ⟨j, rfl⟩ : ∃ j, kk = 8 * q.length + j := ⟨kk - 32, by rw [lq]; omega⟩
    rw [flip_right, List.append_assoc, List.take_left' lq, List.drop_left' lq, List.take_left' (flipBit_length _ _), nq]
    intro h
    have h1 := BitVec.eq_of_toNat_eq h
    unfold sumR at h1
    have h2 := flip_right (leBytes 8 lsn) (bodyR r) j
    rw [← h2] at h1
    exact crc_flip _ _ (by rw [List.length_append, leBytes_length]; rw [lq] at hk; omega) h1.symm
end Mun
