/- Plain laws of a device: what a crash keeps; what asking leaves. -/
import Derived.Test.YtmlggofojdhmmaaDiskK
set_option maxRecDepth 100000
set_option linter.unusedVariables false
namespace Mun

/-- a device without a fuse that is alive -/
structure Live (m : DM) (n k : Nat) : Prop where
  dead : m.dead = false
  fuse : m.fuse < 0
  base : m.base.length = n
  ops : m.ops ≤ k

theorem spend_len (m : DM) : m.spend.base.length = m.base.length := by unfold DM.spend; split <;> rfl
theorem settled_len (m : DM) : m.settled.length = m.base.length := by simp [DM.settled]

theorem ask_base_length (m : DM) (op n : Int) (b : Bytes) : (m.ask op n b).1.base.length = m.base.length := by
  have h := spend_len m
  unfold DM.ask DM.write DM.sync DM.append DM.force DM.cut DM.trim DM.setMark
  repeat' split
  all_goals first | exact h | rfl | exact settled_len m

theorem Live.ask {m : DM} {n k : Nat} (h : Live m n k) (op i : Int) (b : Bytes) : Live (m.ask op i b).1 n (k + 1) := by
  have hl := ask_base_length m op i b
  rcases ask_cases m op i b with ⟨hd, hr⟩ | ⟨hd, hr⟩ | ⟨hd, hf, hr⟩ | ⟨hd, hf, hr, hd', ho', hf'⟩
  · rw [h.dead] at hd; cases hd
  · rcases hr with hr | hr <;> (rw [hr]; exact ⟨h.dead, h.fuse, h.base, Nat.le_succ_of_le h.ops⟩)
  · have := h.fuse; omega
  · refine ⟨hd', ?_, hl.trans h.base, ?_⟩
    · rw [hf', if_neg (by have := h.fuse; omega)]; exact h.fuse
    · rw [ho']; have := h.ops; omega

theorem Live.new (pages room : Nat) : Live (DM.new pages room) pages 0 := ⟨rfl, by simp [DM.new], by simp [DM.new], Nat.le_refl _⟩

theorem getD_set {α : Type} (l : List α) (i n : Nat) (a z : α) : (l.set i a).getD n z = if i = n ∧ n < l.length then a else l.getD n z := by
  simp only [List.getD_eq_getElem?_getD, List.getElem?_set]
  by_cases h : i = n
  · subst h
    by_cases h2 : i < l.length
    · simp [h2]
    · simp [h2]
  · simp [h]

/-- the pages when all that waits is kept -/
theorem crashBase_all {m : DM} (hw : m.Wf) (c : Bytes) : ∀ j, j ≤ m.waiting.length → (∀ i, i < j → chAt c i % 2 = 0) → ∀ n, n < m.base.length → (crashBase m c j).getD n page0 = (lastW (m.waiting.take j) n).getD (m.base.getD n page0)
  | 0, _, _, n, _ => by simp [crashBase, lastW_nil]
  | j + 1, hj, hc, n, hn => by
    have ih := crashBase_all hw c j (by omega) (fun i hi => hc i (by omega)) n hn
    have hjl : j < m.waiting.length := by omega
    rw [crashBase, List.getElem?_eq_getElem hjl]
    simp only [if_pos (hc j (by omega))]
    rw [getD_set, crashBase_length, List.take_succ_eq_append_getElem hjl, lastW_snoc]
    by_cases h : (m.waiting[j]).1 = n
    · rw [if_pos ⟨h, hn⟩, if_pos h]; rfl
    · rw [if_neg (fun x => h x.1), if_neg h]; exact ih

/-- a page that nobody wrote to since -/
theorem crashBase_keep {m : DM} (c : Bytes) (n : Nat) (hn : ∀ p ∈ m.waiting, p.1 ≠ n) : ∀ j, (crashBase m c j).getD n page0 = m.base.getD n page0
  | 0 => rfl
  | j + 1 => by
    have ih := crashBase_keep c n hn j
    unfold crashBase
    split
    · rename_i p hp
      split
      · rw [getD_set, if_neg (fun x => hn p (List.mem_of_getElem? hp) x.1)]; exact ih
      · exact ih
    · exact ih

theorem crash_page (m : DM) (c : Bytes) (n : Nat) : (m.crash c).page n = (m.crashPages c).getD n page0 := rfl

theorem crash_page_keep {m : DM} (c : Bytes) (n : Nat) (hn : ∀ p ∈ m.waiting, p.1 ≠ n) (ht : ∀ p, m.torn = some p → p.1 ≠ n) : (m.crash c).page n = m.base.getD n page0 := by
  rw [crash_page]
  unfold DM.crashPages
  split
  · exact crashBase_keep c n hn _
  · rename_i p hp
    rw [getD_set, if_neg (fun x => ht p hp x.1)]
    exact crashBase_keep c n hn _

theorem crash_page_all {m : DM} (hw : m.Wf) (c : Bytes) (ht : m.torn = none) (hc : ∀ i, chAt c i % 2 = 0) (n : Nat) (hn : n < m.base.length) : (m.crash c).page n = m.page n := by
  rw [crash_page]
  unfold DM.crashPages
  rw [ht]
  simp only
  rw [crashBase_all hw c _ (Nat.le_refl _) (fun i _ => hc i) n hn, List.take_length]
  rfl

/-- the log of a crash: a beginning -/
theorem crashLog_eq {m : DM} (c : Bytes) : m.crashLog c = (m.log ++ m.tail).take m.certain ++ ((m.log ++ m.tail).drop m.certain).take (m.left c) ∨ m.log.length < m.certain := by
  by_cases h : m.certain ≤ m.log.length
  · left
    unfold DM.crashLog DM.rest
    rw [List.take_append_of_le_length h, List.drop_append_of_le_length h]
  · right; omega

theorem crashLog_take {m : DM} (hw : m.Wf) (c : Bytes) : m.crashLog c = (m.log ++ m.tail).take (m.certain + m.left c) := by
  rcases crashLog_eq (m := m) c with h | h
  · rw [h, List.take_add]
  · have := hw.certain; omega

theorem crash_again_log (m : DM) (c d : Bytes) : ((m.crash c).crash d).log = (m.crash c).log := by
  show (m.crash c).crashLog d = (m.crash c).log
  unfold DM.crashLog
  have e : (m.crash c).rest = [] := by
    unfold DM.rest
    show List.drop (m.crashLog c).length (m.crashLog c) ++ [] = []
    simp
  rw [e]
  show List.take (m.crashLog c).length (m.crashLog c) ++ _ = _
  simp
  rfl

theorem crash_again_page (m : DM) (c d : Bytes) (n : Nat) : ((m.crash c).crash d).page n = (m.crash c).page n := by
  rw [crash_page_keep d n (fun p hp => by simp [DM.crash] at hp) (fun p hp => by simp [DM.crash] at hp)]
  rfl

theorem spend_nf {m : DM} (h : m.fuse = -1) : m.spend = { m with ops := m.ops + 1 } := by
  unfold DM.spend
  rw [if_neg (by omega), if_neg (by omega)]
theorem write_nf {m : DM} (hd : m.dead = false) (h : m.fuse = -1) (n : Nat) (hn : n < m.base.length) (b : Bytes) (hb : b.length = 512) : m.write n b = ({ m with ops := m.ops + 1, waiting := m.waiting ++ [(n, b)] }, 0) := by
  unfold DM.write
  rw [if_neg (by simp [hd]), if_neg (by omega), if_neg (by omega), spend_nf h]
  rfl
theorem append_nf {m : DM} (hd : m.dead = false) (h : m.fuse = -1) (b : Bytes) (hb : m.log.length + b.length ≤ m.room) : m.append b = ({ m with ops := m.ops + 1, log := m.log ++ b }, 0) := by
  unfold DM.append
  rw [if_neg (by simp [hd]), if_neg (by omega), if_neg (by omega), spend_nf h]
theorem sync_nf {m : DM} (hd : m.dead = false) (h : m.fuse = -1) : m.sync = ({ m with ops := m.ops + 1, base := m.settled, waiting := [] }, 0) := by
  unfold DM.sync
  rw [if_neg (by simp [hd]), if_neg (by omega), spend_nf h]
theorem force_nf {m : DM} (hd : m.dead = false) (h : m.fuse = -1) : m.force = ({ m with ops := m.ops + 1, certain := m.log.length }, 0) := by
  unfold DM.force
  rw [if_neg (by simp [hd]), if_neg (by omega), spend_nf h]
theorem setMark_nf {m : DM} (hd : m.dead = false) (h : m.fuse = -1) (b : Bytes) (hb : b.length ≤ 64) : m.setMark b = ({ m with ops := m.ops + 1, mark := b }, 0) := by
  unfold DM.setMark
  rw [if_neg (by simp [hd]), if_neg (by omega), if_neg (by omega), spend_nf h]
theorem settled_getD (m : DM) (n : Nat) (hn : n < m.base.length) : m.settled.getD n page0 = m.page n := by
  unfold DM.settled
  rw [List.getD_eq_getElem?_getD, List.getElem?_map, List.getElem?_range hn]
  rfl
theorem page_nowait {m : DM} (n : Nat) (h : ∀ p ∈ m.waiting, p.1 ≠ n) : m.page n = m.base.getD n page0 := by
  unfold DM.page
  cases hl : lastW m.waiting n with
  | none => rfl
  | some b => exact absurd rfl (h _ (lastW_mem hl))

def evenB (b : UInt8) : UInt8 := b &&& 254
theorem evenB_nat (b : UInt8) : (evenB b).toNat = b.toNat / 2 * 2 := by
  have : ∀ b : UInt8, (b &&& 254).toNat = b.toNat / 2 * 2 := by
    intro b
    rw [UInt8.toNat_and]
    have h : ∀ n < 256, n &&& 254 = n / 2 * 2 := by decide
    exact h b.toNat b.toNat_lt
  exact this b
theorem chAt_even (c : Bytes) (i : Nat) : chAt (c.map evenB) i % 2 = 0 := by
  unfold chAt
  rw [List.getD_eq_getElem?_getD, List.getElem?_map]
  cases h : c[i]? with
  | none => rfl
  | some b => simp only [Option.map_some, Option.getD_some]; rw [evenB_nat]; omega
end Mun
