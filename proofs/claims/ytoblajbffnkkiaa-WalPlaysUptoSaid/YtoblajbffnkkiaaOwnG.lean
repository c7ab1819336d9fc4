/- A law's own log, beside rows of the law's own that grow. -/
import Derived.Test.YtoblajbffnkkiaaLogK
import Derived.Test.YtoblajbffnkkiaaMgF
set_option maxRecDepth 100000
set_option linter.unusedVariables false
set_option linter.unusedSimpArgs false
namespace Mun
open Go Go.RowKit
open Go.Proofs

/-- a log in new memory; the law's own rows lie in Z, which neither the log nor the device reads -/
def OwnG (w0 : World) (D L : Nat) (dm : DM) (m : LM) (Z : Foot) (wr : World) : Prop :=
  ∃ F bv sv, LogAt wr D L Z F dm m bv sv ∧ Below w0.heap.size w0 wr ∧ (∀ k, uf F (lfoot L bv sv) k → w0.heap.size ≤ k) ∧ ∀ k, Z k → w0.heap.size ≤ k ∧ ¬ lfoot L bv sv k

/-- blocks that stay -/
def KeepZ (Z : Foot) (w w' : World) : Prop := w.heap.size ≤ w'.heap.size ∧ ∀ k, Z k → w'.heap[k]? = w.heap[k]?

section
variable {w0 wr w' : World} {D L : Nat} {dm dm' : DM} {m m' : LM} {Z Z' : Foot}

theorem KeepZ.of_below {w w' : World} (h : Below w.heap.size w w') (hZ : ∀ k, Z k → k < w.heap.size) : KeepZ Z w w' := ⟨h.size, fun k hk => h.block k (hZ k hk)⟩
theorem KeepZ.trans {a b c : World} (h : KeepZ Z a b) (k : KeepZ Z b c) : KeepZ Z a c := ⟨Nat.le_trans h.1 k.1, fun i hi => (k.2 i hi).trans (h.2 i hi)⟩
theorem KeepZ.drewN {w w' : World} (h : KeepZ Z w w') (n : Nat) : KeepZ Z w (w'.drewN n) := ⟨h.1, h.2⟩

theorem OwnG.below (h : OwnG w0 D L dm m Z wr) : Below w0.heap.size w0 wr := by obtain ⟨_, _, _, -, h, -⟩ := h; exact h
theorem OwnG.lt (h : OwnG w0 D L dm m Z wr) (k : Nat) (hk : Z k) : k < wr.heap.size := by obtain ⟨_, _, _, h, -⟩ := h; exact h.disk.E_lt k (.inr hk)
theorem OwnG.wf (h : OwnG w0 D L dm m Z wr) : m.Wf := by obtain ⟨_, _, _, h, -⟩ := h; exact h.mem.wf
theorem OwnG.dwf (h : OwnG w0 D L dm m Z wr) : dm.Wf := by obtain ⟨_, _, _, h, -⟩ := h; exact h.disk.wf
theorem OwnG.grow (h : OwnG w0 D L dm m Z wr) (hb : Below wr.heap.size wr w') : OwnG w0 D L dm m Z w' := by
  obtain ⟨F, bv, sv, h1, h2, h3, h4⟩ := h
  exact ⟨F, bv, sv, h1.below hb, h2.trans (hb.mono h2.size), h3, h4⟩
theorem OwnG.drewN (h : OwnG w0 D L dm m Z wr) (k : Nat) : OwnG w0 D L dm m Z (wr.drewN k) := h.grow (below_drewN (Below.refl _ _) k)

/-- the log has turned -/
theorem OwnG.chg {F F' : Foot} {bv sv bv' sv' : Value} (h1 : LogAt wr D L Z F dm m bv sv) (h2 : Below w0.heap.size w0 wr) (h3 : ∀ k, uf F (lfoot L bv sv) k → w0.heap.size ≤ k) (h4 : ∀ k, Z k → w0.heap.size ≤ k ∧ ¬ lfoot L bv sv k)
    (h5 : LogAt w' D L Z F' dm' m' bv' sv') (hc : Chg (uf F (lfoot L bv sv)) (uf F' (lfoot L bv' sv')) wr w') : OwnG w0 D L dm' m' Z w' ∧ KeepZ Z wr w' := by
  have hz : ∀ k, Z k → k < wr.heap.size ∧ ¬ uf F (lfoot L bv sv) k := fun k hk => ⟨h1.disk.E_lt k (.inr hk), fun h => h.elim (h1.disk.apart k (.inr hk)) (h4 k hk).2⟩
  refine ⟨⟨F', bv', sv', h5, h2.trans (hc.below h2.size (fun k hk h => by have := h3 k h; omega)), fun k hk => ?_, fun k hk => ⟨(h4 k hk).1, fun h => ?_⟩⟩, hc.size, fun k hk => hc.block k (hz k hk).1 (hz k hk).2⟩
  · rcases hc.foot k hk with h | h
    · exact h3 k h
    · have := h2.size; omega
  · rcases hc.foot k (.inr h) with h6 | h6
    · exact (hz k hk).2 h6
    · have := (hz k hk).1; omega

/-- a row has turned -/
theorem OwnG.row (h : OwnG w0 D L dm m Z wr) (hc : Chg Z Z' wr w') : OwnG w0 D L dm m Z' w' := by
  obtain ⟨F, bv, sv, h1, h2, h3, h4⟩ := h
  refine ⟨F, bv, sv, ⟨h1.disk.chgE (chg_ufE hc), h1.mem.keep (fun k hk => hc.block k (h1.mem.lt k hk) (fun e => (h4 k e).2 hk))⟩, h2.trans (hc.below h2.size (fun k hk h => by have := (h4 k h).1; omega)), h3, fun k hk => ?_⟩
  rcases hc.foot k hk with h | h
  · exact h4 k h
  · exact ⟨by have := h2.size; omega, fun e => by have := h1.mem.lt k e; omega⟩

theorem owng_end (h : OwnG w0 D L dm m Z wr) : Calls Try.prog 15 #[.pointer (some ⟨L, 0, none⟩)] wr fun e w' => e = .returned (.int .u64 m.fin) ∧ OwnG w0 D L dm m Z w' ∧ KeepZ Z wr w' := by
  have h0 := h
  obtain ⟨F, bv, sv, h1, h2, h3⟩ := h
  refine (l_end h1.mem).mono ?_
  rintro e w' ⟨rfl, k, rfl⟩
  exact ⟨rfl, h0.drewN k, Nat.le_refl _, fun _ _ => rfl⟩

theorem owng_first (h : OwnG w0 D L dm m Z wr) : Calls Try.prog 14 #[.pointer (some ⟨L, 0, none⟩)] wr fun e w' => e = .returned (.int .u64 m.base) ∧ wr = w' := by
  obtain ⟨F, bv, sv, h1, h2, h3⟩ := h
  exact l_first h1.mem

/-- what an Append has done: refused (1, 2, 7), dead (9), done (0) -/
def AppG (w0 : World) (D L : Nat) (dm : DM) (m : LM) (Z : Foot) (r : PR) (wr : World) (e : Ending) (w' : World) : Prop :=
  ∃ (n : Nat) (k : Int) (dm' : DM) (m' : LM), e = .returned (.tuple #[.int .u64 n, .int .i64 k]) ∧ OwnG w0 D L dm' m' Z w' ∧ KeepZ Z wr w' ∧
    (((k = 1 ∨ k = 2 ∨ k = 7) ∧ dm' = dm ∧ m' = m) ∨
     (k = 9 ∧ RecOk r ∧ m' = m ∧ dm'.log = dm.log ∧ dm'.certain = dm.certain ∧ dm'.mark = dm.mark ∧ dm'.ops ≤ dm.ops ∧ (dm'.tail = dm.tail ∨ dm'.tail = recB r m.fin)) ∨
     (k = 0 ∧ RecOk r ∧ n = m.fin ∧ m' = m.push r ∧ dm'.log = dm.log ++ recB r m.fin ∧ dm'.certain = dm.certain ∧ dm'.mark = dm.mark ∧ dm'.tail = dm.tail ∧ dm'.ops ≤ dm.ops + 1 ∧ dm'.dead = false))

theorem spend_opsU (dm : DM) : dm.spend.ops ≤ dm.ops + 1 := by unfold DM.spend; split <;> simp
theorem spend_ops0 (dm : DM) (h : dm.fuse = 0) : dm.spend.ops = dm.ops := by unfold DM.spend; rw [if_pos h]
theorem spend_same (dm : DM) : dm.spend.log = dm.log ∧ dm.spend.certain = dm.certain ∧ dm.spend.mark = dm.mark ∧ dm.spend.tail = dm.tail := by unfold DM.spend; split <;> exact ⟨rfl, rfl, rfl, rfl⟩
theorem spend_deadN (dm : DM) (h : dm.fuse ≠ 0) : dm.spend.dead = dm.dead := by unfold DM.spend; rw [if_neg h]

theorem owng_app {G : Foot} {r : PR} {x : RV} (h : OwnG w0 D L dm m Z wr) (hr : RecAt G wr r x) (hsz : szR r ≤ 4194304) (ho : dm.ops < 4398046511104) (hlog : dm.log = m.bytes) :
    Calls Try.prog 16 #[.pointer (some ⟨L, 0, none⟩), rval r x] wr (AppG w0 D L dm m Z r wr) := by
  have h0 := h
  have hlt := fun k hk => h0.lt k hk
  obtain ⟨F, bv, sv, h1, h2, h3, h4⟩ := h
  cases hg : goodR r with
  | false =>
    refine (app_no wr D L F dm m bv sv r x h1 hr hg).mono ?_
    rintro e w' ⟨rfl, h5, hb⟩
    exact ⟨0, 1, dm, m, rfl, h0.grow hb, KeepZ.of_below hb hlt, .inl ⟨.inl rfl, rfl, rfl⟩⟩
  | true =>
    by_cases hbig : (bodyR r).length ≤ 1048576
    · have hok : RecOk r := ⟨hg, hbig, hr.tx, hr.prev, hr.next⟩
      refine (app_dev wr D L F dm m bv sv r x h1 hr hok hsz ho (fun _ => hlog)).mono ?_
      rintro e w' (⟨hk, rfl, F', h5, h6⟩ | ⟨hk, rfl, F', bv', sv', h5, h6⟩)
      · obtain ⟨o1, o2⟩ := OwnG.chg h1 h2 h3 h4 h5 h6
        refine ⟨0, _, _, _, rfl, o1, o2, ?_⟩
        unfold DM.append at hk ⊢
        by_cases hd : dm.dead = true
        · rw [if_pos hd]
          exact .inr (.inl ⟨rfl, hok, rfl, rfl, rfl, rfl, Nat.le_refl _, .inl rfl⟩)
        · rw [if_neg hd] at hk ⊢
          by_cases hr7 : dm.room < dm.log.length + (recB r m.fin).length
          · rw [if_pos hr7]
            exact .inl ⟨.inr (.inr rfl), rfl, rfl⟩
          · by_cases hf : dm.fuse = 0
            · rw [if_neg hr7, if_pos hf]
              obtain ⟨q1, q2, q3, q4⟩ := spend_same dm
              exact .inr (.inl ⟨rfl, hok, rfl, q1, q2, q3, Nat.le_of_eq (spend_ops0 dm hf), .inr rfl⟩)
            · rw [if_neg hr7, if_neg hf] at hk
              exact absurd rfl hk
      · obtain ⟨o1, o2⟩ := OwnG.chg h1 h2 h3 h4 h5 h6
        refine ⟨m.fin, 0, _, _, rfl, o1, o2, .inr (.inr ⟨rfl, hok, rfl, rfl, ?_⟩)⟩
        unfold DM.append at hk ⊢
        by_cases hd : dm.dead = true
        · rw [if_pos hd] at hk; exact absurd hk (show ¬ ((9 : Int) = 0) by decide)
        · rw [if_neg hd] at hk ⊢
          by_cases hr7 : dm.room < dm.log.length + (recB r m.fin).length
          · rw [if_pos hr7] at hk; exact absurd hk (show ¬ ((7 : Int) = 0) by decide)
          · by_cases hf : dm.fuse = 0
            · rw [if_neg hr7, if_pos hf] at hk; exact absurd hk (show ¬ ((9 : Int) = 0) by decide)
            · rw [if_neg hr7, if_neg hf]
              obtain ⟨q1, q2, q3, q4⟩ := spend_same dm
              exact ⟨rfl, q2, q3, q4, spend_opsU dm, by rw [spend_deadN dm hf]; simpa using hd⟩
    · refine (app_big wr D L F dm m bv sv r x h1 hr hg hsz (by omega)).mono ?_
      rintro e w' ⟨rfl, h5, hb⟩
      exact ⟨0, 2, dm, m, rfl, h0.grow hb, KeepZ.of_below hb hlt, .inl ⟨.inr (.inl rfl), rfl, rfl⟩⟩

/-- a Force of what is not certain yet -/
def ForceG (w0 : World) (D L : Nat) (dm : DM) (m : LM) (Z : Foot) (wr : World) (e : Ending) (w' : World) : Prop :=
  ∃ (k : Int) (dm' : DM) (m' : LM), e = .returned (.int .i64 k) ∧ OwnG w0 D L dm' m' Z w' ∧ KeepZ Z wr w' ∧ dm'.log = dm.log ∧ dm'.mark = dm.mark ∧ dm'.tail = dm.tail ∧ dm'.ops ≤ dm.ops + 1 ∧
    ((k = 9 ∧ m' = m ∧ dm'.certain = dm.certain) ∨ (k = 0 ∧ m' = m.done ∧ dm'.certain = dm.log.length ∧ dm'.dead = false ∧ dm.dead = false))

theorem owng_force {lsn : Nat} (h : OwnG w0 D L dm m Z wr) (ho : dm.ops < 4398046511104) (hl : m.base + m.forced ≤ lsn) :
    Calls Try.prog 18 #[.pointer (some ⟨L, 0, none⟩), .int .u64 lsn] wr (ForceG w0 D L dm m Z wr) := by
  obtain ⟨F, bv, sv, h1, h2, h3, h4⟩ := h
  refine (l_force wr D L F dm m bv sv lsn h1 ho hl).mono ?_
  obtain ⟨q1, q2, q3, q4⟩ := spend_same dm
  rintro e w' (⟨hk, rfl, F', h5, h6⟩ | ⟨hk, rfl, F', h5, h6⟩)
  · obtain ⟨o1, o2⟩ := OwnG.chg h1 h2 h3 h4 h5 h6
    refine ⟨_, _, _, rfl, o1, o2, ?_⟩
    unfold DM.force at hk ⊢
    by_cases hd : dm.dead = true
    · rw [if_pos hd]
      exact ⟨rfl, rfl, rfl, Nat.le_succ _, .inl ⟨rfl, rfl, rfl⟩⟩
    · rw [if_neg hd] at hk ⊢
      by_cases hf : dm.fuse = 0
      · rw [if_pos hf]
        exact ⟨q1, q3, q4, spend_opsU dm, .inl ⟨rfl, rfl, q2⟩⟩
      · rw [if_neg hf] at hk
        exact absurd rfl hk
  · obtain ⟨o1, o2⟩ := OwnG.chg h1 h2 h3 h4 h5 h6
    refine ⟨0, _, _, rfl, o1, o2, ?_⟩
    unfold DM.force at hk ⊢
    by_cases hd : dm.dead = true
    · rw [if_pos hd] at hk; exact absurd hk (show ¬ ((9 : Int) = 0) by decide)
    · rw [if_neg hd] at hk ⊢
      by_cases hf : dm.fuse = 0
      · rw [if_pos hf] at hk; exact absurd hk (show ¬ ((9 : Int) = 0) by decide)
      · rw [if_neg hf]
        exact ⟨q1, q3, q4, spend_opsU dm, .inr ⟨rfl, rfl, rfl, by rw [spend_deadN dm hf]; simpa using hd, by simpa using hd⟩⟩
end
end Mun
