/- A law's own log: what its device says of each step, exactly. -/
import Derived.Test.YtoblajbffnkkiaaOwnG
import Derived.Test.YtoblajbffnkkiaaMgG
set_option maxRecDepth 100000
set_option linter.unusedVariables false
set_option linter.unusedSimpArgs false
namespace Mun
open Go Go.RowKit
open Go.Proofs

section
variable {w0 wr w' : World} {D L : Nat} {dm dm' : DM} {m m' : LM} {Z Z' : Foot}

def AppX (w0 : World) (D L : Nat) (dm : DM) (m : LM) (Z : Foot) (r : PR) (wr : World) (e : Ending) (w' : World) : Prop :=
  ∃ (n : Nat) (k : Int) (dm' : DM) (m' : LM), e = .returned (.tuple #[.int .u64 n, .int .i64 k]) ∧ OwnG w0 D L dm' m' Z w' ∧ KeepZ Z wr w' ∧
    ((((k = 1 ∧ goodR r = false) ∨ (k = 2 ∧ goodR r = true ∧ 1048576 < (bodyR r).length)) ∧ n = 0 ∧ dm' = dm ∧ m' = m) ∨
     (RecOk r ∧ dm.append (recB r m.fin) = (dm', k) ∧ ((k ≠ 0 ∧ n = 0 ∧ m' = m) ∨ (k = 0 ∧ n = m.fin ∧ m' = m.push r))))

theorem ownx_app {G : Foot} {r : PR} {x : RV} (h : OwnG w0 D L dm m Z wr) (hr : RecAt G wr r x) (hsz : szR r ≤ 4194304) (ho : dm.ops < 4398046511104) (hlog : dm.dead = false → dm.log = m.bytes) :
    Calls Try.prog 16 #[.pointer (some ⟨L, 0, none⟩), rval r x] wr (AppX w0 D L dm m Z r wr) := by
  have h0 := h
  have hlt := fun k hk => h0.lt k hk
  obtain ⟨F, bv, sv, h1, h2, h3, h4⟩ := h
  cases hg : goodR r with
  | false =>
    refine (app_no wr D L F dm m bv sv r x h1 hr hg).mono ?_
    rintro e w' ⟨rfl, h5, hb⟩
    exact ⟨0, 1, dm, m, rfl, h0.grow hb, KeepZ.of_below hb hlt, .inl ⟨.inl ⟨rfl, hg⟩, rfl, rfl, rfl⟩⟩
  | true =>
    by_cases hbig : (bodyR r).length ≤ 1048576
    · have hok : RecOk r := ⟨hg, hbig, hr.tx, hr.prev, hr.next⟩
      refine (app_dev wr D L F dm m bv sv r x h1 hr hok hsz ho hlog).mono ?_
      rintro e w' (⟨hk, rfl, F', h5, h6⟩ | ⟨hk, rfl, F', bv', sv', h5, h6⟩)
      · obtain ⟨o1, o2⟩ := OwnG.chg h1 h2 h3 h4 h5 h6
        exact ⟨0, _, _, _, rfl, o1, o2, .inr ⟨hok, rfl, .inl ⟨hk, rfl, rfl⟩⟩⟩
      · obtain ⟨o1, o2⟩ := OwnG.chg h1 h2 h3 h4 h5 h6
        exact ⟨m.fin, 0, _, _, rfl, o1, o2, .inr ⟨hok, Prod.ext rfl hk, .inr ⟨rfl, rfl, rfl⟩⟩⟩
    · refine (app_big wr D L F dm m bv sv r x h1 hr hg hsz (by omega)).mono ?_
      rintro e w' ⟨rfl, h5, hb⟩
      exact ⟨0, 2, dm, m, rfl, h0.grow hb, KeepZ.of_below hb hlt, .inl ⟨.inr ⟨rfl, hg, by omega⟩, rfl, rfl, rfl⟩⟩

def ForceX (w0 : World) (D L : Nat) (dm : DM) (m : LM) (Z : Foot) (wr : World) (e : Ending) (w' : World) : Prop :=
  ∃ (k : Int) (dm' : DM) (m' : LM), e = .returned (.int .i64 k) ∧ OwnG w0 D L dm' m' Z w' ∧ KeepZ Z wr w' ∧ dm.force = (dm', k) ∧ ((k ≠ 0 ∧ m' = m) ∨ (k = 0 ∧ m' = m.done))

theorem ownx_force {lsn : Nat} (h : OwnG w0 D L dm m Z wr) (ho : dm.ops < 4398046511104) (hl : m.base + m.forced ≤ lsn) :
    Calls Try.prog 18 #[.pointer (some ⟨L, 0, none⟩), .int .u64 lsn] wr (ForceX w0 D L dm m Z wr) := by
  obtain ⟨F, bv, sv, h1, h2, h3, h4⟩ := h
  refine (l_force wr D L F dm m bv sv lsn h1 ho hl).mono ?_
  rintro e w' (⟨hk, rfl, F', h5, h6⟩ | ⟨hk, rfl, F', h5, h6⟩)
  · obtain ⟨o1, o2⟩ := OwnG.chg h1 h2 h3 h4 h5 h6
    exact ⟨_, _, _, rfl, o1, o2, rfl, .inl ⟨hk, rfl⟩⟩
  · obtain ⟨o1, o2⟩ := OwnG.chg h1 h2 h3 h4 h5 h6
    exact ⟨0, _, _, rfl, o1, o2, Prod.ext rfl hk, .inr ⟨rfl, rfl⟩⟩

theorem ownx_quiet {f : FuncId} {args : Array Value} {v : Value} (h : OwnG w0 D L dm m Z wr) (hq : ∀ bv sv, LMem wr D L m bv sv → Calls Try.prog f args wr fun e w' => e = .returned v ∧ ∃ k, w' = wr.drewN k) :
    Calls Try.prog f args wr fun e w' => e = .returned v ∧ OwnG w0 D L dm m Z w' ∧ KeepZ Z wr w' := by
  have h0 := h
  obtain ⟨F, bv, sv, h1, h2, h3⟩ := h
  refine (hq bv sv h1.mem).mono ?_
  rintro e w' ⟨rfl, k, rfl⟩
  exact ⟨rfl, h0.drewN k, Nat.le_refl _, fun _ _ => rfl⟩

def CutX (w0 : World) (D L : Nat) (dm : DM) (m : LM) (Z : Foot) (i : Nat) (wr : World) (e : Ending) (w' : World) : Prop :=
  ∃ (k : Int) (dm' : DM) (m' : LM), e = .returned (.int .i64 k) ∧ OwnG w0 D L dm' m' Z w' ∧ KeepZ Z wr w' ∧ dm.cut (m.off i) (markB (m.base + m.off i) m.check) = (dm', k) ∧ ((k ≠ 0 ∧ m' = m) ∨ (k = 0 ∧ m' = m.cut i))

theorem ownx_cut {i lsn : Nat} (h : OwnG w0 D L dm m Z wr) (he : m.base + m.off i = lsn)
    (hc : ∀ F bv sv, LogAt wr D L Z F dm m bv sv → Calls Try.prog 24 #[.pointer (some ⟨L, 0, none⟩), .int .u64 (m.base + m.off i : Nat)] wr (CutOut wr D L Z F dm m bv sv i)) :
    Calls Try.prog 24 #[.pointer (some ⟨L, 0, none⟩), .int .u64 lsn] wr (CutX w0 D L dm m Z i wr) := by
  obtain ⟨F, bv, sv, h1, h2, h3, h4⟩ := h
  subst he
  refine (hc F bv sv h1).mono ?_
  rintro e w' (⟨hk, rfl, F', h5, h6⟩ | ⟨hk, rfl, F', bv', sv', h5, h6⟩)
  · obtain ⟨o1, o2⟩ := OwnG.chg h1 h2 h3 h4 h5 h6
    exact ⟨_, _, _, rfl, o1, o2, rfl, .inl ⟨hk, rfl⟩⟩
  · obtain ⟨o1, o2⟩ := OwnG.chg h1 h2 h3 h4 h5 h6
    exact ⟨0, _, _, rfl, o1, o2, Prod.ext rfl hk, .inr ⟨rfl, rfl⟩⟩
end

/-- a device that no fuse ends -/
def Live (dm : DM) : Prop := dm.dead = false ∧ dm.fuse = -1
theorem live_spend {dm : DM} (h : Live dm) : dm.spend = { dm with ops := dm.ops + 1 } := by
  unfold DM.spend
  rw [if_neg (by rw [h.2]; decide), if_neg (by rw [h.2]; decide)]
theorem live_append {dm : DM} (h : Live dm) (b : Bytes) : dm.append b = if dm.room < dm.log.length + b.length then (dm, 7) else ({ dm with ops := dm.ops + 1, log := dm.log ++ b }, 0) := by
  unfold DM.append
  rw [if_neg (by rw [h.1]; decide), if_neg (c := dm.fuse = 0) (by rw [h.2]; decide), live_spend h]
theorem live_force {dm : DM} (h : Live dm) : dm.force = ({ dm with ops := dm.ops + 1, certain := dm.log.length }, 0) := by
  unfold DM.force
  rw [if_neg (by rw [h.1]; decide), if_neg (by rw [h.2]; decide), live_spend h]
theorem live_cut {dm : DM} (h : Live dm) {n : Nat} {b : Bytes} (hn : n ≤ dm.certain) (hb : b.length ≤ 64) : dm.cut n b = ({ dm with ops := dm.ops + 1, log := dm.log.drop n, certain := dm.certain - n, mark := b }, 0) := by
  unfold DM.cut
  rw [if_neg (by rw [h.1]; decide), if_neg (by omega), if_neg (by rw [h.2]; decide), live_spend h]
  simp
end Mun
