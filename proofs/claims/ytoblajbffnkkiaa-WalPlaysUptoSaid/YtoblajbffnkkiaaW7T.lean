/- The law of chapter 7, WalPlays: each deed done to the log and to the model. -/
import Derived.Test.YtoblajbffnkkiaaW7S
set_option maxRecDepth 100000
set_option linter.unusedVariables false
set_option linter.unusedSimpArgs false
namespace Mun
open Go Go.RowKit
open Go.Proofs

/-- what both Reads tell -/
def RdRes (m : LM) (lsn : Nat) (r : PR) (n : Nat) (k : Int) : Prop :=
  (lsn = m.fin ∧ r = ⟨0, 0, 0, 0, [], []⟩ ∧ n = 0 ∧ k = 17) ∨ (∃ (i : Nat) (h : i < m.recs.length), m.base + m.off i = lsn ∧ r = m.recs[i] ∧ n = m.base + m.off (i + 1) ∧ k = 0) ∨ (lsn ≠ m.fin ∧ NoRec m lsn ∧ r = ⟨0, 0, 0, 0, [], []⟩ ∧ n = 0 ∧ k = 1)
theorem RdRes.uniq {m : LM} {lsn : Nat} {r r' : PR} {n n' : Nat} {k k' : Int} (h : RdRes m lsn r n k) (h' : RdRes m lsn r' n' k') : r = r' ∧ n = n' ∧ k = k' := by
  rcases h with ⟨h1, rfl, rfl, rfl⟩ | ⟨i, hi, h1, rfl, rfl, rfl⟩ | ⟨h1, h2, rfl, rfl, rfl⟩ <;> rcases h' with ⟨g1, rfl, rfl, rfl⟩ | ⟨j, hj, g1, rfl, rfl, rfl⟩ | ⟨g1, g2, rfl, rfl, rfl⟩
  · exact ⟨rfl, rfl, rfl⟩
  · have := m.off_lt hj; unfold LM.fin at h1; omega
  · exact absurd h1 g1
  · have := m.off_lt hi; unfold LM.fin at g1; omega
  · obtain rfl := m.off_inj hi hj (by omega)
    exact ⟨rfl, rfl, rfl⟩
  · exact absurd h1 (g2 i hi)
  · exact absurd g1 h1
  · exact absurd g1 (h2 j hj)
  · exact ⟨rfl, rfl, rfl⟩
/-- a record told by value, with what stands behind it -/
def RdTold (w : World) (m : LM) (lsn : Nat) (e : Ending) (w' : World) : Prop :=
  ∃ (r : PR) (x : RV) (n : Nat) (k : Int), e = .returned (.tuple #[rval r x, .int .u64 n, .int .i64 k]) ∧ RecAt (OldF w.heap.size) w' r x ∧ Below w.heap.size w w' ∧ RdRes m lsn r n k
theorem RdOut.told {w w' : World} {m : LM} {lsn : Nat} {e : Ending} (h : RdOut w m lsn e w') : RdTold w m lsn e w' := by
  rcases h with ⟨h1, rfl, hb⟩ | ⟨i, hi, h1, x, rfl, hrec, hb⟩ | ⟨h1, h2, rfl, hb⟩
  · exact ⟨⟨0, 0, 0, 0, [], []⟩, nx, 0, 17, rfl, ⟨RdB.nil _ _, ⟨RdV.nil _ _ _, by simp [nx]⟩, rfl, by simp, by simp, by simp⟩, hb, .inl ⟨h1, rfl, rfl, rfl⟩⟩
  · exact ⟨_, x, _, 0, rfl, hrec, hb, .inr (.inl ⟨i, hi, h1, rfl, rfl, rfl⟩)⟩
  · exact ⟨⟨0, 0, 0, 0, [], []⟩, nx, 0, 1, rfl, ⟨RdB.nil _ _, ⟨RdV.nil _ _ _, by simp [nx]⟩, rfl, by simp, by simp, by simp⟩, hb, .inr (.inr ⟨h1, h2, rfl, rfl, rfl⟩)⟩

theorem l_read_any {w : World} {D L : Nat} {m : LM} {bv sv : Value} (lsn : Nat) (h : LMem w D L m bv sv) : Calls Try.prog 19 #[.pointer (some ⟨L, 0, none⟩), .int .u64 lsn] w (RdOut w m lsn) := by
  by_cases h1 : lsn = m.fin
  · subst h1
    exact (l_read_end w D L m bv sv h).mono (fun e w' h2 => .inl ⟨rfl, h2⟩)
  · by_cases h2 : NoRec m lsn
    · exact (l_read_no w D L m bv sv lsn h h1 h2).mono (fun e w' h3 => .inr (.inr ⟨h1, h2, h3⟩))
    · unfold NoRec at h2
      simp only [Classical.not_forall, Classical.not_not] at h2
      obtain ⟨i, hi, rfl⟩ := h2
      exact (l_read_yes w D L m bv sv i h hi).mono (fun e w' h3 => .inr (.inl ⟨i, hi, rfl, h3⟩))

theorem no_can {m : LM} {lsn i : Nat} (h : NoCut m lsn) (hc : CanCut m lsn i) : False := by
  obtain ⟨c1, c2, c3, c4⟩ := hc
  have key : ∀ j, j ≤ m.recs.length → m.base + m.off j = lsn → m.off j = m.off i := fun j _ h => by omega
  rcases h with ⟨h1, h2⟩ | ⟨j, hj, hj2, h3⟩
  · rcases Nat.lt_or_ge i m.recs.length with hi | hi
    · exact h2 i hi c2
    · have : i = m.recs.length := by omega
      rw [this, LM.off_len] at c2
      exact h1 c2.symm
  · have := key j hj hj2
    rcases h3 with h3 | h3 <;> omega
theorem cut_uniq {m : LM} {lsn i j : Nat} (hi : CanCut m lsn i) (hj : CanCut m lsn j) : i = j := by
  have e : m.off i = m.off j := by have := hi.2.1; have := hj.2.1; omega
  rcases Nat.lt_trichotomy i j with h1 | h1 | h1
  · have := lenL_take_lt m.recs h1 (by have := hj.1; omega); unfold LM.off at e; omega
  · exact h1
  · have := lenL_take_lt m.recs h1 (by have := hi.1; omega); unfold LM.off at e; omega
theorem can_or (m : LM) (lsn : Nat) : NoCut m lsn ∨ ∃ i, CanCut m lsn i := by
  by_cases h : ∃ i, i ≤ m.recs.length ∧ m.base + m.off i = lsn
  · obtain ⟨i, h1, h2⟩ := h
    by_cases h3 : m.forced < m.off i ∨ (0 < m.check ∧ m.check < lsn)
    · exact .inl (.inr ⟨i, h1, h2, h3⟩)
    · exact .inr ⟨i, h1, h2, by omega, by omega⟩
  · refine .inl (.inl ⟨fun e => h ⟨m.recs.length, Nat.le_refl _, by rw [LM.off_len, e]; rfl⟩, fun i hi e => h ⟨i, Nat.le_of_lt hi, e⟩⟩)

section
variable {w0 wr : World} {D L b size n : Nat} {G G0 : Foot} {bw : Value} {dm : DM} {m : LM}

/-- what an Append is to tell, and how the log stands behind it -/
def ApWant (size : Nat) (m : LM) (r : PR) (nn : Nat) (k : Int) (m' : LM) : Prop :=
  (((k = 1 ∧ goodR r = false) ∨ (k = 2 ∧ goodR r = true ∧ 1048576 < (bodyR r).length) ∨ (k = 7 ∧ RecOk r ∧ size < lenL m.recs + recLen r)) ∧ nn = 0 ∧ m' = m) ∨ (k = 0 ∧ RecOk r ∧ lenL m.recs + recLen r ≤ size ∧ nn = m.fin ∧ m' = m.push r)

def ApX (w0 : World) (D L b : Nat) (G : Foot) (size n : Nat) (bw : Value) (m : LM) (r : PR) (wr : World) (e : Ending) (w' : World) : Prop :=
  ∃ (nn : Nat) (k : Int) (dm' : DM) (m' : LM), e = .returned (.tuple #[.int .u64 nn, .int .i64 k]) ∧ PlM w0 D L b G size bw dm' m' m w' ∧ KeepZ (uf (fun k => k = b) G) wr w' ∧ Dv size (n + 1) dm' m' ∧ ApWant size m r nn k m'

theorem PlS.append {r : PR} {x : RV} (h : PlS w0 D L b G size n bw dm m wr) (hn : n ≤ 1048576) (hr : RecAt G0 wr r x) (hsz : szR r ≤ 4194304) :
    Calls Try.prog 16 #[.pointer (some ⟨L, 0, none⟩), rval r x] wr (ApX w0 D L b G size n bw m r wr) := by
  refine (ownx_app h.mid.own hr hsz (by have := h.dv.ops; omega) (fun _ => h.dv.log)).mono ?_
  rintro e w' ⟨nn, k, dm', m', rfl, ho, hk, hc⟩
  have hm := h.mid.step ho hk
  rcases hc with ⟨h1, rfl, rfl, rfl⟩ | ⟨hok, ha, hc⟩
  · refine ⟨_, _, _, _, rfl, hm, hk, h.dv.more, .inl ⟨?_, rfl, rfl⟩⟩
    rcases h1 with h1 | h1
    · exact .inl h1
    · exact .inr (.inl h1)
  · rcases h.dv.app ha with ⟨rfl, rfl, h2⟩ | ⟨rfl, h2, h3⟩
    · rcases hc with ⟨-, rfl, rfl⟩ | ⟨h4, -, -⟩
      · exact ⟨_, _, _, _, rfl, hm, hk, h.dv.more, .inl ⟨.inr (.inr ⟨rfl, hok, h2⟩), rfl, rfl⟩⟩
      · exact absurd h4 (by decide)
    · rcases hc with ⟨h4, -, -⟩ | ⟨-, rfl, rfl⟩
      · exact absurd rfl h4
      · exact ⟨_, _, _, _, rfl, hm, hk, h3, .inr ⟨rfl, hok, h2, rfl, rfl⟩⟩

/-- and the model's Append tells the same -/
theorem ap_same {w w' : World} {r : PR} {nn : Nat} {k : Int} {m' : LM} {e : Ending} (hw : ApWant size m r nn k m') (h : RApOut w m bw size r e w') (hrd : RdB (fun k => ¬ G k) w bw m.bytes) :
    ∃ bw', e = .returned (.tuple #[.agg (rlC m' bw' size), .int .u64 nn, .int .i64 k]) ∧ NewRd G w w' bw' m'.bytes := by
  rcases h with ⟨k', rfl, hb, hk⟩ | ⟨hok, hf, bw', rfl, ho, hb⟩
  · rcases hw with ⟨hw, rfl, rfl⟩ | ⟨rfl, hok, hf, rfl, rfl⟩
    · have hkk : k' = k := by
        rcases hw with ⟨rfl, h1⟩ | ⟨rfl, h1, h2⟩ | ⟨rfl, h1, h2⟩ <;> rcases hk with ⟨rfl, g1⟩ | ⟨rfl, g1, g2⟩ | ⟨rfl, g1, g2⟩
        · rfl
        · rw [h1] at g1; cases g1
        · rw [g1.good] at h1; cases h1
        · rw [g1] at h1; cases h1
        · rfl
        · have := g1.big; omega
        · rw [h1.good] at g1; cases g1
        · have := h1.big; omega
        · rfl
      subst hkk
      exact ⟨bw, rfl, NewRd.same (hrd.below hb) hb⟩
    · exfalso
      rcases hk with ⟨-, g1⟩ | ⟨-, g1, g2⟩ | ⟨-, g1, g2⟩
      · rw [hok.good] at g1; cases g1
      · have := hok.big; omega
      · omega
  · rcases hw with ⟨hw, rfl, rfl⟩ | ⟨rfl, -, -, rfl, rfl⟩
    · exfalso
      rcases hw with ⟨-, h1⟩ | ⟨-, h1, h2⟩ | ⟨-, h1, h2⟩
      · rw [hok.good] at h1; cases h1
      · have := hok.big; omega
      · omega
    · exact ⟨bw', rfl, NewRd.own ho hb⟩

def FcX (w0 : World) (D L b : Nat) (G : Foot) (size n : Nat) (bw : Value) (m : LM) (lsn : Nat) (wr : World) (e : Ending) (w' : World) : Prop :=
  e = .returned (.int .i64 0) ∧ ∃ (dm' : DM) (m' : LM), PlM w0 D L b G size bw dm' m' m w' ∧ KeepZ (uf (fun k => k = b) G) wr w' ∧ Dv size (n + 1) dm' m' ∧ ((lsn < m.base + m.forced ∧ m' = m) ∨ (m.base + m.forced ≤ lsn ∧ m' = m.done))
theorem PlS.force (h : PlS w0 D L b G size n bw dm m wr) (hn : n ≤ 1048576) (lsn : Nat) :
    Calls Try.prog 18 #[.pointer (some ⟨L, 0, none⟩), .int .u64 lsn] wr (FcX w0 D L b G size n bw m lsn wr) := by
  rcases Nat.lt_or_ge lsn (m.base + m.forced) with hl | hl
  · refine (ownx_quiet h.mid.own (fun bv sv hm => l_force_no wr D L m bv sv lsn hm hl)).mono ?_
    rintro e w' ⟨rfl, ho, hk⟩
    exact ⟨rfl, dm, m, h.mid.step ho hk, hk, h.dv.more, .inl ⟨hl, rfl⟩⟩
  · refine (ownx_force h.mid.own (by have := h.dv.ops; omega) hl).mono ?_
    rintro e w' ⟨k, dm', m', rfl, ho, hk, hf, hc⟩
    obtain ⟨rfl, hdv⟩ := h.dv.frc hf
    rcases hc with ⟨h1, -⟩ | ⟨-, rfl⟩
    · exact absurd rfl h1
    · exact ⟨rfl, dm', _, h.mid.step ho hk, hk, hdv, .inr ⟨hl, rfl⟩⟩

def ReX (w0 : World) (D L b : Nat) (G : Foot) (size n : Nat) (bw : Value) (dm : DM) (m : LM) (lsn : Nat) (wr : World) (e : Ending) (w' : World) : Prop :=
  RdTold wr m lsn e w' ∧ PlS w0 D L b G size (n + 1) bw dm m w'
theorem PlS.read (h : PlS w0 D L b G size n bw dm m wr) (lsn : Nat) :
    Calls Try.prog 19 #[.pointer (some ⟨L, 0, none⟩), .int .u64 lsn] wr (ReX w0 D L b G size n bw dm m lsn wr) := by
  obtain ⟨F, bv, sv, h1, -, -, -⟩ := h.mid.own
  refine (l_read_any lsn h1.mem).mono ?_
  intro e w' h2
  have h3 := h2.told
  obtain ⟨_, _, _, _, _, _, hb, _⟩ := id h3
  exact ⟨h3, (h.below hb).more⟩

def CtX (w0 : World) (D L b : Nat) (G : Foot) (size n : Nat) (bw : Value) (m : LM) (lsn : Nat) (wr : World) (e : Ending) (w' : World) : Prop :=
  ∃ (k : Int) (dm' : DM) (m' : LM), e = .returned (.int .i64 k) ∧ PlM w0 D L b G size bw dm' m' m w' ∧ KeepZ (uf (fun k => k = b) G) wr w' ∧ Dv size (n + 1) dm' m' ∧ ((k = 1 ∧ NoCut m lsn ∧ m' = m) ∨ (k = 0 ∧ ∃ i, CanCut m lsn i ∧ m' = m.cut i))
theorem PlS.cut (h : PlS w0 D L b G size n bw dm m wr) (hn : n ≤ 1048576) (lsn : Nat) :
    Calls Try.prog 24 #[.pointer (some ⟨L, 0, none⟩), .int .u64 lsn] wr (CtX w0 D L b G size n bw m lsn wr) := by
  have hops : dm.ops < 4398046511104 := by have := h.dv.ops; omega
  rcases can_or m lsn with hno | ⟨i, hc⟩
  · have hq : ∀ bv sv, LMem wr D L m bv sv → Calls Try.prog 24 #[.pointer (some ⟨L, 0, none⟩), .int .u64 lsn] wr (NoOut wr) := fun bv sv hm => by
      rcases hno with ⟨h1, h2⟩ | ⟨i, hi, rfl, h3⟩
      · exact l_cut_none hm lsn h1 h2
      · by_cases hf : m.forced < m.off i
        · rcases Nat.lt_or_ge i m.recs.length with h4 | h4
          · exact l_cut_late hm i h4 hf
          · exact l_cut_lend hm i (by omega) hf
        · have h5 : 0 < m.check ∧ m.check < m.base + m.off i := by rcases h3 with h3 | h3; exact absurd h3 hf; exact h3
          rcases Nat.lt_or_ge i m.recs.length with h4 | h4
          · exact l_cut_chk hm i h4 (by omega) h5
          · exact l_cut_cend hm i (by omega) (by omega) h5
    refine (ownx_quiet h.mid.own hq).mono ?_
    rintro e w' ⟨rfl, ho, hk⟩
    exact ⟨1, dm, m, rfl, h.mid.step ho hk, hk, h.dv.more, .inl ⟨rfl, hno, rfl⟩⟩
  · have hbb : m.base + m.off i < 4611686018427387904 := by
      have h1 := h.dv.fin
      have h2 : m.off i ≤ lenL m.recs := lenL_take_le _ _
      unfold LM.fin at h1
      omega
    refine (ownx_cut (i := i) h.mid.own hc.2.1 (fun F bv sv hl => ?_)).mono ?_
    · rcases Nat.lt_or_ge i m.recs.length with h4 | h4
      · rcases Nat.eq_zero_or_pos m.check with h5 | h5
        · exact l_cut_has0 wr D L F dm m bv sv i hl hops h4 hc.2.2.1 h5 hbb
        · exact l_cut_hasC wr D L F dm m bv sv i hl hops h4 hc.2.2.1 ⟨by have := hc.2.1; have := hc.2.2.2; omega, h5⟩ hbb
      · have h6 : i = m.recs.length := by have := hc.1; omega
        rcases Nat.eq_zero_or_pos m.check with h5 | h5
        · exact l_cut_end0 wr D L F dm m bv sv i hl hops h6 hc.2.2.1 h5 hbb
        · exact l_cut_endC wr D L F dm m bv sv i hl hops h6 hc.2.2.1 ⟨by have := hc.2.1; have := hc.2.2.2; omega, h5⟩ hbb
    · rintro e w' ⟨k, dm', m', rfl, ho, hk, hcut, hcc⟩
      obtain ⟨rfl, hdv⟩ := h.dv.cutd hc.2.2.1 hcut
      rcases hcc with ⟨h1, -⟩ | ⟨-, rfl⟩
      · exact absurd rfl h1
      · exact ⟨0, dm', _, rfl, h.mid.step ho hk, hk, hdv, .inr ⟨rfl, i, hc, rfl⟩⟩
theorem ct_same {w w' : World} {k : Int} {lsn : Nat} {m' : LM} {e : Ending} (hw : (k = 1 ∧ NoCut m lsn ∧ m' = m) ∨ (k = 0 ∧ ∃ i, CanCut m lsn i ∧ m' = m.cut i)) (h : RCutOut (fun k => ¬ G k) w m bw size lsn e w') (hrd : RdB (fun k => ¬ G k) w bw m.bytes) :
    ∃ bw', e = .returned (.tuple #[.agg (rlC m' bw' size), .int .i64 k]) ∧ NewRd G w w' bw' m'.bytes := by
  rcases h with ⟨h1, rfl, hb⟩ | ⟨i, hi, bw', rfl, hr, hb⟩
  · rcases hw with ⟨rfl, -, rfl⟩ | ⟨-, i, hi, -⟩
    · exact ⟨bw, rfl, NewRd.same (hrd.below hb) hb⟩
    · exact (no_can h1 hi).elim
  · rcases hw with ⟨-, h1, -⟩ | ⟨rfl, j, hj, rfl⟩
    · exact (no_can h1 hi).elim
    · obtain rfl := cut_uniq hi hj
      exact ⟨bw', rfl, NewRd.same hr hb⟩

def CkX (w0 : World) (D L b : Nat) (G : Foot) (size n : Nat) (bw : Value) (m : LM) (lsn : Nat) (wr : World) (e : Ending) (w' : World) : Prop :=
  ∃ (k : Int) (dm' : DM) (m' : LM), e = .returned (.int .i64 k) ∧ PlM w0 D L b G size bw dm' m' m w' ∧ KeepZ (uf (fun k => k = b) G) wr w' ∧ Dv size (n + 1) dm' m' ∧ ((k = 1 ∧ ¬ CanChk m lsn ∧ m' = m) ∨ (k = 0 ∧ CanChk m lsn ∧ m' = m.chk lsn))
theorem PlS.check (h : PlS w0 D L b G size n bw dm m wr) (hn : n ≤ 1048576) (lsn : Nat) :
    Calls Try.prog 28 #[.pointer (some ⟨L, 0, none⟩), .int .u64 lsn] wr (CkX w0 D L b G size n bw m lsn wr) := by
  have hops : dm.ops < 4398046511104 := by have := h.dv.ops; omega
  by_cases hc : CanChk m lsn
  · have hc0 := hc
    obtain ⟨⟨i, hi, hq⟩, hf⟩ := hc
    obtain ⟨F, bv, sv, h1, h2, h3, h4⟩ := h.mid.own
    refine (l_check_yes wr D L F dm m bv sv i lsn h1 hops hi hq (by omega)).mono ?_
    rintro e w' (⟨hk, rfl, F', h5, h6⟩ | ⟨hk, rfl, F', h5, h6⟩)
    · obtain ⟨h7, -⟩ := h.dv.chkd (c := lsn) (k := (dm.setMark (markB m.base lsn)).2) (dm' := (dm.setMark (markB m.base lsn)).1) rfl
      exact absurd h7 hk
    · obtain ⟨o1, o2⟩ := OwnG.chg h1 h2 h3 h4 h5 h6
      obtain ⟨-, hdv⟩ := h.dv.chkd (c := lsn) (k := (dm.setMark (markB m.base lsn)).2) (dm' := (dm.setMark (markB m.base lsn)).1) rfl
      exact ⟨0, _, _, rfl, h.mid.step o1 o2, o2, hdv, .inr ⟨rfl, hc0, rfl⟩⟩
  · have hq : ∀ bv sv, LMem wr D L m bv sv → Calls Try.prog 28 #[.pointer (some ⟨L, 0, none⟩), .int .u64 lsn] wr (NoOut wr) := fun bv sv hm => by
      by_cases h2 : NoRec m lsn
      · exact l_check_none hm lsn h2
      · unfold NoRec at h2
        simp only [Classical.not_forall, Classical.not_not] at h2
        obtain ⟨i, hi, rfl⟩ := h2
        refine l_check_late hm i hi ?_
        rcases Nat.lt_or_ge (m.off i) m.forced with h3 | h3
        · exact absurd ⟨⟨i, hi, rfl⟩, by omega⟩ hc
        · exact h3
    refine (ownx_quiet h.mid.own hq).mono ?_
    rintro e w' ⟨rfl, ho, hk⟩
    exact ⟨1, dm, m, rfl, h.mid.step ho hk, hk, h.dv.more, .inl ⟨rfl, hc, rfl⟩⟩
theorem ck_same {w w' : World} {k : Int} {lsn : Nat} {m' : LM} {e : Ending} (hw : (k = 1 ∧ ¬ CanChk m lsn ∧ m' = m) ∨ (k = 0 ∧ CanChk m lsn ∧ m' = m.chk lsn)) (h : RChkOut w m bw size lsn e w') (hrd : RdB (fun k => ¬ G k) w bw m.bytes) :
    e = .returned (.tuple #[.agg (rlC m' bw size), .int .i64 k]) ∧ NewRd G w w' bw m'.bytes := by
  rcases h with ⟨h1, rfl, hb⟩ | ⟨h1, rfl, hb⟩
  · rcases hw with ⟨rfl, -, rfl⟩ | ⟨-, h2, -⟩
    · exact ⟨rfl, NewRd.same (hrd.below hb) hb⟩
    · exact absurd h2 h1
  · rcases hw with ⟨-, h2, -⟩ | ⟨rfl, -, rfl⟩
    · exact absurd h1 h2
    · exact ⟨rfl, NewRd.same (hrd.below hb) hb⟩
end
end Mun
