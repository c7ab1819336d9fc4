/- Plain facts of WalFull: a log that holds one record k times; a law's own log. -/
import Derived.Test.YtoblajbffnkkiaaWalW
import Derived.Test.YtoblajbffnkkiaaW7D
import Derived.Test.YtoblajbffnkkiaaLogH
import Derived.Test.YtoblajbffnkkiaaBits
set_option maxRecDepth 100000
set_option linter.unusedVariables false
set_option linter.unusedSimpArgs false
namespace Mun
open Go Go.RowKit
open Go.Proofs

theorem and_2047 (n : Int) : ∃ q : Nat, bits .and .i64 n 2047 = (q : Int) ∧ q < 2048 := by
  refine ⟨(n % 2048).toNat, ?_, by omega⟩
  rw [and_low64 n 11 (by decide) 2047 (by decide) (by decide)]
  show n % 2048 = _
  omega

def flm (k : Nat) (r : PR) : LM := ⟨1, List.replicate k r, 0, 0⟩
def fdm (s k : Nat) (r : PR) : DM := { DM.new 1 s with ops := k, log := encL 1 (List.replicate k r) }

theorem lenL_rep (k : Nat) (r : PR) : lenL (List.replicate k r) = k * recLen r := by
  induction k with
  | zero => simp [lenL]
  | succ k ih => rw [List.replicate_succ]; simp only [lenL, ih]; rw [Nat.succ_mul]; omega
theorem flm_push (k : Nat) (r : PR) : (flm k r).push r = flm (k + 1) r := by
  unfold LM.push flm
  rw [List.replicate_succ']
theorem flm_fin (k : Nat) (r : PR) : (flm k r).fin = 1 + k * recLen r := by
  show 1 + lenL (List.replicate k r) = _
  rw [lenL_rep]
theorem flm_bytes (k : Nat) (r : PR) : (flm k r).bytes = encL 1 (List.replicate k r) := rfl
theorem fdm_ok {s k : Nat} {r : PR} (h : k * recLen r + recLen r ≤ s) : (fdm s k r).append (recB r (flm k r).fin) = (fdm s (k + 1) r, 0) := by
  have h2 : ¬ (fdm s k r).room < (fdm s k r).log.length + (recB r (flm k r).fin).length := by
    show ¬ s < (encL 1 (List.replicate k r)).length + _
    rw [encL_length, lenL_rep, recB_len]; omega
  have h3 : ¬ (fdm s k r).fuse = 0 := by simp [fdm, DM.new]
  unfold DM.append
  rw [show (fdm s k r).dead = false from rfl, if_neg (by simp), if_neg h2, if_neg h3]
  have e : encL 1 (List.replicate (k + 1) r) = encL 1 (List.replicate k r) ++ recB r (flm k r).fin := by
    have := (flm k r).push_bytes r
    rw [flm_push] at this
    exact this
  simp [DM.spend, fdm, DM.new, e]
theorem fdm_no {s k : Nat} {r : PR} (h : s < k * recLen r + recLen r) : (fdm s k r).append (recB r (flm k r).fin) = (fdm s k r, 7) := by
  have h2 : (fdm s k r).room < (fdm s k r).log.length + (recB r (flm k r).fin).length := by
    show s < (encL 1 (List.replicate k r)).length + _
    rw [encL_length, lenL_rep, recB_len]; omega
  unfold DM.append
  rw [show (fdm s k r).dead = false from rfl, if_neg (by simp), if_pos h2]
def fdm2 (s k : Nat) (r : PR) : DM := { fdm s k r with ops := k + 1, certain := k * recLen r }
theorem fdm_force (s k : Nat) (r : PR) : (fdm s k r).force = (fdm2 s k r, 0) := by
  have h3 : ¬ (fdm s k r).fuse = 0 := by simp [fdm, DM.new]
  unfold DM.force
  rw [show (fdm s k r).dead = false from rfl, if_neg (by simp), if_neg h3]
  have e : (fdm s k r).log.length = k * recLen r := by show (encL 1 _).length = _; rw [encL_length, lenL_rep]
  rw [e]
  simp [DM.spend, fdm2, fdm, DM.new]
def fdm3 (s k : Nat) (r : PR) : DM := { DM.new 1 s with ops := k + 2, mark := markB (1 + k * recLen r) 0 }
theorem fdm2_cut (s k : Nat) (r : PR) : (fdm2 s k r).cut ((k * recLen r : Nat) : Int) (markB (1 + k * recLen r) 0) = (fdm3 s k r, 0) := by
  have h3 : ¬ (fdm2 s k r).fuse = 0 := by simp [fdm2, fdm, DM.new]
  have h2 : ¬ (((k * recLen r : Nat) : Int) < 0 ∨ ((fdm2 s k r).certain : Int) < ((k * recLen r : Nat) : Int) ∨ 64 < (markB (1 + k * recLen r) 0).length) := by
    have e1 : (fdm2 s k r).certain = k * recLen r := rfl
    have e2 : (markB (1 + k * recLen r) 0).length = 16 := by simp [markB, leBytes_length]
    rw [e1, e2]; omega
  unfold DM.cut
  rw [show (fdm2 s k r).dead = false from rfl, if_neg (by simp), if_neg h2, if_neg h3, Int.toNat_natCast]
  have e : (fdm2 s k r).log.length = k * recLen r := by show (encL 1 _).length = _; rw [encL_length, lenL_rep]
  have e9 : (fdm2 s k r).log.drop (k * recLen r) = [] := List.drop_of_length_le (by omega)
  have e8 : (fdm2 s k r).certain - k * recLen r = 0 := Nat.sub_self _
  rw [e9, e8]
  simp [DM.spend, fdm3, fdm2, fdm, DM.new]
theorem fdm3_ok {s k : Nat} {r : PR} (b : Nat) (h : recLen r ≤ s) : ((fdm3 s k r).append (recB r b)).2 = 0 := by
  have h2 : ¬ (fdm3 s k r).room < (fdm3 s k r).log.length + (recB r b).length := by
    show ¬ s < 0 + _
    rw [recB_len]; omega
  have h3 : ¬ (fdm3 s k r).fuse = 0 := by simp [fdm3, DM.new]
  unfold DM.append
  rw [show (fdm3 s k r).dead = false from rfl, if_neg (by simp), if_neg h2, if_neg h3]
/-- a log of a law, in its own new memory -/
def Own (w3 : World) (D L : Nat) (dm : DM) (m : LM) (wr : World) : Prop :=
  ∃ F bv sv, LogAt wr D L F dm m bv sv ∧ Below w3.heap.size w3 wr ∧ ∀ k, uf F (lfoot L bv sv) k → w3.heap.size ≤ k

section
variable {w3 wr : World} {D L : Nat} {dm : DM} {m : LM}
theorem Own.below (h : Own w3 D L dm m wr) : Below w3.heap.size w3 wr := by obtain ⟨_, _, _, -, h, -⟩ := h; exact h
theorem Own.drewN (h : Own w3 D L dm m wr) (k : Nat) : Own w3 D L dm m (wr.drewN k) := by
  obtain ⟨F, bv, sv, h1, h2, h3⟩ := h
  exact ⟨F, bv, sv, h1.drewN k, below_drewN h2 k, h3⟩
theorem Own.chg {w' : World} {F F' : Foot} {bv sv bv' sv' : Value} {dm' : DM} {m' : LM} (h2 : Below w3.heap.size w3 wr) (h3 : ∀ k, uf F (lfoot L bv sv) k → w3.heap.size ≤ k) (h1 : LogAt w' D L F' dm' m' bv' sv')
    (hc : Chg (uf F (lfoot L bv sv)) (uf F' (lfoot L bv' sv')) wr w') : Own w3 D L dm' m' w' :=
  ⟨F', bv', sv', h1, h2.trans (hc.below h2.size (fun k hk h => by have := h3 k h; omega)), fun k hk => by
    rcases hc.foot k hk with h4 | h4
    · exact h3 k h4
    · have := h2.size; omega⟩

theorem own_end (h : Own w3 D L dm m wr) : Calls Try.prog 15 #[.pointer (some ⟨L, 0, none⟩)] wr fun e w' => e = .returned (.int .u64 m.fin) ∧ Own w3 D L dm m w' := by
  have h0 := h
  obtain ⟨F, bv, sv, h1, h2, h3⟩ := h
  refine (l_end h1.mem).mono ?_
  rintro e w' ⟨rfl, k, rfl⟩
  exact ⟨rfl, h0.drewN k⟩

theorem own_app {G : Foot} {r : PR} {x : RV} {dm' : DM} (h : Own w3 D L dm m wr) (hr : RecAt G wr r x) (hok : RecOk r) (hsz : szR r ≤ 4194304) (ho : dm.ops < 4398046511104) (hlog : dm.dead = false → dm.log = m.bytes) (hap : dm.append (recB r m.fin) = (dm', 0)) :
    Calls Try.prog 16 #[.pointer (some ⟨L, 0, none⟩), rval r x] wr fun e w' => e = .returned (.tuple #[.int .u64 m.fin, .int .i64 0]) ∧ Own w3 D L dm' (m.push r) w' := by
  obtain ⟨F, bv, sv, h1, h2, h3⟩ := h
  refine (app_dev wr D L F dm m bv sv r x h1 hr hok hsz ho hlog).mono ?_
  rintro e w' (⟨h4, _⟩ | ⟨_, rfl, F', bv', sv', h5, h6⟩)
  · rw [hap] at h4; exact absurd rfl h4
  · rw [hap] at h5
    exact ⟨rfl, Own.chg h2 h3 h5 h6⟩

theorem own_app_no {G : Foot} {r : PR} {x : RV} {dm' : DM} {kk : Int} (h : Own w3 D L dm m wr) (hr : RecAt G wr r x) (hok : RecOk r) (hsz : szR r ≤ 4194304) (ho : dm.ops < 4398046511104) (hlog : dm.dead = false → dm.log = m.bytes) (hap : dm.append (recB r m.fin) = (dm', kk)) (hk : kk ≠ 0) :
    Calls Try.prog 16 #[.pointer (some ⟨L, 0, none⟩), rval r x] wr fun e w' => e = .returned (.tuple #[.int .u64 0, .int .i64 kk]) ∧ Own w3 D L dm' m w' := by
  obtain ⟨F, bv, sv, h1, h2, h3⟩ := h
  refine (app_dev wr D L F dm m bv sv r x h1 hr hok hsz ho hlog).mono ?_
  rintro e w' (⟨h4, he, F', h5, h6⟩ | ⟨h4, _⟩)
  · rw [hap] at he h5
    exact ⟨he, Own.chg h2 h3 h5 h6⟩
  · rw [hap] at h4; exact absurd h4 hk

theorem own_force {dm' : DM} {lsn : Nat} (h : Own w3 D L dm m wr) (ho : dm.ops < 4398046511104) (hl : m.base + m.forced ≤ lsn) (hf : dm.force = (dm', 0)) :
    Calls Try.prog 18 #[.pointer (some ⟨L, 0, none⟩), .int .u64 lsn] wr fun e w' => e = .returned (.int .i64 0) ∧ Own w3 D L dm' m.done w' := by
  obtain ⟨F, bv, sv, h1, h2, h3⟩ := h
  refine (l_force wr D L F dm m bv sv lsn h1 ho hl).mono ?_
  rintro e w' (⟨h4, _⟩ | ⟨_, rfl, F', h5, h6⟩)
  · rw [hf] at h4; exact absurd rfl h4
  · rw [hf] at h5
    exact ⟨rfl, Own.chg h2 h3 h5 h6⟩

theorem own_cut_end {dm' : DM} {i o q : Nat} (h : Own w3 D L dm m wr) (ho : dm.ops < 4398046511104) (hi : i = m.recs.length) (hof : m.off i = o) (hq : m.base + o = q) (hf : o ≤ m.forced) (hck : m.check = 0) (hb : q < 4611686018427387904) (hc : dm.cut o (markB q 0) = (dm', 0)) :
    Calls Try.prog 24 #[.pointer (some ⟨L, 0, none⟩), .int .u64 q] wr fun e w' => e = .returned (.int .i64 0) ∧ Own w3 D L dm' (m.cut i) w' := by
  obtain ⟨F, bv, sv, h1, h2, h3⟩ := h
  subst hq
  subst hof
  refine (l_cut_end0 wr D L F dm m bv sv i h1 ho hi hf hck hb).mono ?_
  rw [← hck] at hc
  rintro e w' (⟨h4, _⟩ | ⟨_, rfl, F', bv', sv', h5, h6⟩)
  · rw [hc] at h4; exact absurd rfl h4
  · rw [hc] at h5
    exact ⟨rfl, Own.chg h2 h3 h5 h6⟩
end
end Mun
