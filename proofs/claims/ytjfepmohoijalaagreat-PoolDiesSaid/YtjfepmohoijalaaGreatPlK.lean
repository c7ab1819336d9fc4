/- Append, End, Forced of the log beside a pool; a device read. -/
import Derived.Test.YtjfepmohoijalaaGreatPlJ
import Derived.Test.YtjfepmohoijalaaGreatMgL
set_option maxRecDepth 100000
set_option linter.unusedVariables false
set_option linter.unusedSimpArgs false
namespace Mun
open Go Go.RowKit
open Go.Proofs

/-- a record of kind 1 laid behind the log -/
def PX.app (s : PX) : PX × Int :=
  if (s.dm.append (recB r1 s.lm.fin)).2 ≠ 0 then ({ s with dm := (s.dm.append (recB r1 s.lm.fin)).1 }, (s.dm.append (recB r1 s.lm.fin)).2)
  else ({ s with dm := (s.dm.append (recB r1 s.lm.fin)).1, lm := s.lm.push r1 }, 0)

def PX.LogOk (s : PX) : Prop := s.dm.dead = false → s.dm.log = s.lm.bytes

section
variable {w : World} {D L Pb : Nat} {s : PX} {x : PZ}

theorem app_pl (h : PL w D L Pb s x) (ho : s.dm.ops < 4398046511104) (hlog : s.LogOk) :
    Calls Tryz.prog 19 #[.pointer (some ⟨L, 0, none⟩), .agg #[.int .i64 1, .int .u64 0, .int .u64 0, .int .u64 0, .slice none 0 0, .slice none 0 0]] w fun e w' =>
      e = .returned (.tuple #[.int .u64 (if s.app.2 = 0 then s.lm.fin else 0 : Nat), .int .i64 s.app.2]) ∧ PTo w D L Pb x s.app.1 x.v w' := by
  refine (app_dev (G := NoF) w D L x.Fd s.dm s.lm x.bv x.sv r1 nx h.log (r1_at NoF w) r1_ok (by decide) ho hlog).mono ?_
  rintro e w' (⟨h4, rfl, F', h5, h6⟩ | ⟨h4, rfl, F', bv', sv', h5, h6⟩)
  · obtain ⟨h7, h8⟩ := h.log1 h5 h6
    have e : s.app = ({ s with dm := (s.dm.append (recB r1 s.lm.fin)).1 }, (s.dm.append (recB r1 s.lm.fin)).2) := by unfold PX.app; rw [if_pos h4]
    rw [e]
    exact ⟨by simp only; rw [if_neg h4]; rfl, { x with Fd := F' }, rfl, rfl, h7, h8⟩
  · obtain ⟨h7, h8⟩ := h.log1 h5 h6
    have e : s.app = ({ s with dm := (s.dm.append (recB r1 s.lm.fin)).1, lm := s.lm.push r1 }, 0) := by unfold PX.app; rw [if_neg (fun h9 => h9 h4)]
    rw [e]
    exact ⟨by simp, { x with Fd := F', bv := bv', sv := sv' }, rfl, rfl, h7, h8⟩

theorem end_pl (h : PL w D L Pb s x) : Calls Tryz.prog 9 #[.pointer (some ⟨L, 0, none⟩)] w fun e w' => e = .returned (.int .u64 s.lm.fin) ∧ ∃ k, w' = w.drewN k := l_end h.mem
theorem forced_pl (h : PL w D L Pb s x) : Calls Tryz.prog 10 #[.pointer (some ⟨L, 0, none⟩)] w fun e w' => e = .returned (.int .u64 (s.lm.base + s.lm.forced : Nat)) ∧ ∃ k, w' = w.drewN k := l_forced h.mem

theorem read_pl (h : PL w D L Pb s x) (ha : s.dm.dead = false) (n : Nat) (hn : n < s.dm.base.length) :
    Calls Tryz.prog 18 #[.pointer (some ⟨D, 0, none⟩), .int .i64 n] w fun e w' => ∃ g, e = .returned (.tuple #[.slice (some ⟨g, 0, none⟩) 512 512, .int .i64 0]) ∧ OwnB w' w.heap.size 5 (.slice (some ⟨g, 0, none⟩) 512 512) (s.dm.page n) ∧ Below w.heap.size w w' := by
  refine (d_read w D x.Fd s.dm h.disk ha n hn).mono ?_
  rintro e w' ⟨rfl, rfl⟩
  have hpl : (s.dm.page n).length = 512 := DM.page_length h.disk.wf n hn
  have h9 := bobj_own w (s.dm.page n) 512 w.heap.size hpl.symm (by rw [hpl]; unfold maxLen; omega) (Nat.le_refl _)
  rw [hpl] at h9
  exact ⟨_, rfl, h9, (Below.refl _ _).alloc (Nat.le_refl _) _⟩
end

end Mun
