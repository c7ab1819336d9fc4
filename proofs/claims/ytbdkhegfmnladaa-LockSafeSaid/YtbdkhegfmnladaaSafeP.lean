/- LockSafe, in plain words: at each name all that hold it go together; who is on a ring waits. -/
import Derived.Test.YtbdkhegfmnladaaMgM
set_option maxRecDepth 100000
set_option linter.unusedVariables false
set_option linter.unusedSimpArgs false
namespace Mun
open Go Go.RowKit
open Go.Proofs

theorem tog_symm (a b : Int) (h : tog a b = true) : tog b a = true := by
  have ha : isM a = true := by unfold tog at h; simp at h; exact h.1.1
  have hb : isM b = true := by unfold tog at h; simp at h; exact h.1.2
  rw [isM_iff] at ha hb
  rcases ha with rfl | rfl | rfl | rfl <;> rcases hb with rfl | rfl | rfl | rfl <;> first | rfl | (exact absurd h (by decide))

/-- all that hold go together -/
def Safe1 (h : Int → Option Int) : Prop := ∀ u v k k', h u = some k → h v = some k' → u ≠ v → tog k k' = true
def AS.Safe (A : AS) : Prop := ∀ s, Safe1 (A.H s)
theorem Safe1.put {h : Int → Option Int} (hs : Safe1 h) {o m : Int} (hg : GoesF h o m) : Safe1 (upd h o (some m)) := by
  intro u v k k' hu hv hne
  unfold Mun.upd at hu hv
  by_cases eu : u = o
  · rw [if_pos eu] at hu
    by_cases ev : v = o
    · exact absurd (eu.trans ev.symm) hne
    · rw [if_neg ev] at hv
      injection hu with hu
      subst hu
      exact tog_symm _ _ (hg v k' hv ev)
  · rw [if_neg eu] at hu
    by_cases ev : v = o
    · rw [if_pos ev] at hv
      injection hv with hv
      subst hv
      exact hg u k hu eu
    · rw [if_neg ev] at hv
      exact hs u v k k' hu hv hne
theorem Safe1.del {h : Int → Option Int} (hs : Safe1 h) (o : Int) : Safe1 (upd h o none) := by
  intro u v k k' hu hv hne
  unfold Mun.upd at hu hv
  split at hu
  · cases hu
  · split at hv
    · cases hv
    · exact hs u v k k' hu hv hne
theorem Safe1.pop : ∀ (qs : List (Int × Int)) {h : Int → Option Int}, Safe1 h → Safe1 (popF h qs).1
  | [], h, hs => hs
  | a :: qs, h, hs => by
    by_cases hg : GoesF h a.1 a.2
    · rw [popF_yes hg]
      exact Safe1.pop qs (hs.put hg)
    · rw [popF_no hg]; exact hs
theorem AS.Safe.setH {A : AS} (h : A.Safe) (s : ByteArray) {o m : Int} (hg : GoesF (A.H s) o m) : (A.setH s (upd (A.H s) o (some m))).Safe := by
  intro s'
  show Safe1 (updS A.H s _ s')
  unfold updS
  split
  · exact (h s).put hg
  · exact h s'
theorem AS.Safe.ask {A : AS} (h : A.Safe) (o : Int) (s : ByteArray) (m : Int) : (A.ask o s m).1.Safe := by
  unfold AS.ask
  split
  · exact h
  · split
    · exact h
    · cases hk : A.H s o with
      | some k =>
        simp only
        split
        · exact h
        · split
          · rename_i hg; exact h.setH s hg
          · exact h
      | none =>
        simp only
        split
        · rename_i hg; exact h.setH s hg.2
        · exact h
theorem AS.Safe.freed {A : AS} (h : A.Safe) (o : Int) : (A.freed o).Safe := by
  intro s
  unfold AS.freed
  simp only
  split
  · exact Safe1.pop _ ((h s).del o)
  · exact h s
theorem AS.Safe.none : AS.none.Safe := fun s u v k k' h => by cases h
theorem ring_waits {A : AS} {o v : Int} (h : A.Victim o v true) : A.waits o := by
  rcases h with ⟨h, -⟩ | ⟨-, h, -⟩
  · cases h
  · cases h with
    | one hb => obtain ⟨s, m, hq, -⟩ := hb; exact ⟨s, m, hq⟩
    | step hb _ => obtain ⟨s, m, hq, -⟩ := hb; exact ⟨s, m, hq⟩
end Mun
