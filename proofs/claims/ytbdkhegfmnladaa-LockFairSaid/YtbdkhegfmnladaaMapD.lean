/- delete(m, k) and len(m) on maps with keys of any plain kind. -/
import Derived.Test.YtbdkhegfmnladaaMapG
set_option linter.unusedVariables false
set_option linter.unusedSimpArgs false
set_option linter.unusedSectionVars false
namespace Mun
open Go Go.RowKit

variable {α : Type} [DecidableEq α] [KeyT α] {P : Program} {tm tk te : TypeId}

theorem map_erase {β γ : Type} (f : β → γ) : ∀ (l : List β) (i : Nat), (l.map f).eraseIdx i = (l.eraseIdx i).map f
  | [], _ => by simp
  | _ :: _, 0 => rfl
  | a :: l, i + 1 => by simp only [List.map_cons, List.eraseIdx_cons_succ, map_erase f l i]
/-- a key taken out -/
def gdel : List (α × Value) → α → List (α × Value)
  | [], _ => []
  | p :: es, k => if p.1 = k then es else p :: gdel es k

theorem gdel_erase (l : List ((α × Value) × Nat)) (k : α) : gdel (l.map (·.1)) k = match l.findIdx? (·.1.1 == k) with | some i => (l.eraseIdx i).map (·.1) | none => l.map (·.1) := by
  induction l with
  | nil => rfl
  | cons p l ih =>
    simp only [List.map_cons, gdel, List.findIdx?_cons]
    by_cases hp : p.1.1 = k
    · rw [if_pos hp]
      have h1 : (p.1.1 == k) = true := by simpa using hp
      simp [h1]
    · rw [if_neg hp, ih]
      have h1 : (p.1.1 == k) = false := by simpa using hp
      simp only [h1]
      cases l.findIdx? (·.1.1 == k) with
      | none => rfl
      | some i => simp

theorem glook_gdel (es : List (α × Value)) (hn : (es.map (·.1)).Nodup) (k n : α) : glook (gdel es k) n = if n = k then none else glook es n := by
  induction es with
  | nil => simp [gdel, glook]
  | cons p es ih =>
    simp only [List.map_cons, List.nodup_cons] at hn
    simp only [gdel]
    by_cases hp : p.1 = k
    · rw [if_pos hp]
      by_cases h : n = k
      · rw [if_pos h, glook_none_iff, h, ← hp]
        exact hn.1
      · rw [if_neg h]
        have h1 : (p.1 == n) = false := by rw [hp]; simpa using Ne.symm h
        simp [glook, List.find?_cons, h1]
    · rw [if_neg hp]
      have ih2 := ih hn.2
      by_cases hq : p.1 = n
      · have h1 : (p.1 == n) = true := by simpa using hq
        have h2 : ¬ n = k := fun e => hp (hq.trans e)
        rw [if_neg h2]
        simp [glook, List.find?_cons, h1]
      · have h1 : (p.1 == n) = false := by simpa using hq
        simp only [glook, List.find?_cons, h1] at ih2 ⊢
        exact ih2

theorem mem_gdel {es : List (α × Value)} {k : α} {p : α × Value} (h : p ∈ gdel es k) : p ∈ es := by
  induction es with
  | nil => simp [gdel] at h
  | cons q es ih =>
    simp only [gdel] at h
    split at h
    · exact List.mem_cons_of_mem _ h
    · rcases List.mem_cons.1 h with rfl | h
      · exact List.mem_cons_self ..
      · exact List.mem_cons_of_mem _ (ih h)

theorem gentries_erase (l : List ((α × Value) × Nat)) (i : Nat) : (gEntries l).eraseIdxIfInBounds i = gEntries (l.eraseIdx i) := by
  apply Array.ext'
  unfold gEntries
  rw [Array.eraseIdxIfInBounds]
  split
  · rename_i h
    simp [map_erase]
  · rename_i h
    simp only [List.size_toArray, List.length_map] at h
    rw [List.eraseIdx_of_length_le (by omega)]

theorem gmap_delete {w : World} {M : Nat} {es : List (α × Value)} {ty : TypeId} (ht : P.underlying tm = some (.map tk te)) (hk : P.underlying tk = some (KeyT.desc α)) (h : GMap w M es) (k : α) (tk2 : TypeId) :
    ∃ o, (Builtin.delete_ #[tm, tk2] ty #[.map (some M), ek k]).run P w = .ok (.tuple #[]) (setObjW w M o) ∧ GMap (setObjW w M o) M (gdel es k) := by
  obtain ⟨l, c, ⟨h1, h2, h3, h4⟩, rfl⟩ := h
  have hrun : (Builtin.delete_ #[tm, tk2] ty #[.map (some M), ek k]).run P w = match (l.findIdx? (·.1.1 == k)) with
      | some i => .ok (.tuple #[]) (setObjW w M (.map ((gEntries l).eraseIdxIfInBounds i) c))
      | none => .ok (.tuple #[]) (setObjW w M (.map (gEntries l) c)) := by
    simp [Builtin.delete_, Sem.run_bind, run_underlying ht, getObj_map h4, run_checkKey_g hk, run_findKey_g hk, Result.andThen]
    cases hf : l.findIdx? (·.1.1 == k) with
    | none => simp [setObj_map _ h4, setObjW]
    | some i => simp [setObj_map _ h4, setObjW]
  have he := gdel_erase l k
  cases hf : l.findIdx? (·.1.1 == k) with
  | none =>
    rw [hf] at hrun he
    exact ⟨_, hrun, ⟨l, c, ⟨h1, h2, h3, setObjW_same h4⟩, he.symm⟩⟩
  | some i =>
    rw [hf] at hrun he
    refine ⟨_, hrun, ⟨l.eraseIdx i, c, ⟨?_, ?_, fun p hp => h3 p (List.mem_of_mem_eraseIdx hp), ?_⟩, he.symm⟩⟩
    · rw [← map_erase]
      exact h1.sublist (List.eraseIdx_sublist ..)
    · rw [← map_erase]
      exact h2.sublist (List.eraseIdx_sublist ..)
    · rw [setObjW_same h4, gentries_erase]

theorem gmap_len {w : World} {M : Nat} {es : List (α × Value)} {ty : TypeId} (ht : P.underlying tm = some (.map tk te)) (h : GMap w M es) : (Builtin.len_ #[tm] ty #[.map (some M)]).run P w = .ok (.int .i64 es.length) w := by
  obtain ⟨l, c, ⟨-, -, -, hb⟩, rfl⟩ := h
  simp [Builtin.len_, Sem.run_bind, run_underlying ht, getObj_map hb, gEntries, goInt]
end Mun
