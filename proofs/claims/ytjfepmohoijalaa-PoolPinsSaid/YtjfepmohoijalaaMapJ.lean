/- delete(m, k) and len(m) on maps whose keys are ints. -/
import Derived.Test.YtjfepmohoijalaaMapI
set_option linter.unusedVariables false
set_option linter.unusedSimpArgs false
set_option linter.unusedSectionVars false
namespace Mun
open Go Go.RowKit

variable {P : Program} {tm tk te : TypeId}

theorem map_erase {β γ : Type} (f : β → γ) : ∀ (l : List β) (i : Nat), (l.map f).eraseIdx i = (l.eraseIdx i).map f
  | [], _ => by simp
  | _ :: _, 0 => rfl
  | a :: l, i + 1 => by simp only [List.map_cons, List.eraseIdx_cons_succ, map_erase f l i]
/-- a key taken out -/
def adel : List (Int × Value) → Int → List (Int × Value)
  | [], _ => []
  | p :: es, k => if p.1 = k then es else p :: adel es k

theorem adel_erase (l : List ((Int × Value) × Nat)) (k : Int) : adel (l.map (·.1)) k = match l.findIdx? (·.1.1 == k) with | some i => (l.eraseIdx i).map (·.1) | none => l.map (·.1) := by
  induction l with
  | nil => rfl
  | cons p l ih =>
    simp only [List.map_cons, adel, List.findIdx?_cons]
    by_cases hp : p.1.1 = k
    · rw [if_pos hp]
      have h1 : (p.1.1 == k) = true := by simpa using hp
      simp [h1]
    · rw [if_neg hp, ih]
      have h1 : (p.1.1 == k) = false := by simpa using hp
      simp only [h1]
      cases l.findIdx? (·.1.1 == k) with
      | none => rfl
      | some i => simp

theorem alook_adel (es : List (Int × Value)) (hn : (es.map (·.1)).Nodup) (k n : Int) : alook (adel es k) n = if n = k then none else alook es n := by
  induction es with
  | nil => simp [adel, alook]
  | cons p es ih =>
    simp only [List.map_cons, List.nodup_cons] at hn
    simp only [adel]
    by_cases hp : p.1 = k
    · rw [if_pos hp]
      by_cases h : n = k
      · rw [if_pos h, alook_none_iff, h, ← hp]
        exact hn.1
      · rw [if_neg h]
        have h1 : (p.1 == n) = false := by rw [hp]; simpa using Ne.symm h
        simp [alook, List.find?_cons, h1]
    · rw [if_neg hp]
      have ih2 := ih hn.2
      by_cases hq : p.1 = n
      · have h1 : (p.1 == n) = true := by simpa using hq
        have h2 : ¬ n = k := fun e => hp (hq.trans e)
        rw [if_neg h2]
        simp [alook, List.find?_cons, h1]
      · have h1 : (p.1 == n) = false := by simpa using hq
        simp only [alook, List.find?_cons, h1] at ih2 ⊢
        exact ih2

theorem mem_adel {es : List (Int × Value)} {k : Int} {p : Int × Value} (h : p ∈ adel es k) : p ∈ es := by
  induction es with
  | nil => simp [adel] at h
  | cons q es ih =>
    simp only [adel] at h
    split at h
    · exact List.mem_cons_of_mem _ h
    · rcases List.mem_cons.1 h with rfl | h
      · exact List.mem_cons_self ..
      · exact List.mem_cons_of_mem _ (ih h)

theorem mkEntries_erase (l : List ((Int × Value) × Nat)) (i : Nat) : (mkEntries l).eraseIdxIfInBounds i = mkEntries (l.eraseIdx i) := by
  apply Array.ext'
  unfold mkEntries
  rw [Array.eraseIdxIfInBounds]
  split
  · rename_i h
    simp [map_erase]
  · rename_i h
    simp only [List.size_toArray, List.length_map] at h
    rw [List.eraseIdx_of_length_le (by omega)]

theorem imap_delete {w : World} {M : Nat} {es : List (Int × Value)} {ty : TypeId} (ht : P.underlying tm = some (.map tk te)) (hk : P.underlying tk = some (.int .i64)) (h : IMap w M es) (k : Int) (tk2 : TypeId) :
    ∃ o, (Builtin.delete_ #[tm, tk2] ty #[.map (some M), .int .i64 k]).run P w = .ok (.tuple #[]) (setObjW w M o) ∧ IMap (setObjW w M o) M (adel es k) := by
  obtain ⟨l, c, ⟨h1, h2, h3, h4⟩, rfl⟩ := h
  have hrun : (Builtin.delete_ #[tm, tk2] ty #[.map (some M), .int .i64 k]).run P w = match (l.findIdx? (·.1.1 == k)) with
      | some i => .ok (.tuple #[]) (setObjW w M (.map ((mkEntries l).eraseIdxIfInBounds i) c))
      | none => .ok (.tuple #[]) (setObjW w M (.map (mkEntries l) c)) := by
    simp [Builtin.delete_, Sem.run_bind, run_underlying ht, getObj_map h4, run_checkKey_int hk, run_findKey_int hk, Result.andThen]
    cases hf : l.findIdx? (·.1.1 == k) with
    | none => simp [setObj_map _ h4, setObjW]
    | some i => simp [setObj_map _ h4, setObjW]
  have he := adel_erase l k
  cases hf : l.findIdx? (·.1.1 == k) with
  | none =>
    rw [hf] at hrun he
    exact ⟨_, hrun, ⟨l, c, ⟨h1, h2, h3, setObjW_same h4⟩, he.symm⟩⟩
  | some i =>
    rw [hf] at hrun he
    refine ⟨_, hrun, ⟨l.eraseIdx i, c, ⟨?_, ?_, fun p hp => h3 p (List.mem_of_mem_eraseIdx hp), ?_⟩, he.symm⟩⟩
    · rw [← map_erase]
      exact h1.sublist (List.eraseIdx_sublist ..)
    · rw [← map_erase]
      exact h2.sublist (List.eraseIdx_sublist ..)
    · rw [setObjW_same h4, mkEntries_erase]

theorem imap_len {w : World} {M : Nat} {es : List (Int × Value)} {ty : TypeId} (ht : P.underlying tm = some (.map tk te)) (h : IMap w M es) : (Builtin.len_ #[tm] ty #[.map (some M)]).run P w = .ok (.int .i64 es.length) w := by
  obtain ⟨l, c, ⟨-, -, -, hb⟩, rfl⟩ := h
  simp [Builtin.len_, Sem.run_bind, run_underlying ht, getObj_map hb, mkEntries, goInt]
end Mun
