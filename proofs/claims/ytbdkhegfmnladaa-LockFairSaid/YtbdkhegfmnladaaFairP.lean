/- Plain: what a queue's pops leave. -/
import Derived.Test.YtbdkhegfmnladaaLockMk
set_option maxRecDepth 100000
set_option linter.unusedVariables false
set_option linter.unusedSimpArgs false
namespace Mun
open Go Go.RowKit
open Go.Proofs

theorem klook_kdel {κ β : Type} [DecidableEq κ] : ∀ {l : List (κ × β)} (hn : (l.map (·.1)).Nodup) (k n : κ), klook (kdel l k) n = if n = k then none else klook l n
  | [], _, k, n => by simp [kdel, klook]
  | a :: l, hn, k, n => by
    rw [List.map_cons, List.nodup_cons] at hn
    by_cases e : a.1 = k
    · simp only [kdel, e, if_true]
      rw [klook_cons]
      by_cases h : n = k
      · rw [if_pos h]
        cases hl : klook l n with
        | none => rfl
        | some v =>
          obtain ⟨i, hi, -⟩ := klook_set hl
          exfalso
          refine hn.1 ?_
          rw [e, ← h]
          exact List.mem_map.2 ⟨_, List.mem_of_getElem? hi, rfl⟩
      · rw [if_neg h, e, if_neg (Ne.symm h)]
    · simp only [kdel, e, if_false]
      rw [klook_cons, klook_cons, klook_kdel hn.2 k n]
      by_cases h : a.1 = n
      · rw [if_pos h, if_pos h]
        by_cases h2 : n = k
        · exact absurd (h.trans h2) e
        · rw [if_neg h2]
      · rw [if_neg h, if_neg h]

theorem kdel_keys {κ β : Type} [DecidableEq κ] : ∀ (l : List (κ × β)) (k : κ), (kdel l k).map (·.1) = (l.map (·.1)).erase k
  | [], k => rfl
  | a :: l, k => by
    by_cases e : a.1 = k
    · simp [kdel, e]
    · simp [kdel, e, kdel_keys l k, List.erase_cons]

theorem kset_keys {κ β : Type} [DecidableEq κ] {l : List (κ × β)} {k : κ} (h : k ∉ l.map (·.1)) (v : β) : (kset l k v).map (·.1) = l.map (·.1) ++ [k] := by
  have hn : klook l k = none := by
    cases hl : klook l k with
    | none => rfl
    | some y =>
      obtain ⟨i, hi, -⟩ := klook_set hl
      exact absurd (List.mem_map.2 ⟨_, List.mem_of_getElem? hi, rfl⟩) h
  rw [kset_new hn]
  simp

theorem popQ_split : ∀ (qs hs : List (Int × Int)), (popQ hs qs).2.2 ++ (popQ hs qs).2.1 = qs
  | [], hs => rfl
  | a :: qs, hs => by
    unfold popQ
    split
    · simp only [List.cons_append, popQ_split qs]
    · rfl

theorem popQ_head : ∀ (qs hs : List (Int × Int)) (b : Int × Int) (rest : List (Int × Int)), (popQ hs qs).2.1 = b :: rest → goesP (hsV (popQ hs qs).1) b.1 b.2 = false
  | [], hs, b, rest, h => by cases h
  | a :: qs, hs, b, rest, h => by
    unfold popQ at h ⊢
    split
    · rename_i hg
      rw [if_pos hg] at h
      exact popQ_head qs _ b rest h
    · rename_i hg
      rw [if_neg hg] at h
      injection h with h1 h2
      subst h1
      simpa using hg

theorem popQ_keys : ∀ (qs hs : List (Int × Int)), (hs.map (·.1) ++ qs.map (·.1)).Nodup → (popQ hs qs).1.map (·.1) = hs.map (·.1) ++ (popQ hs qs).2.2.map (·.1)
  | [], hs, _ => by simp [popQ]
  | a :: qs, hs, hn => by
    unfold popQ
    split
    · have hk : a.1 ∉ hs.map (·.1) := fun h => by
        rw [List.nodup_append] at hn
        exact hn.2.2 _ h _ (by simp) rfl
      have h1 := kset_keys hk a.2
      rw [popQ_keys qs (kset hs a.1 a.2) (by rw [h1]; simpa using hn), h1]
      simp
    · simp

theorem nmPop_get (s : ByteArray) : ∀ (l : List (Int × Int)) (f : Int → Option (List ByteArray)), (l.map (·.1)).Nodup → (∀ a ∈ l, f a.1 = none) → ∀ u, nmPop s l f u = if u ∈ l.map (·.1) then some [s] else f u
  | [], f, _, _, u => by simp [nmPop]
  | a :: l, f, hn, hf, u => by
    rw [List.map_cons, List.nodup_cons] at hn
    have ha := hf a (by simp)
    have h := nmPop_get s l (fun u => if u = a.1 then some (sadd ((f a.1).getD []) s) else f u) hn.2 (fun b hb => by
      have hba : b.1 ≠ a.1 := fun e => hn.1 (by rw [← e]; exact List.mem_map.2 ⟨b, hb, rfl⟩)
      show (if b.1 = a.1 then _ else f b.1) = none
      rw [if_neg hba]
      exact hf b (by simp [hb])) u
    show nmPop s l _ u = _
    rw [h]
    by_cases hu : u = a.1
    · subst hu
      have : a.1 ∉ l.map (·.1) := hn.1
      simp [this, ha, sadd]
    · by_cases hl : u ∈ l.map (·.1)
      · simp [hl]
      · rw [if_neg hl, if_neg hu, if_neg (by simp only [List.map_cons, List.mem_cons, not_or]; exact ⟨hu, hl⟩)]

theorem goesP_nil (o m : Int) : goesP (hsV []) o m = true := by simp [goesP, hsV]
end Mun
