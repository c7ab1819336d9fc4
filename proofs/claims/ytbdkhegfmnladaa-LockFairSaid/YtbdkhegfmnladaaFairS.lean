/- LockFair's table: one name; who holds it, who waits. -/
import Derived.Test.YtbdkhegfmnladaaFairP
import Derived.Test.YtbdkhegfmnladaaLockFs
set_option maxRecDepth 100000
set_option linter.unusedVariables false
set_option linter.unusedSimpArgs false
namespace Mun
open Go Go.RowKit
open Go.Proofs

abbrev sA : ByteArray := ⟨#[97]⟩

structure FairAt (W0 wr : World) (t : TV) (hs qs : List (Int × Int)) : Prop where
  tab : TabL W0 wr t
  pl : ∃ p H q, t.pl = [(sA, ⟨p, H, q, hs, qs⟩)]
  ws : ∀ u, u ∉ qs.map (·.1) → klook t.ws u = none
  nm : ∀ u, nmGet t.nm u = if u ∈ hs.map (·.1) then some [sA] else none
  nd : (hs.map (·.1) ++ qs.map (·.1)).Nodup
  hd : ∀ b rest, qs = b :: rest → goesP (hsV hs) b.1 b.2 = false

theorem gmap_nodup {α : Type} [DecidableEq α] [KeyT α] {w : World} {M : Nat} {es : List (α × Value)} (h : GMap w M es) : (es.map (·.1)).Nodup := by
  obtain ⟨l, c, ⟨h1, -⟩, rfl⟩ := h
  simpa [List.map_map, Function.comp_def] using h1

theorem FairAt.nmNodup {W0 wr : World} {t : TV} {hs qs : List (Int × Int)} (h : FairAt W0 wr t hs qs) : (t.nm.map (·.1)).Nodup := by
  have h1 := gmap_nodup h.tab.rep.tab.nm
  simpa [nmV, List.map_map, Function.comp_def] using h1

theorem klook_ws_kdel {β : Type} {l : List (Int × β)} {k u : Int} (h : klook l u = none) : klook (kdel l k) u = none := by
  induction l with
  | nil => rfl
  | cons a l ih =>
    rw [klook_cons] at h
    by_cases e : a.1 = u
    · rw [if_pos e] at h; cases h
    · rw [if_neg e] at h
      by_cases e2 : a.1 = k
      · simp only [kdel, e2, if_true]; exact h
      · simp only [kdel, e2, if_false]
        rw [klook_cons, if_neg e]
        exact ih h

theorem klook_kdel_ws {t : List (Int × (ByteArray × Int))} (hn : (t.map (·.1)).Nodup) : ∀ (l : List (Int × Int)) (u : Int), (u ∈ l.map (·.1) ∨ klook t u = none) → klook (wsPop l t) u = none := by
  intro l
  induction l generalizing t with
  | nil => intro u h; rcases h with h | h; · simp at h
           · exact h
  | cons a l ih =>
    intro u h
    show klook (wsPop l (kdel t a.1)) u = none
    have hn2 : ((kdel t a.1).map (·.1)).Nodup := by rw [kdel_keys]; exact hn.erase _
    refine ih hn2 u ?_
    by_cases hl : u ∈ l.map (·.1)
    · exact .inl hl
    · refine .inr ?_
      rw [klook_kdel hn]
      by_cases hu : u = a.1
      · rw [if_pos hu]
      · rw [if_neg hu]
        rcases h with h | h
        · rw [List.map_cons, List.mem_cons] at h
          exact absurd h (by simp only [not_or]; exact ⟨hu, hl⟩)
        · exact h

/-- Free of a holder: those that were served; the table behind, or no place left -/
theorem FairAt.free {W0 wr : World} {t : TV} {hs qs : List (Int × Int)} (h : FairAt W0 wr t hs qs) {o : Int} (ho : o ∈ hs.map (·.1)) (hql : qs.length ≤ 4398046511104) :
    Calls Try.prog 19 #[.pointer (some ⟨t.T, 0, none⟩), .int .u64 o] wr fun e w' => ∃ v pop hs' qs', e = .returned v ∧ KeepU wr w' ∧ w'.ownsRow wr.heap.size 29 1 v pop.length (ov pop) ∧ pop ++ qs' = qs ∧
      hs'.map (·.1) = (hs.map (·.1)).erase o ++ pop.map (·.1) ∧ Below W0.heap.size W0 w' ∧ ((hs' = [] ∧ qs' = []) ∨ ∃ t', t'.T = t.T ∧ FairAt W0 w' t' hs' qs') := by
  obtain ⟨p, H, q, hpl⟩ := h.pl
  have hx : t.pl[0]? = some (sA, ⟨p, H, q, hs, qs⟩) := by rw [hpl]; rfl
  have hpa : klook t.pl sA = some ⟨p, H, q, hs, qs⟩ := by rw [hpl]; simp [klook]
  have hoq : o ∉ qs.map (·.1) := fun hq => by
    have hn := h.nd
    rw [List.nodup_append] at hn
    exact hn.2.2 _ ho _ hq rfl
  have hnm := h.nm o
  rw [if_pos ho] at hnm
  obtain ⟨M, hM⟩ : ∃ M, klook t.nm o = some (M, [sA]) := by
    unfold nmGet at hnm
    cases hk : klook t.nm o with
    | none => rw [hk] at hnm; cases hnm
    | some y =>
      rw [hk] at hnm
      simp only [Option.map_some, Option.some.injEq] at hnm
      exact ⟨y.1, by rw [← hnm]⟩
  refine (free_oneK h.tab hx hpa o (h.ws o hoq) hM (by decide) (fun a ha e => hoq (List.mem_map.2 ⟨a, ha, e⟩)) hql).mono ?_
  rintro e w' ⟨v, rfl, q', ws, nm, t', hku, hrow, htab, hws, hnm', ht'⟩
  have hnk : ((kdel hs o).map (·.1) ++ qs.map (·.1)).Nodup := by
    have hn := h.nd
    rw [kdel_keys]
    rw [List.nodup_append] at hn ⊢
    exact ⟨hn.1.erase _, hn.2.1, fun a ha b hb => hn.2.2 a (List.mem_of_mem_erase ha) b hb⟩
  have hkeys := popQ_keys qs (kdel hs o) hnk
  have hsplit := popQ_split qs (kdel hs o)
  simp only at hrow htab hws hnm' ht'
  obtain ⟨r1, hr1⟩ : ∃ r1, (popQ (kdel hs o) qs).1 = r1 := ⟨_, rfl⟩
  obtain ⟨r2, hr2⟩ : ∃ r2, (popQ (kdel hs o) qs).2.1 = r2 := ⟨_, rfl⟩
  obtain ⟨r3, hr3⟩ : ∃ r3, (popQ (kdel hs o) qs).2.2 = r3 := ⟨_, rfl⟩
  have hhead := popQ_head qs (kdel hs o)
  rw [hr1, hr2] at hhead
  rw [hr1, hr2] at ht'
  rw [hr3] at hrow hws hnm'
  rw [hr1, hr3] at hkeys
  rw [hr2, hr3] at hsplit
  rw [kdel_keys] at hkeys
  refine ⟨v, r3, r1, r2, rfl, hku, hrow, hsplit, hkeys, htab.bl, ?_⟩
  by_cases hz : r1 = [] ∧ r2 = []
  · exact .inl hz
  · refine .inr ⟨t', ?_, ?_⟩
    · rw [ht', if_neg hz]; rfl
    · rw [if_neg hz] at ht'
      subst ht'
      refine ⟨htab, ⟨p, H, q', ?_⟩, fun u hu => ?_, fun u => ?_, ?_, hhead⟩
      · show t.pl.set 0 _ = _
        rw [hpl]; rfl
      · have hwn : (t.ws.map (·.1)).Nodup := by
          have h1 := gmap_nodup h.tab.rep.tab.wt
          simpa [wsV, List.map_map, Function.comp_def] using h1
        show klook ws u = none
        rw [hws]
        refine klook_kdel_ws hwn r3 u ?_
        by_cases h3 : u ∈ r3.map (·.1)
        · exact .inl h3
        · refine .inr (h.ws u ?_)
          rw [← hsplit, List.map_append, List.mem_append, not_or]
          exact ⟨h3, hu⟩
      · show nmGet nm u = _
        have hnn := h.nd
        rw [List.nodup_append] at hnn
        have h3q : ∀ a ∈ r3, a.1 ∈ qs.map (·.1) := fun a ha => by rw [← hsplit]; exact List.mem_map.2 ⟨a, List.mem_append_left _ ha, rfl⟩
        have hkd : ∀ u, nmGet (kdel t.nm o) u = if u = o then none else nmGet t.nm u := fun u => by
          unfold nmGet
          rw [klook_kdel h.nmNodup]
          by_cases hu : u = o <;> simp [hu]
        have h3n : (r3.map (·.1)).Nodup := by
          have h9 := hnn.2.1
          rw [← hsplit, List.map_append, List.nodup_append] at h9
          exact h9.1
        rw [hnm' u, nmPop_get sA r3 _ h3n (fun a ha => by
          rw [hkd]
          by_cases hao : a.1 = o
          · rw [if_pos hao]
          · rw [if_neg hao, h.nm, if_neg (fun hh => hnn.2.2 _ hh _ (h3q a ha) rfl)]) u, hkd, h.nm, hkeys]
        by_cases h3 : u ∈ r3.map (·.1)
        · rw [if_pos h3, if_pos (List.mem_append_right _ h3)]
        · rw [if_neg h3]
          by_cases huo : u = o
          · rw [if_pos huo, if_neg]
            rw [List.mem_append, not_or]
            exact ⟨fun hh => ((hnn.1.mem_erase_iff).1 hh).1 huo, h3⟩
          · rw [if_neg huo]
            by_cases huh : u ∈ hs.map (·.1)
            · rw [if_pos huh, if_pos (List.mem_append_left _ ((hnn.1.mem_erase_iff).2 ⟨huo, huh⟩))]
            · rw [if_neg huh, if_neg]
              rw [List.mem_append, not_or]
              exact ⟨fun hh => huh ((hnn.1.mem_erase_iff).1 hh).2, h3⟩
      · rw [hkeys]
        have hq : (qs.map (·.1)) = r3.map (·.1) ++ r2.map (·.1) := by rw [← hsplit]; simp
        rw [kdel_keys, hq] at hnk
        simpa [List.append_assoc] using hnk
end Mun
