/- Plain: pages that are pinned, and frames; what stays true in PoolPins. -/
import Derived.Test.YtjfepmohoijalaaPoolH
set_option maxRecDepth 100000
set_option linter.unusedVariables false
set_option linter.unusedSimpArgs false
namespace Mun
open Go Go.RowKit

theorem nodup_sub_len : ∀ (a b : List Int), a.Nodup → (∀ x ∈ a, x ∈ b) → a.length ≤ b.length
  | [], b, _, _ => Nat.zero_le _
  | x :: a, b, hn, hs => by
    rw [List.nodup_cons] at hn
    have hx := hs x (List.mem_cons_self ..)
    have h1 := nodup_sub_len a (b.erase x) hn.2 (fun y hy => by
      have hne : y ≠ x := fun e => hn.1 (e ▸ hy)
      exact (List.mem_erase_of_ne hne).2 (hs y (List.mem_cons_of_mem _ hy)))
    have h2 := List.length_erase_of_mem hx
    have h3 := List.length_pos_of_mem hx
    simp only [List.length_cons]
    omega

theorem pgs_nodup {fs : List FV} {es : List (Int × Value)} (h : MapOk fs es) (ha : ∀ x ∈ fs, 0 ≤ x.1.pg) : (fs.map fun x => x.1.pg).Nodup := by
  rw [List.Nodup, List.pairwise_iff_getElem]
  intro i j hi hj hij e
  simp only [List.length_map] at hi hj
  simp only [List.getElem_map] at e
  have := h.one (List.getElem?_eq_getElem hi) (List.getElem?_eq_getElem hj) e (ha _ (List.getElem_mem hi))
  omega

structure PinI (fs : List FV) (held : List Int) (k m : Nat) : Prop where
  len : fs.length = k
  ok : ∀ x ∈ fs, x.1.pg < 0 ∨ (x.1.chg = false ∧ x.1.pg < m ∧ x.1.b = page0)
  pins : ∀ x ∈ fs, x.1.pins = if x.1.pg ∈ held then 1 else 0
  nd : held.Nodup
  rng : ∀ h ∈ held, 0 ≤ h ∧ h < m
  in_ : ∀ h ∈ held, ∃ x ∈ fs, x.1.pg = h

section
variable {fs : List FV} {es : List (Int × Value)} {held : List Int} {k m : Nat}

/-- one that is pinned has a frame -/
theorem PinI.at_ (h : PinI fs held k m) {n : Int} (hn : n ∈ held) : ∃ (i : Nat) (x : FV), fs[i]? = some x ∧ x.1.pg = n ∧ x.1.pins = 1 ∧ x.1.b = page0 ∧ x.1.chg = false := by
  obtain ⟨x, hx, hp⟩ := h.in_ n hn
  obtain ⟨i, hi, rfl⟩ := List.getElem_of_mem hx
  have h1 := h.pins _ hx
  rw [hp, if_pos hn] at h1
  rcases h.ok _ hx with h2 | h2
  · have := (h.rng n hn).1; omega
  · exact ⟨i, _, List.getElem?_eq_getElem hi, hp, h1, h2.2.2, h2.1⟩

/-- a frame turned: its page, bytes as they were, pinned as the new list says -/
theorem PinI.set (h : PinI fs held k m) (hm : MapOk fs es) {i : Nat} {x y : FV} (hx : fs[i]? = some x) (hpg : y.1.pg = x.1.pg) (hb : y.1.b = x.1.b) (hc : y.1.chg = x.1.chg) (h0 : 0 ≤ x.1.pg) {held' : List Int}
    (hy : y.1.pins = if x.1.pg ∈ held' then 1 else 0) (hnd : held'.Nodup) (hr : ∀ h ∈ held', 0 ≤ h ∧ h < m) (ho : ∀ n, n ≠ x.1.pg → (n ∈ held' ↔ n ∈ held)) : PinI (fs.set i y) held' k m := by
  have hil := (List.getElem?_eq_some_iff.1 hx).1
  have hxm := List.mem_of_getElem? hx
  refine ⟨by rw [List.length_set]; exact h.len, fun z hz => ?_, fun z hz => ?_, hnd, hr, fun n hn => ?_⟩
  · rcases List.mem_or_eq_of_mem_set hz with h1 | h1
    · exact h.ok z h1
    · subst h1; rw [hpg, hb, hc]; exact h.ok x hxm
  · obtain ⟨j, hj, rfl⟩ := List.getElem_of_mem hz
    by_cases hij : i = j
    · subst hij
      rw [List.getElem_set_self]
      rw [hpg]; exact hy
    · rw [List.getElem_set_ne hij]
      have hj' : j < fs.length := by rw [List.length_set] at hj; exact hj
      rw [h.pins _ (List.getElem_mem hj')]
      have hne : fs[j].1.pg ≠ x.1.pg := fun e => hij (hm.one hx (List.getElem?_eq_getElem hj') e.symm h0)
      have hiff := ho _ hne
      by_cases hh : fs[j].1.pg ∈ held
      · rw [if_pos hh, if_pos (hiff.2 hh)]
      · rw [if_neg hh, if_neg (fun e => hh (hiff.1 e))]
  · by_cases hnx : n = x.1.pg
    · exact ⟨y, List.mem_set hil y, by rw [hpg, hnx]⟩
    · obtain ⟨z, hz, hp⟩ := h.in_ n ((ho n hnx).1 hn)
      obtain ⟨j, hj, rfl⟩ := List.getElem_of_mem hz
      have hij : i ≠ j := fun e => by
        subst e
        have hxe : fs[i] = x := by rw [List.getElem?_eq_getElem hil] at hx; injection hx
        rw [hxe] at hp; exact hnx hp.symm
      exact ⟨fs[j], List.mem_iff_getElem?.2 ⟨j, by rw [List.getElem?_set_ne hij]; exact List.getElem?_eq_getElem hj⟩, hp⟩

/-- with as many pinned as there are frames, all frames are pinned -/
theorem PinI.full (h : PinI fs held k m) (hk : held.length = k) : ∀ x ∈ fs, x.1.pg ∈ held := by
  intro x hx
  obtain ⟨j, hj, rfl⟩ := List.getElem_of_mem hx
  apply Classical.byContradiction
  intro hno
  have h1 := nodup_sub_len held ((fs.map fun x => x.1.pg).eraseIdx j) h.nd (fun n hn => by
    obtain ⟨z, hz, hp⟩ := h.in_ n hn
    obtain ⟨i, hi, rfl⟩ := List.getElem_of_mem hz
    have hij : i ≠ j := fun e => by subst e; rw [hp] at hno; exact hno hn
    rw [List.mem_eraseIdx_iff_getElem?]
    exact ⟨i, hij, by rw [List.getElem?_map, List.getElem?_eq_getElem hi]; simp [hp]⟩)
  rw [List.length_eraseIdx] at h1
  simp only [List.length_map, hj, if_true] at h1
  have := h.len
  omega
theorem PinI.pins1 (h : PinI fs held k m) {x : FV} (hx : x ∈ fs) (hh : x.1.pg ∈ held) : x.1.pins = 1 := by rw [h.pins x hx, if_pos hh]

/-- with fewer, not all are -/
theorem PinI.room (h : PinI fs held k m) (hm : MapOk fs es) (hk : held.length < k) (ha : ∀ x ∈ fs, 0 ≤ x.1.pg) (hp : ∀ x ∈ fs, 0 < x.1.pins) : False := by
  have h1 := nodup_sub_len (fs.map fun x => x.1.pg) held (pgs_nodup hm ha) (fun n hn => by
    obtain ⟨x, hx, rfl⟩ := List.mem_map.1 hn
    apply Classical.byContradiction
    intro hno
    have h2 := h.pins x hx
    rw [if_neg hno] at h2
    have := hp x hx
    omega)
  rw [List.length_map, h.len] at h1
  omega

/-- touches apart it is the same -/
theorem PinI.same (h : PinI fs held k m) {fs' : List FV} (hs : SameFs fs fs') : PinI fs' held k m := by
  have hback : ∀ z ∈ fs', ∃ x ∈ fs, SameF x z := fun z hz => by
    obtain ⟨j, hj, rfl⟩ := List.getElem_of_mem hz
    have hj' : j < fs.length := by rw [← hs.1]; exact hj
    obtain ⟨y, hy, e⟩ := hs.2 j _ (List.getElem?_eq_getElem hj')
    rw [List.getElem?_eq_getElem hj] at hy
    injection hy with hy
    rw [hy]
    exact ⟨_, List.getElem_mem hj', e⟩
  refine ⟨hs.1.trans h.len, fun z hz => ?_, fun z hz => ?_, h.nd, h.rng, fun n hn => ?_⟩
  · obtain ⟨x, hx, e1, e2, e3, e4, e5⟩ := hback z hz
    rw [e1, e2, e4]; exact h.ok x hx
  · obtain ⟨x, hx, e1, e2, e3, e4, e5⟩ := hback z hz
    rw [e3, e1]; exact h.pins x hx
  · obtain ⟨x, hx, hp⟩ := h.in_ n hn
    obtain ⟨j, hj, rfl⟩ := List.getElem_of_mem hx
    obtain ⟨y, hy, e1, -⟩ := hs.2 j _ (List.getElem?_eq_getElem hj)
    exact ⟨y, List.mem_of_getElem? hy, e1.trans hp⟩

/-- a page read into a frame that none needs -/
theorem PinI.put (h : PinI fs held k m) {i : Nat} {x y : FV} (hx : fs[i]? = some x) (hno : x.1.pg ∉ held) {n : Int} (hn0 : 0 ≤ n) (hnm : n < m) (hnh : n ∉ held) (hnf : ∀ z ∈ fs, z.1.pg ≠ n)
    (hy : y.1.pg = n) (hyb : y.1.b = page0) (hyc : y.1.chg = false) (hyp : y.1.pins = 1) : PinI (fs.set i y) (held ++ [n]) k m := by
  have hil := (List.getElem?_eq_some_iff.1 hx).1
  refine ⟨by rw [List.length_set]; exact h.len, fun z hz => ?_, fun z hz => ?_, ?_, fun j hj => ?_, fun j hj => ?_⟩
  · rcases List.mem_or_eq_of_mem_set hz with h1 | h1
    · exact h.ok z h1
    · subst h1; exact .inr ⟨hyc, by rw [hy]; exact hnm, hyb⟩
  · rcases List.mem_or_eq_of_mem_set hz with h1 | h1
    · rw [h.pins z h1]
      have := hnf z h1
      simp [this]
    · subst h1
      rw [hyp, hy, if_pos (by simp)]
  · rw [List.nodup_append]
    refine ⟨h.nd, by simp, ?_⟩
    intro a ha b hb e
    simp only [List.mem_singleton] at hb
    subst hb
    exact hnh (e ▸ ha)
  · rcases List.mem_append.1 hj with h1 | h1
    · exact h.rng j h1
    · simp only [List.mem_singleton] at h1
      subst h1
      exact ⟨hn0, hnm⟩
  · rcases List.mem_append.1 hj with h1 | h1
    · obtain ⟨z, hz, hp⟩ := h.in_ j h1
      obtain ⟨a, ha, rfl⟩ := List.getElem_of_mem hz
      have hia : i ≠ a := fun e => by
        subst e
        have hxe : fs[i] = x := by rw [List.getElem?_eq_getElem hil] at hx; injection hx
        rw [hxe] at hp
        exact hno (hp ▸ h1)
      exact ⟨fs[a], List.mem_iff_getElem?.2 ⟨a, by rw [List.getElem?_set_ne hia]; exact List.getElem?_eq_getElem ha⟩, hp⟩
    · simp only [List.mem_singleton] at h1
      subst h1
      exact ⟨y, List.mem_set hil y, hy⟩
end

theorem PinI.new (k m : Nat) : PinI (List.replicate k fv1) [] k m :=
  ⟨by simp, fun x hx => by have := List.eq_of_mem_replicate hx; subst this; exact .inl (by decide), fun x hx => by have := List.eq_of_mem_replicate hx; subst this; rfl, List.nodup_nil, fun _ h => by simp at h, fun _ h => by simp at h⟩

theorem page0_chk : checkP page0 = 0 := by unfold checkP; rw [if_pos (show page0 = zer 512 from rfl)]
theorem new_page (pages room n : Nat) : (DM.new pages room).page n = page0 := by
  show ((lastW ([] : List (Nat × Bytes)) n).getD ((List.replicate pages page0).getD n page0)) = page0
  rw [lastW_nil]
  show (List.replicate pages page0).getD n page0 = page0
  rw [List.getD_eq_getElem?_getD, List.getElem?_replicate]
  split <;> rfl
end Mun
