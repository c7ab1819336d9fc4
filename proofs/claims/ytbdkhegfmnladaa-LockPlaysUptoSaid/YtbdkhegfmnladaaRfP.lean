/- The reference's tables against the program's: plain laws. -/
import Derived.Test.YtbdkhegfmnladaaRfF
import Derived.Test.YtbdkhegfmnladaaTbU
import Derived.Test.YtbdkhegfmnladaaApP
set_option maxRecDepth 100000
set_option linter.unusedVariables false
set_option linter.unusedSimpArgs false
namespace Mun
open Go Go.RowKit
open Go.Proofs

def ltN (a b : ByteArray) : Prop := a.data.toList < b.data.toList
instance (a b : ByteArray) : Decidable (ltN a b) := by unfold ltN; exact inferInstance
theorem ltN_irrefl (a : ByteArray) : ¬ ltN a a := List.lt_irrefl _
theorem ltN_trans {a b c : ByteArray} (h : ltN a b) (k : ltN b c) : ltN a c := List.lt_trans h k
theorem ltN_le {a b : ByteArray} (h : ltN a b) : leN a b := List.le_of_lt h
theorem ltN_or {a b : ByteArray} (h1 : ¬ ltN a b) (h2 : a ≠ b) : ltN b a := by
  rcases Classical.em (ltN b a) with h | h
  · exact h
  · exact absurd (leN_antisymm (List.not_lt.1 h) (List.not_lt.1 h1)) h2
theorem bl_eq : ∀ (x y : List UInt8), Op.bytesLess x y = decide (x < y)
  | _, [] => by simp [Op.bytesLess]
  | [], _ :: _ => by simp [Op.bytesLess]
  | a :: x, b :: y => by
    rw [Op.bytesLess, bl_eq x y, Bool.eq_iff_iff]
    simp [List.cons_lt_cons_iff]
theorem bytesLess_ltN (a b : ByteArray) : Op.bytesLess a.toList b.toList = decide (ltN a b) := by
  rw [bl_eq, ByteArray.toList_eq, ByteArray.toList_eq]
  rfl

structure RelX (X : List LX) (A : AS) : Prop where
  nd : (X.map (·.name)).Pairwise ltN
  hk : ∀ x ∈ X, (x.hs.map (·.1)).Nodup
  at_ : ∀ x ∈ X, klook x.hs = A.H x.name ∧ x.qs = A.Q x.name
  no : ∀ s, (∀ x ∈ X, x.name ≠ s) → (∀ u, A.H s u = none) ∧ A.Q s = []
theorem RelX.empty : RelX [] AS.none := ⟨List.Pairwise.nil, fun _ h => (by cases h), fun _ h => (by cases h), fun _ _ => ⟨fun _ => rfl, rfl⟩⟩
section
variable {X : List LX} {A : AS}
theorem RelX.inj (h : RelX X A) {i j : Nat} {x y : LX} (hi : X[i]? = some x) (hj : X[j]? = some y) (e : x.name = y.name) : i = j := by
  obtain ⟨hil, hie⟩ := List.getElem?_eq_some_iff.1 hi
  obtain ⟨hjl, hje⟩ := List.getElem?_eq_some_iff.1 hj
  have hp := List.pairwise_iff_getElem.1 h.nd
  rcases Nat.lt_trichotomy i j with h9 | h9 | h9
  · have h8 := hp i j (by simpa using hil) (by simpa using hjl) h9
    simp only [List.getElem_map, hie, hje, e] at h8
    exact absurd h8 (ltN_irrefl _)
  · exact h9
  · have h8 := hp j i (by simpa using hjl) (by simpa using hil) h9
    simp only [List.getElem_map, hie, hje, e] at h8
    exact absurd h8 (ltN_irrefl _)
theorem RelX.uniq (h : RelX X A) {x y : LX} (hx : x ∈ X) (hy : y ∈ X) (e : x.name = y.name) : x = y := by
  obtain ⟨i, hi⟩ := List.mem_iff_getElem?.1 hx
  obtain ⟨j, hj⟩ := List.mem_iff_getElem?.1 hy
  have := h.inj hi hj e
  subst this
  rw [hi] at hj
  exact Option.some.inj hj
theorem RelX.find (h : RelX X A) {s : ByteArray} {x : LX} (hx : x ∈ X) (hn : x.name = s) : X[idxX X s]? = some x := by
  obtain ⟨y, hy, hyn⟩ := idxX_lt (idxX_some hx hn)
  rw [hy, h.uniq (List.mem_of_getElem? hy) hx (hyn.trans hn.symm)]
theorem RelX.qs (h : RelX X A) (s : ByteArray) : qsOf X s = A.Q s := by
  unfold qsOf
  by_cases hi : idxX X s < X.length
  · obtain ⟨x, hx, hn⟩ := idxX_lt hi
    rw [hx]
    have h9 := (h.at_ x (List.mem_of_getElem? hx)).2
    rw [hn] at h9
    simpa using h9
  · rw [List.getElem?_eq_none (by omega), (h.no s (fun x hx e => hi (idxX_some hx e))).2]
    rfl
theorem waitP_none : ∀ {X : List LX} {o : Int}, waitP X o = none → ∀ x ∈ X, klook x.qs o = none
  | [], o, _, x, hx => by cases hx
  | y :: X, o, h, x, hx => by
    unfold waitP at h
    cases hk : klook y.qs o with
    | some m => rw [hk] at h; cases h
    | none =>
      rw [hk] at h
      rcases List.mem_cons.1 hx with e | e
      · rw [e]; exact hk
      · exact waitP_none h x e
theorem RelX.waits (h : RelX X A) (o : Int) : (waitP X o = none ∧ ¬ A.waits o) ∨ ∃ s m, waitP X o = some (s, m) ∧ (o, m) ∈ A.Q s := by
  cases hw : waitP X o with
  | none =>
    refine .inl ⟨rfl, ?_⟩
    rintro ⟨s, m, hq⟩
    by_cases hn : ∃ x ∈ X, x.name = s
    · obtain ⟨x, hx, hxn⟩ := hn
      have h9 := (h.at_ x hx).2
      rw [hxn] at h9
      have h8 := waitP_none hw x hx
      exact (klook_isSome x.qs o).2 (by rw [h9]; exact List.mem_map.2 ⟨_, hq, rfl⟩) h8
    · rw [(h.no s (fun x hx e => hn ⟨x, hx, e⟩)).2] at hq
      cases hq
  | some p =>
    obtain ⟨s, m⟩ := p
    obtain ⟨x, hx, hxn, hk⟩ := waitP_some hw
    refine .inr ⟨s, m, rfl, ?_⟩
    have h9 := (h.at_ x hx).2
    rw [hxn] at h9
    rw [← h9]
    exact klook_in hk
theorem heldR_names (A : AS) (o : Int) : ∀ X : List LX, (∀ x ∈ X, klook x.hs o = A.H x.name o ∧ ∀ k, A.H x.name o = some k → 0 < k) → heldR X o = ((X.filter fun x => (A.H x.name o).isSome).map (·.name)).map fun s => (s, (A.H s o).getD 0)
  | [], _ => rfl
  | x :: X, h => by
    have ih := heldR_names A o X (fun y hy => h y (by simp [hy]))
    obtain ⟨h1, h2⟩ := h x (by simp)
    unfold heldR at ih ⊢
    rw [List.map_cons, h1]
    cases hx : A.H x.name o with
    | none =>
      rw [List.filter_cons_of_neg (by simp), List.filter_cons_of_neg (by simp [hx])]
      exact ih
    | some k =>
      have := h2 k hx
      rw [List.filter_cons_of_pos (by simpa using this), List.filter_cons_of_pos (by simp [hx]), ih]
      simp [hx]
theorem pw_sub {α β : Type} {f : α → β} {R : β → β → Prop} {l : List α} {p : α → Bool} (h : (l.map f).Pairwise R) : ((l.filter p).map f).Pairwise R := h.sublist ((List.filter_sublist).map _)
theorem pw_nodup {l : List ByteArray} (h : l.Pairwise ltN) : l.Nodup := List.Pairwise.imp (fun {a b} (h9 : ltN a b) (e : a = b) => ltN_irrefl b (by rw [e] at h9; exact h9)) h
theorem pw_le {l : List ByteArray} (h : l.Pairwise ltN) : l.Pairwise leN := h.imp ltN_le
theorem RelX.held (h : RelX X A) (hok : A.Ok) (o : Int) {ns : List ByteArray} (h1 : ns.Pairwise leN) (h2 : ns.Nodup) (h3 : ∀ s, s ∈ ns ↔ A.H s o ≠ none) : heldR X o = HeldOf A o ns := by
  rw [heldR_names A o X (fun x hx => ⟨by rw [(h.at_ x hx).1], fun k hk => by
    have h9 := (isM_iff k).1 (hok.hm _ _ _ hk).1; omega⟩)]
  have hp := pw_sub (p := fun x => (A.H x.name o).isSome) h.nd
  rw [sorted_uniq (pw_le hp) h1 (pw_nodup hp) h2 (fun s => ?_)]
  · rfl
  · rw [h3 s, List.mem_map]
    constructor
    · rintro ⟨x, hx, rfl⟩
      have h9 := (List.mem_filter.1 hx).2
      intro e
      rw [e] at h9
      cases h9
    · intro hs
      by_cases hn : ∃ x ∈ X, x.name = s
      · obtain ⟨x, hx, rfl⟩ := hn
        refine ⟨x, List.mem_filter.2 ⟨hx, ?_⟩, rfl⟩
        cases hh : A.H x.name o with
        | none => exact absurd hh hs
        | some k => rfl
      · exact absurd ((h.no s (fun x hx e => hn ⟨x, hx, e⟩)).1 o) hs
theorem RelX.wf (h : RelX X A) (hok : A.Ok) (o u : Int) : u ∈ (wfL X o).map (·.1) ↔ A.blocks o u := by
  rcases h.waits o with ⟨hw, hno⟩ | ⟨s, m, hw, hq⟩
  · unfold wfL
    rw [hw]
    constructor
    · intro h9; cases h9
    · rintro ⟨s, m, hq, -⟩
      exact absurd ⟨s, m, hq⟩ hno
  · obtain ⟨x, hx, hxn, -⟩ := waitP_some hw
    have hwf : wfL X o = x.hs.filter (notP o m) ++ ahead x.qs o := by
      unfold wfL
      rw [hw]
      simp only
      rw [h.find hx hxn]
    obtain ⟨e1, e2⟩ := h.at_ x hx
    rw [hxn] at e1 e2
    rw [hwf, List.map_append, List.mem_append, e2]
    constructor
    · rintro (h9 | h9)
      · obtain ⟨a, ha, rfl⟩ := List.mem_map.1 h9
        obtain ⟨ha1, ha2⟩ := List.mem_filter.1 ha
        unfold notP at ha2
        simp at ha2
        exact ⟨s, m, hq, .inl ⟨ha2.1, a.2, by rw [← e1]; exact klook_mem (h.hk x hx) ha1, ha2.2⟩⟩
      · exact ⟨s, m, hq, .inr h9⟩
    · rintro ⟨s', m', hq', hb⟩
      have hss := hok.qu o s' m' s m hq' hq
      subst hss
      have hmm : m' = m := by
        have k1 := klook_mem (hok.qn s') hq
        have k2 := klook_mem (hok.qn s') hq'
        simp only at k1 k2
        rw [k1] at k2
        exact (Option.some.inj k2).symm
      subst hmm
      rcases hb with ⟨hne, k, hk, ht⟩ | hb
      · refine .inl (List.mem_map.2 ⟨(u, k), List.mem_filter.2 ⟨klook_in (by rw [e1]; exact hk), ?_⟩, rfl⟩)
        unfold notP
        simp [hne, ht]
      · exact .inr hb
theorem RelX.set (h : RelX X A) {i : Nat} {x x' : LX} (hi : X[i]? = some x) (hn : x'.name = x.name) (hk : (x'.hs.map (·.1)).Nodup) : RelX (X.set i x') ⟨updS A.H x.name (klook x'.hs), updS A.Q x.name x'.qs⟩ := by
  have hil := (List.getElem?_eq_some_iff.1 hi).1
  have hie := (List.getElem?_eq_some_iff.1 hi).2
  have hnm : (X.set i x').map (·.name) = X.map (·.name) := by
    rw [List.map_set, hn]
    have h9 := @List.set_getElem_self _ (X.map (·.name)) i (by simpa using hil)
    simpa [hie] using h9
  have hc : ∀ y ∈ X.set i x', y = x' ∨ (y ∈ X ∧ y.name ≠ x.name) := fun y hy => by
    obtain ⟨j, hj⟩ := List.mem_iff_getElem?.1 hy
    rw [List.getElem?_set] at hj
    by_cases e : i = j
    · rw [if_pos e, if_pos (by omega)] at hj
      exact .inl (Option.some.inj hj).symm
    · rw [if_neg e] at hj
      exact .inr ⟨List.mem_of_getElem? hj, fun e9 => e (h.inj hi hj e9.symm)⟩
  refine ⟨by rw [hnm]; exact h.nd, fun y hy => ?_, fun y hy => ?_, fun s hs => ?_⟩
  · rcases hc y hy with rfl | ⟨h9, -⟩
    · exact hk
    · exact h.hk y h9
  · rcases hc y hy with rfl | ⟨h9, h8⟩
    · rw [hn]; exact ⟨(updS_self _ _ _).symm, (updS_self _ _ _).symm⟩
    · simp only
      rw [updS_other _ _ h8, updS_other _ _ h8]
      exact h.at_ y h9
  · have hno : ∀ y ∈ X, y.name ≠ s := fun y hy e => by
      have h9 : s ∈ (X.set i x').map (·.name) := by rw [hnm]; exact List.mem_map.2 ⟨y, hy, e⟩
      obtain ⟨z, hz, hzs⟩ := List.mem_map.1 h9
      exact hs z hz hzs
    have hsx : s ≠ x.name := fun e => hno x (List.mem_of_getElem? hi) e.symm
    simp only
    rw [updS_other _ _ hsx, updS_other _ _ hsx]
    exact h.no s hno
theorem RelX.ins (h : RelX X A) {x : LX} (h0 : x.hs = []) (h00 : x.qs = []) (hno : ∀ y ∈ X, y.name ≠ x.name) {k : Nat} (h1 : ∀ y ∈ X.take k, ltN y.name x.name) (h2 : ∀ y ∈ X.drop k, ¬ ltN y.name x.name) : RelX (X.take k ++ x :: X.drop k) A := by
  have hm : ∀ y, y ∈ X.take k ++ x :: X.drop k ↔ y ∈ X ∨ y = x := fun y => by
    rw [List.mem_append, List.mem_cons]
    conv => rhs; rw [← List.take_append_drop k X, List.mem_append]
    constructor
    · rintro (h9 | h9 | h9)
      · exact .inl (.inl h9)
      · exact .inr h9
      · exact .inl (.inr h9)
    · rintro ((h9 | h9) | h9)
      · exact .inl h9
      · exact .inr (.inr h9)
      · exact .inr (.inl h9)
  refine ⟨?_, fun y hy => ?_, fun y hy => ?_, fun s hs => h.no s (fun y hy => hs y ((hm y).2 (.inl hy)))⟩
  · have hp := h.nd
    rw [← List.take_append_drop k X, List.map_append, List.pairwise_append] at hp
    rw [List.map_append, List.map_cons, List.pairwise_append, List.pairwise_cons]
    refine ⟨hp.1, ⟨fun s hs => ?_, hp.2.1⟩, fun a ha b hb => ?_⟩
    · obtain ⟨y, hy, rfl⟩ := List.mem_map.1 hs
      exact ltN_or (h2 y hy) (hno y (List.mem_of_mem_drop hy))
    · rcases List.mem_cons.1 hb with e | e
      · obtain ⟨y, hy, rfl⟩ := List.mem_map.1 ha
        rw [e]; exact h1 y hy
      · exact hp.2.2 a ha b e
  · rcases (hm y).1 hy with h9 | rfl
    · exact h.hk y h9
    · rw [h0]; exact List.nodup_nil
  · rcases (hm y).1 hy with h9 | rfl
    · exact h.at_ y h9
    · obtain ⟨k1, k2⟩ := h.no y.name hno
      rw [h0, h00, k2]
      exact ⟨funext fun u => (k1 u).symm, rfl⟩
theorem fitsP_F {hs : List (Int × Int)} (hn : (hs.map (·.1)).Nodup) (o m : Int) : fitsP hs o m = true ↔ GoesF (klook hs) o m := by
  unfold fitsP GoesF
  rw [List.all_eq_true]
  constructor
  · intro h u k hk hne
    have h9 := h (u, k) (klook_in hk)
    simpa [hne] using h9
  · intro h a ha
    by_cases e : a.1 = o
    · simp [e]
    · simp [e, h a.1 a.2 (klook_mem hn ha) e]

/-! Free, part by part -/
open Classical in
noncomputable def AS.part (A : AS) (o : Int) (L : List ByteArray) : AS := ⟨fun s => if s ∈ L then (A.freed o).H s else A.H s, fun s => if s ∈ L then (A.freed o).Q s else A.Q s⟩
theorem part_nil (A : AS) (o : Int) : A.part o [] = A := by
  unfold AS.part
  simp
theorem part_step (A : AS) (o : Int) (L : List ByteArray) (s : ByteArray) : (⟨updS (A.part o L).H s ((A.freed o).H s), updS (A.part o L).Q s ((A.freed o).Q s)⟩ : AS) = A.part o (L ++ [s]) := by
  refine AS.ext' (fun s' u => ?_) (fun s' => ?_)
  · simp only [AS.part]
    unfold updS
    by_cases e : s' = s
    · subst e; simp
    · rw [if_neg e]
      by_cases hl : s' ∈ L
      · simp only [hl, if_true, List.mem_append, true_or]
      · simp only [hl, e, if_false, List.mem_append, List.mem_singleton, or_self]
  · simp only [AS.part]
    unfold updS
    by_cases e : s' = s
    · subst e; simp
    · rw [if_neg e]
      by_cases hl : s' ∈ L
      · simp only [hl, if_true, List.mem_append, true_or]
      · simp only [hl, e, if_false, List.mem_append, List.mem_singleton, or_self]
theorem freed_same {A : AS} {o : Int} {s : ByteArray} (h : ¬ A.touched o s) : (A.freed o).H s = A.H s ∧ (A.freed o).Q s = A.Q s := by
  unfold AS.freed
  simp only
  rw [if_neg h, if_neg h]
  exact ⟨rfl, rfl⟩
theorem freed_yes {A : AS} {o : Int} {s : ByteArray} (h : A.touched o s) : (A.freed o).H s = (A.pop o s).1 ∧ (A.freed o).Q s = (A.pop o s).2.1 := by
  unfold AS.freed
  simp only
  rw [if_pos h, if_pos h]
  exact ⟨rfl, rfl⟩
theorem RelX.part_all (h : RelX X A) (o : Int) : A.part o (X.map (·.name)) = A.freed o := by
  have hs : ∀ s, s ∉ X.map (·.name) → ¬ A.touched o s := fun s hs => by
    obtain ⟨k1, k2⟩ := h.no s (fun x hx e => hs (List.mem_map.2 ⟨x, hx, e⟩))
    rintro (h9 | ⟨m, h9⟩)
    · exact h9 (k1 o)
    · rw [k2] at h9; cases h9
  refine AS.ext' (fun s u => ?_) (fun s => ?_)
  · simp only [AS.part]
    by_cases e : s ∈ X.map (·.name)
    · rw [if_pos e]
    · rw [if_neg e, (freed_same (hs s e)).1]
  · simp only [AS.part]
    by_cases e : s ∈ X.map (·.name)
    · rw [if_pos e]
    · rw [if_neg e, (freed_same (hs s e)).2]
open Classical in
noncomputable def outP (A : AS) (o : Int) (L : List ByteArray) : List (Int × Int) := popped A o (L.filter fun s => decide (A.touched o s))
theorem outP_yes {A : AS} {o : Int} {L : List ByteArray} {s : ByteArray} (h : A.touched o s) : outP A o (L ++ [s]) = outP A o L ++ (A.pop o s).2.2 := by
  unfold outP
  rw [List.filter_append, List.filter_cons_of_pos (by simpa using h), List.filter_nil, popped_snoc]
theorem outP_no {A : AS} {o : Int} {L : List ByteArray} {s : ByteArray} (h : ¬ A.touched o s) : outP A o (L ++ [s]) = outP A o L := by
  unfold outP
  rw [List.filter_append, List.filter_cons_of_neg (by simpa using h), List.filter_nil, List.append_nil]
open Classical in
theorem RelX.outP_all (h : RelX X A) (o : Int) {ns : List ByteArray} (h1 : ns.Pairwise leN) (h2 : ns.Nodup) (h3 : ∀ s, s ∈ ns ↔ A.touched o s) : outP A o (X.map (·.name)) = popped A o ns := by
  unfold outP
  have hp : ((X.map (·.name)).filter fun s => decide (A.touched o s)).Pairwise ltN := h.nd.sublist List.filter_sublist
  rw [sorted_uniq (pw_le hp) h1 (pw_nodup hp) h2 (fun s => ?_)]
  rw [List.mem_filter, h3 s]
  constructor
  · rintro ⟨-, h9⟩; simpa using h9
  · intro h9
    refine ⟨?_, by simpa using h9⟩
    by_cases hn : ∃ x ∈ X, x.name = s
    · obtain ⟨x, hx, e⟩ := hn
      exact List.mem_map.2 ⟨x, hx, e⟩
    · obtain ⟨k1, k2⟩ := h.no s (fun x hx e => hn ⟨x, hx, e⟩)
      rcases h9 with h8 | ⟨m, h8⟩
      · exact absurd (k1 o) h8
      · rw [k2] at h8; cases h8
end

/-! sizes -/
def tot : List LX → Nat
  | [] => 0
  | x :: X => x.hs.length + x.qs.length + tot X
theorem tot_app : ∀ (X Y : List LX), tot (X ++ Y) = tot X + tot Y
  | [], Y => by simp [tot]
  | x :: X, Y => by simp only [List.cons_append, tot, tot_app X Y]; omega
theorem tot_set : ∀ {X : List LX} {i : Nat} {x : LX} (x' : LX), X[i]? = some x → tot (X.set i x') + (x.hs.length + x.qs.length) = tot X + (x'.hs.length + x'.qs.length)
  | [], i, x, x', h => by simp at h
  | y :: X, 0, x, x', h => by
    simp at h
    subst h
    simp only [List.set_cons_zero, tot]; omega
  | y :: X, i + 1, x, x', h => by
    have := tot_set x' (by simpa using h : X[i]? = some x)
    simp only [List.set_cons_succ, tot]; omega
theorem tot_mem : ∀ {X : List LX} {x : LX}, x ∈ X → x.hs.length + x.qs.length ≤ tot X
  | [], x, h => by cases h
  | y :: X, x, h => by
    simp only [tot]
    rcases List.mem_cons.1 h with rfl | e
    · omega
    · have := tot_mem e; omega
structure XSz (X : List LX) (c : Nat) : Prop where
  ln : X.length ≤ c
  tt : tot X ≤ c
theorem XSz.mono {X : List LX} {c c' : Nat} (h : XSz X c) (hc : c ≤ c') : XSz X c' := ⟨Nat.le_trans h.ln hc, Nat.le_trans h.tt hc⟩
theorem wfL_len {X : List LX} (o : Int) : (wfL X o).length ≤ tot X := by
  unfold wfL
  cases hw : waitP X o with
  | none => exact Nat.zero_le _
  | some p =>
    obtain ⟨s, m⟩ := p
    simp only
    cases hx : X[idxX X s]? with
    | none => exact Nat.zero_le _
    | some x =>
      simp only
      have h1 := tot_mem (List.mem_of_getElem? hx)
      have h2 := List.length_filter_le (notP o m) x.hs
      have h3 : (ahead x.qs o).length ≤ x.qs.length := (List.takeWhile_sublist _).length_le
      rw [List.length_append]; omega
/-- all that hold or wait -/
def ownersX : List LX → List Int
  | [] => []
  | x :: X => x.hs.map (·.1) ++ x.qs.map (·.1) ++ ownersX X
theorem ownersX_len : ∀ X : List LX, (ownersX X).length = tot X
  | [] => rfl
  | x :: X => by simp only [ownersX, tot, List.length_append, List.length_map, ownersX_len X]
theorem ownersX_mem : ∀ {X : List LX} {x : LX} {u : Int}, x ∈ X → (u ∈ x.hs.map (·.1) ∨ u ∈ x.qs.map (·.1)) → u ∈ ownersX X
  | [], x, u, h, _ => by cases h
  | y :: X, x, u, h, hu => by
    simp only [ownersX, List.mem_append]
    rcases List.mem_cons.1 h with rfl | e
    · exact .inl hu
    · exact .inr (ownersX_mem e hu)
theorem wfL_owner {X : List LX} {o u : Int} (h : u ∈ (wfL X o).map (·.1)) : u ∈ ownersX X := by
  unfold wfL at h
  cases hw : waitP X o with
  | none => rw [hw] at h; cases h
  | some p =>
    obtain ⟨s, m⟩ := p
    rw [hw] at h
    simp only at h
    cases hx : X[idxX X s]? with
    | none => rw [hx] at h; cases h
    | some x =>
      rw [hx] at h
      simp only at h
      rw [List.map_append, List.mem_append] at h
      refine ownersX_mem (List.mem_of_getElem? hx) ?_
      rcases h with h | h
      · obtain ⟨a, ha, rfl⟩ := List.mem_map.1 h
        exact .inl (List.mem_map.2 ⟨a, (List.mem_filter.1 ha).1, rfl⟩)
      · obtain ⟨a, ha, rfl⟩ := List.mem_map.1 h
        exact .inr (List.mem_map.2 ⟨a, (List.takeWhile_sublist _).mem ha, rfl⟩)
end Mun
