/- The contract of hold over a whole table. -/
import Derived.Test.YtbdkhegfmnladaaLockT
set_option maxRecDepth 100000
set_option linter.unusedVariables false
set_option linter.unusedSimpArgs false
namespace Mun
open Go Go.RowKit
open Go.Proofs

/-- a pair laid in -/
def kset {κ β : Type} [DecidableEq κ] : List (κ × β) → κ → β → List (κ × β)
  | [], k, v => [(k, v)]
  | p :: es, k, v => if p.1 = k then (k, v) :: es else p :: kset es k v
def klook {κ β : Type} [DecidableEq κ] (l : List (κ × β)) (k : κ) : Option β := (l.find? (fun p => decide (p.1 = k))).map (·.2)
theorem gset_map {κ β : Type} [DecidableEq κ] (g : β → Value) (l : List (κ × β)) (k : κ) (v : β) : gset (l.map fun a => (a.1, g a.2)) k (g v) = (kset l k v).map fun a => (a.1, g a.2) := by
  induction l with
  | nil => rfl
  | cons p l ih =>
    simp only [List.map_cons, gset, kset]
    split
    · rfl
    · rw [List.map_cons, ih]
theorem glook_map {κ β : Type} [DecidableEq κ] (g : β → Value) (l : List (κ × β)) (k : κ) : glook (l.map fun a => (a.1, g a.2)) k = (klook l k).map g := by
  induction l with
  | nil => rfl
  | cons p l ih =>
    simp only [glook, klook] at ih ⊢
    by_cases h : p.1 = k
    · simp [List.find?_cons, h]
    · have h1 : (p.1 == k) = false := by simpa using h
      simp only [List.map_cons, List.find?_cons, h1, h, decide_false]
      exact ih
theorem klook_cons {κ β : Type} [DecidableEq κ] (p : κ × β) (l : List (κ × β)) (k : κ) : klook (p :: l) k = if p.1 = k then some p.2 else klook l k := by
  unfold klook
  by_cases h : p.1 = k
  · simp [List.find?_cons, h]
  · simp [List.find?_cons, h]
theorem klook_set {κ β : Type} [DecidableEq κ] {l : List (κ × β)} {k : κ} {v : β} (h : klook l k = some v) : ∃ i : Nat, l[i]? = some (k, v) ∧ ∀ v', kset l k v' = l.set i (k, v') := by
  induction l with
  | nil => simp [klook] at h
  | cons p l ih =>
    rw [klook_cons] at h
    by_cases hp : p.1 = k
    · rw [if_pos hp] at h
      injection h with h
      exact ⟨0, by rw [← hp, ← h]; rfl, fun v' => by simp [kset, hp]⟩
    · rw [if_neg hp] at h
      obtain ⟨i, h1, h2⟩ := ih h
      exact ⟨i + 1, by simpa using h1, fun v' => by simp [kset, hp, h2]⟩
theorem klook_kset {κ β : Type} [DecidableEq κ] (l : List (κ × β)) (k : κ) (v : β) (n : κ) : klook (kset l k v) n = if n = k then some v else klook l n := by
  induction l with
  | nil =>
    simp only [kset, klook_cons]
    by_cases h : n = k
    · simp [h]
    · simp [h, Ne.symm h]
  | cons p l ih =>
    simp only [kset]
    by_cases hp : p.1 = k
    · rw [if_pos hp, klook_cons, klook_cons]
      by_cases h : n = k
      · simp [h]
      · have h2 : ¬ p.1 = n := fun e => h (e.symm.trans hp)
        simp [h, Ne.symm h, h2]
    · rw [if_neg hp, klook_cons, klook_cons, ih]
      by_cases h : p.1 = n
      · have h2 : ¬ n = k := fun e => hp (h.trans e)
        simp [h, h2]
      · simp [h]
theorem kset_new {κ β : Type} [DecidableEq κ] {l : List (κ × β)} {k : κ} (h : klook l k = none) (v : β) : kset l k v = l ++ [(k, v)] := by
  induction l with
  | nil => rfl
  | cons p l ih =>
    by_cases hp : p.1 = k
    · simp [klook, List.find?_cons, hp] at h
    · have h1 : klook l k = none := by simpa [klook, List.find?_cons, hp] using h
      simp only [kset, if_neg hp, ih h1, List.cons_append]

/-- a table at work in a law: all its blocks are the law's own -/
structure TabL (W0 w : World) (t : TV) : Prop where
  rep : TabR w t
  bl : Below W0.heap.size W0 w
  lo : W0.heap.size ≤ t.T ∧ W0.heap.size ≤ t.P ∧ W0.heap.size ≤ t.W ∧ W0.heap.size ≤ t.N
  loP : ∀ (i : Nat) (x : ByteArray × PV), t.pl[i]? = some x → W0.heap.size ≤ x.2.p ∧ W0.heap.size ≤ x.2.H ∧ ∀ g, qblk x.2.q = some g → W0.heap.size ≤ g
  loN : ∀ (i : Nat) (y : Int × (Nat × List ByteArray)), t.nm[i]? = some y → W0.heap.size ≤ y.2.1
theorem TabL.below {W0 w w' : World} {t : TV} (h : TabL W0 w t) (hb : Below w.heap.size w w') : TabL W0 w' t := ⟨h.rep.keep hb.block, h.bl.trans (hb.mono h.bl.size), h.lo, h.loP, h.loN⟩

/-- a world between: block H alone as it is behind -/
def midW (w w' : World) (H : Nat) : World := { w with heap := match w'.heap[H]? with | some o => w.heap.setIfInBounds H o | none => w.heap }
theorem midW_same {w w' : World} {H : Nat} (h : H < w.heap.size) (h' : H < w'.heap.size) : (midW w w' H).heap[H]? = w'.heap[H]? := by
  unfold midW
  rw [Array.getElem?_eq_getElem h']
  simp [Array.getElem?_setIfInBounds, h]
theorem midW_other (w w' : World) (H k : Nat) (hk : k ≠ H) : (midW w w' H).heap[k]? = w.heap[k]? := by
  unfold midW
  cases w'.heap[H]? with
  | none => rfl
  | some o => simp [Array.getElem?_setIfInBounds, Ne.symm hk]
theorem midW_size (w w' : World) (H : Nat) : (midW w w' H).heap.size = w.heap.size := by
  unfold midW
  cases w'.heap[H]? <;> simp

/-- a name laid into a set of names -/
def sadd : List ByteArray → ByteArray → List ByteArray
  | [], s => [s]
  | a :: es, s => if a = s then s :: es else a :: sadd es s
theorem gset_setV (es : List ByteArray) (s : ByteArray) : gset (setV es) s (.agg #[]) = setV (sadd es s) := by
  induction es with
  | nil => rfl
  | cons a es ih =>
    simp only [setV, List.map_cons, gset, sadd] at ih ⊢
    by_cases h : a = s
    · simp [h]
    · simp only [if_neg h, List.map_cons, ih]
def nmL (nm : List (Int × (Nat × List ByteArray))) : List (Int × List ByteArray) := nm.map fun a => (a.1, a.2.2)
def held1 (t : TV) (i : Nat) (x : ByteArray × PV) (o m : Int) (nm : List (Int × (Nat × List ByteArray))) : TV := { t with pl := t.pl.set i (x.1, { x.2 with hs := kset x.2.hs o m }), nm := nm }

theorem hold_any {W0 w : World} {t : TV} (h : TabL W0 w t) {i : Nat} {x : ByteArray × PV} (hx : t.pl[i]? = some x) (o m : Int) :
    Calls Try.prog 30 #[.pointer (some ⟨t.T, 0, none⟩), .pointer (some ⟨x.2.p, 0, none⟩), .int .u64 o, .string x.1, .int .i64 m] w fun e w' => e = .returned (.tuple #[]) ∧
      ∃ nm, TabL W0 w' (held1 t i x o m nm) ∧ (∀ o2, (klook nm o2).map (·.2) = if o2 = o then some (sadd (((klook t.nm o).map (·.2)).getD []) x.1) else (klook t.nm o2).map (·.2)) := by
  obtain ⟨hp, hQ⟩ := h.rep.pls i x hx
  obtain ⟨d1, d2, d3⟩ := h.rep.dH i x hx
  obtain ⟨l1, l2, l3⟩ := h.loP i x hx
  have hHl := hp.hl.lt
  have hhs : ∀ hs : List (Int × Int), gset (hsV hs) o (.int .i64 m) = hsV (kset hs o m) := fun hs => gset_map (fun k : Int => Value.int .i64 k) hs o m
  cases hn : klook t.nm o with
  | none =>
    have hn2 : glook (nmV t.nm) o = none := by
      have h9 := glook_map (fun y : Nat × List ByteArray => Value.map (some y.1)) t.nm o
      rw [hn] at h9
      exact h9
    refine (hold_new w t.T t.P t.W t.N x.2.p x.2.H x.2.q _ _ _ _ o m x.1 h.rep.tab hp hn2 d3 d1 d2 h.rep.d0.2.1.symm h.rep.d0.2.2.symm).mono ?_
    rintro e w' ⟨rfl, t1, p1, s1, x1, x2, x3, g1, k1⟩
    rw [hhs] at p1
    have hmid : TabR (midW w w' x.2.H) { t with pl := t.pl.set i (x.1, { x.2 with hs := kset x.2.hs o m }) } :=
      h.rep.held hx (p1.hl.keep (midW_same hHl (by omega)).symm.symm) (fun k _ hk => midW_other _ _ _ _ hk)
    refine ⟨rfl, t.nm ++ [(o, (w.heap.size, [x.1]))], ⟨?_, ?_, h.lo, fun j y hy => ?_, fun j y hy => ?_⟩, fun o2 => ?_⟩
    · refine TabR.nameNew (t := { t with pl := t.pl.set i (x.1, { x.2 with hs := kset x.2.hs o m }) }) hmid ?_ g1 (by rw [midW_size]; exact Nat.le_refl _) (fun k hk hkN => ?_)
      · have h9 := gset_map (fun y : Nat × List ByteArray => Value.map (some y.1)) t.nm o (w.heap.size, [x.1])
        rw [kset_new hn] at h9
        have h8 := t1.nm
        unfold nmV at h8
        rw [h9] at h8
        exact h8
      · rw [midW_size] at hk
        by_cases hkH : k = x.2.H
        · subst hkH; exact (midW_same hHl (by omega)).symm
        · rw [midW_other _ _ _ _ hkH]; exact k1 k hk hkH hkN
    · have h5 := h.bl.size
      have h6 := h.lo
      exact ⟨x1.trans h.bl.os, x2.trans h.bl.tape, x3.trans h.bl.output, by omega, fun k hk => by rw [k1 k (by omega) (by omega) (by omega), h.bl.block k hk]⟩
    · rcases set_cases hy with ⟨rfl, rfl, -⟩ | ⟨-, h9⟩
      · exact ⟨l1, l2, l3⟩
      · exact h.loP j y h9
    · rcases snoc_idx hy with h9 | ⟨-, rfl⟩
      · exact h.loN j y h9
      · exact h.bl.size
    · by_cases ho : o2 = o
      · subst ho
        rw [if_pos rfl]
        have h9 : klook (t.nm ++ [(o2, (w.heap.size, [x.1]))]) o2 = some (w.heap.size, [x.1]) := by
          unfold klook at hn ⊢
          rw [List.find?_append]
          simp only [Option.map_eq_none_iff] at hn
          rw [hn]
          simp
        rw [h9]
        simp [sadd]
      · rw [if_neg ho]
        unfold klook
        rw [List.find?_append]
        cases hf : t.nm.find? (fun p => decide (p.1 = o2)) with
        | none => simp [Ne.symm ho]
        | some z => simp
  | some y =>
    obtain ⟨j, hj, hset⟩ := klook_set hn
    have hn2 : glook (nmV t.nm) o = some (.map (some y.1)) := by
      have h9 := glook_map (fun y : Nat × List ByteArray => Value.map (some y.1)) t.nm o
      rw [hn] at h9
      exact h9
    obtain ⟨m1, m2, m3⟩ := h.rep.dM j _ hj
    have mH := h.rep.dHM i j x _ hx hj
    have hMl := (h.rep.nms j _ hj).lt
    refine (hold_old w t.T t.P t.W t.N x.2.p x.2.H y.1 x.2.q _ _ _ _ _ o m x.1 h.rep.tab hp hn2 (h.rep.nms j _ hj) d3 d1 d2 m1 m2 m3 mH.symm).mono ?_
    rintro e w' ⟨rfl, t1, p1, g1, s1, x1, x2, x3, k1⟩
    rw [hhs] at p1
    rw [gset_setV] at g1
    have hmid : TabR (midW w w' x.2.H) { t with pl := t.pl.set i (x.1, { x.2 with hs := kset x.2.hs o m }) } :=
      h.rep.held hx (p1.hl.keep (midW_same hHl (by omega)).symm.symm) (fun k _ hk => midW_other _ _ _ _ hk)
    refine ⟨rfl, kset t.nm o (y.1, sadd y.2 x.1), ⟨?_, ?_, h.lo, fun k z hz => ?_, fun k z hz => ?_⟩, fun o2 => ?_⟩
    · unfold held1
      rw [hset]
      refine TabR.names (t := { t with pl := t.pl.set i (x.1, { x.2 with hs := kset x.2.hs o m }) }) hmid hj g1 (fun k hk hkM => ?_)
      rw [midW_size] at hk
      by_cases hkH : k = x.2.H
      · subst hkH; exact (midW_same hHl (by omega)).symm
      · rw [midW_other _ _ _ _ hkH]; exact k1 k hkH hkM
    · have h5 := h.bl.size
      have h6 : W0.heap.size ≤ y.1 := h.loN j (o, y) hj
      exact ⟨x1.trans h.bl.os, x2.trans h.bl.tape, x3.trans h.bl.output, by omega, fun k hk => by rw [k1 k (by omega) (by omega), h.bl.block k hk]⟩
    · rcases set_cases hz with ⟨rfl, rfl, -⟩ | ⟨-, h9⟩
      · exact ⟨l1, l2, l3⟩
      · exact h.loP k z h9
    · have hz2 : (t.nm.set j (o, (y.1, sadd y.2 x.1)))[k]? = some z := by rw [← hset]; exact hz
      rcases set_cases hz2 with ⟨rfl, rfl, -⟩ | ⟨-, h9⟩
      · exact (h.loN j (o, y) hj : W0.heap.size ≤ y.1)
      · exact h.loN k z h9
    · rw [klook_kset]
      by_cases ho : o2 = o
      · simp [ho]
      · simp [ho]
end Mun
