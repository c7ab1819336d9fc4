/- The reference's Free. -/
import Derived.Test.YtbdkhegfmnladaaRfS
set_option maxRecDepth 100000
set_option linter.unusedVariables false
set_option linter.unusedSimpArgs false
namespace Mun
open Go Go.RowKit
open Go.Proofs

def totQ : List LX → Nat
  | [] => 0
  | x :: X => x.qs.length + totQ X
theorem totQ_le : ∀ X : List LX, totQ X ≤ tot X
  | [] => Nat.le_refl _
  | x :: X => by simp only [totQ, tot]; have := totQ_le X; omega
theorem totQ_set : ∀ {X : List LX} {i : Nat} {x : LX} (x' : LX), X[i]? = some x → totQ (X.set i x') + x.qs.length = totQ X + x'.qs.length
  | [], i, x, x', h => by simp at h
  | y :: X, 0, x, x', h => by
    simp at h
    subst h
    simp only [List.set_cons_zero, totQ]; omega
  | y :: X, i + 1, x, x', h => by
    have := totQ_set x' (by simpa using h : X[i]? = some x)
    simp only [List.set_cons_succ, totQ]; omega
theorem totQ_mem : ∀ {X : List LX} {x : LX}, x ∈ X → x.qs.length ≤ totQ X
  | [], x, h => by cases h
  | y :: X, x, h => by
    simp only [totQ]
    rcases List.mem_cons.1 h with rfl | e
    · omega
    · have := totQ_mem e; omega
/-- Free's plain state: of the first i locks the owner is gone -/
structure FrP (X : List LX) (A : AS) (o : Int) (i : Nat) (Xi : List LX) (l : List (Int × Int)) : Prop where
  rel : RelX Xi (A.part o ((X.map (·.name)).take i))
  nm : Xi.map (·.name) = X.map (·.name)
  out : l = outP A o ((X.map (·.name)).take i)
  tt : tot Xi ≤ tot X
  tq : l.length + totQ Xi ≤ tot X
/-- within the inner loop -/
structure FrQ (X : List LX) (A : AS) (o : Int) (i : Nat) (Xi : List LX) (l : List (Int × Int)) (x : LX) (y : LX) (pre : List (Int × Int)) : Prop where
  nm : y.name = x.name
  hk : (y.hs.map (·.1)).Nodup
  h1 : (A.pop o x.name).1 = (popF (klook y.hs) y.qs).1
  h2 : (A.pop o x.name).2.1 = (popF (klook y.hs) y.qs).2.1
  h3 : (A.pop o x.name).2.2 = pre ++ (popF (klook y.hs) y.qs).2.2
  sz : y.hs.length + y.qs.length ≤ x.hs.length + x.qs.length
  sq : pre.length + y.qs.length ≤ x.qs.length
section
variable {X Xi : List LX} {A : AS} {o : Int} {i : Nat} {l pre : List (Int × Int)} {x y : LX}
theorem FrP.start (hr : RelX X A) {X1 : List LX} (hp : pX X1 = pX X) (o : Int) : FrP X A o 0 X1 [] :=
  ⟨by rw [List.take_zero, part_nil]; exact hr.cong hp, pX_names hp, by unfold outP popped; simp, Nat.le_of_eq (pX_tot hp), by have h1 := totQ_le X1; rw [pX_tot hp] at h1; simpa using h1⟩
theorem FrP.len (h : FrP X A o i Xi l) : Xi.length = X.length := by
  have := congrArg List.length h.nm
  simpa using this
theorem FrP.take (h : FrP X A o i Xi l) (hx : Xi[i]? = some x) : (X.map (·.name)).take (i + 1) = (X.map (·.name)).take i ++ [x.name] := by
  have h9 : (X.map (·.name))[i]? = some x.name := by
    rw [← h.nm, List.getElem?_map, hx]; rfl
  rw [List.take_add_one, h9]; rfl
theorem FrP.fresh (h : FrP X A o i Xi l) (hx : Xi[i]? = some x) : x.name ∉ (X.map (·.name)).take i := by
  intro hm
  have hp := h.rel.nd
  rw [h.nm] at hp
  have h9 : (X.map (·.name))[i]? = some x.name := by
    rw [← h.nm, List.getElem?_map, hx]; rfl
  obtain ⟨j, hj⟩ := List.mem_iff_getElem?.1 hm
  rw [List.getElem?_take] at hj
  split at hj
  · rename_i hji
    obtain ⟨a1, a2⟩ := List.getElem?_eq_some_iff.1 hj
    obtain ⟨b1, b2⟩ := List.getElem?_eq_some_iff.1 h9
    have := List.pairwise_iff_getElem.1 hp j i a1 b1 hji
    rw [a2, b2] at this
    exact ltN_irrefl _ this
  · cases hj
open Classical in
theorem FrP.at_ (h : FrP X A o i Xi l) (hx : Xi[i]? = some x) : klook x.hs = A.H x.name ∧ x.qs = A.Q x.name := by
  obtain ⟨h1, h2⟩ := h.rel.at_ x (List.mem_of_getElem? hx)
  have hn := h.fresh hx
  unfold AS.part at h1 h2
  simp only [if_neg hn] at h1 h2
  exact ⟨h1, h2⟩
theorem filter_tot {X : List LX} {i : Nat} {x y : LX} (hx : X[i]? = some x) (h : y.hs.length + y.qs.length ≤ x.hs.length + x.qs.length) : tot (X.set i y) ≤ tot X := by
  have := tot_set y hx
  omega
/-- a lock that the owner has nothing to do with -/
theorem FrP.skip (h : FrP X A o i Xi l) (hx : Xi[i]? = some x) (ha : decide (o ∈ x.hs.map (·.1)) = false) (hb : decide (o ∈ x.qs.map (·.1)) = false) (hv qv : Value) :
    FrP X A o (i + 1) (Xi.set i ⟨x.name, x.hs.filter (neO o), x.qs.filter (neO o), hv, qv⟩) l := by
  rw [filter_same ha, filter_same hb]
  obtain ⟨h1, h2⟩ := h.at_ hx
  have hnt : ¬ A.touched o x.name := by
    rintro (h9 | ⟨m, h9⟩)
    · rw [← h1] at h9
      exact (of_decide_eq_false ha) ((klook_isSome _ _).1 h9)
    · rw [← h2] at h9
      exact (of_decide_eq_false hb) (List.mem_map.2 ⟨_, h9, rfl⟩)
  have hs := h.rel.set hx (x' := ⟨x.name, x.hs, x.qs, hv, qv⟩) rfl (h.rel.hk x (List.mem_of_getElem? hx))
  obtain ⟨f1, f2⟩ := freed_same hnt
  simp only [h1] at hs
  rw [h2] at hs
  rw [← f1, ← f2, part_step, ← h.take hx] at hs
  refine ⟨by rw [f2, ← h2] at hs; exact hs, ?_, by rw [h.take hx, outP_no hnt]; exact h.out, Nat.le_trans (filter_tot hx (by simp)) h.tt, by have h9 := totQ_set (⟨x.name, x.hs, x.qs, hv, qv⟩ : LX) hx; have := h.tq; simp only at h9; omega⟩
  rw [List.map_set, ← h.nm]
  obtain ⟨hl, he⟩ := List.getElem?_eq_some_iff.1 hx
  have h9 := @List.set_getElem_self _ (Xi.map (·.name)) i (by simpa using hl)
  simpa [he] using h9
theorem FrQ.start (h : FrP X A o i Xi l) (hx : Xi[i]? = some x) (hv qv : Value) : FrQ X A o i Xi l x ⟨x.name, x.hs.filter (neO o), x.qs.filter (neO o), hv, qv⟩ [] := by
  obtain ⟨h1, h2⟩ := h.at_ hx
  have e : A.pop o x.name = popF (klook (x.hs.filter (neO o))) (x.qs.filter (neO o)) := by
    unfold AS.pop
    rw [klook_filter, h1, h2]
  refine ⟨rfl, (h.rel.hk x (List.mem_of_getElem? hx)).sublist ((List.filter_sublist).map _), by rw [e], by rw [e], by rw [e]; rfl, ?_, ?_⟩
  · have a1 := List.length_filter_le (neO o) x.hs
    have a2 := List.length_filter_le (neO o) x.qs
    simp only; omega
  · have a2 := List.length_filter_le (neO o) x.qs
    simpa using a2
theorem FrQ.step (h : FrQ X A o i Xi l x y pre) {a : Int × Int} {qs : List (Int × Int)} (hq : y.qs = a :: qs) (hg : fitsP y.hs a.1 a.2 = true) (hv qv : Value) : FrQ X A o i Xi l x ⟨y.name, kset y.hs a.1 a.2, qs, hv, qv⟩ (pre ++ [a]) := by
  have hp := popF_yes ((fitsP_F h.hk a.1 a.2).1 hg) qs
  have h1 := h.h1
  have h2 := h.h2
  have h3 := h.h3
  have hsz := h.sz
  rw [hq, hp] at h1 h2 h3
  have hsq := h.sq
  rw [hq] at hsz hsq
  refine ⟨h.nm, kset_nodup h.hk _ _, by simp only [klook_kset_upd]; exact h1, by simp only [klook_kset_upd]; exact h2, by simp only [klook_kset_upd]; rw [h3]; simp, ?_, ?_⟩
  · have := kset_len y.hs a.1 a.2
    simp only [List.length_cons] at hsz ⊢
    omega
  · simp only [List.length_cons, List.length_append, List.length_nil] at hsq ⊢
    omega
theorem FrQ.done (h : FrQ X A o i Xi l x y pre) (hP : FrP X A o i Xi l) (hx : Xi[i]? = some x) (ht : A.touched o x.name) (hd : y.qs = [] ∨ ∃ a qs, y.qs = a :: qs ∧ fitsP y.hs a.1 a.2 = false) : FrP X A o (i + 1) (Xi.set i y) (l ++ pre) := by
  have hp : popF (klook y.hs) y.qs = (klook y.hs, y.qs, []) := by
    rcases hd with e | ⟨a, qs, e, hg⟩
    · rw [e]; rfl
    · rw [e]; exact popF_no (fun h9 => by rw [(fitsP_F h.hk a.1 a.2).2 h9] at hg; cases hg) qs
  have h1 := h.h1
  have h2 := h.h2
  have h3 := h.h3
  rw [hp] at h1 h2 h3
  simp only [List.append_nil] at h1 h2 h3
  have hs := hP.rel.set hx (x' := y) h.nm h.hk
  obtain ⟨f1, f2⟩ := freed_yes ht
  rw [← h1, ← h2, ← f1, ← f2, part_step, ← hP.take hx] at hs
  refine ⟨hs, ?_, by rw [hP.take hx, outP_yes ht, h3, hP.out], Nat.le_trans (filter_tot hx h.sz) hP.tt, by have h9 := totQ_set y hx; have := hP.tq; have := h.sq; rw [List.length_append]; omega⟩
  rw [List.map_set, ← hP.nm, h.nm]
  obtain ⟨hl, he⟩ := List.getElem?_eq_some_iff.1 hx
  have h9 := @List.set_getElem_self _ (Xi.map (·.name)) i (by simpa using hl)
  simpa [he] using h9
theorem FrP.touched (h : FrP X A o i Xi l) (hx : Xi[i]? = some x) (hab : decide (o ∈ x.hs.map (·.1)) = true ∨ decide (o ∈ x.qs.map (·.1)) = true) : A.touched o x.name := by
  obtain ⟨h1, h2⟩ := h.at_ hx
  rcases hab with h9 | h9
  · left
    rw [← h1]
    exact (klook_isSome _ _).2 (of_decide_eq_true h9)
  · right
    rw [← h2]
    obtain ⟨a, ha, e⟩ := List.mem_map.1 (of_decide_eq_true h9)
    exact ⟨a.2, by rw [← e]; exact ha⟩
end
def FrPostX (F : Foot) (w : World) (X : List LX) (A : AS) (o : Int) (e : Ending) (w' : World) : Prop :=
  ∃ v' X' rv l, e = .returned (.tuple #[.agg #[v'], rv]) ∧ RelX X' (A.freed o) ∧ TabF F w' v' X' ∧ l = outP A o (X.map (·.name)) ∧ w'.ownsRow w.heap.size 29 1 rv l.length (ov l) ∧ Below w.heap.size w w' ∧ X'.length = X.length ∧ tot X' ≤ tot X
end Mun
