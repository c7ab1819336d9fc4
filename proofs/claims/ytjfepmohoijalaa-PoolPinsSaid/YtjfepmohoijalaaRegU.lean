/- A region that draws its order and whose last operation writes what its loads read: S is asked behind each operation but the exempt ones (X), which wait for all loads. -/
import Derived.Deep.RegionHeldLaw
set_option maxRecDepth 100000
namespace Mun
open Go

section
variable {P : Program} {ops : Array Oper} {Q : Exit → Act → World → Prop} {md : Region.Mode} {S : World → Prop} {X : List Nat}

/-- in whatever order; S holds behind each operation that is not exempt -/
def wpAnyU (P : Program) (md : Region.Mode) (ops : Array Oper) (Q : Exit → Act → World → Prop) (S : World → Prop) (X : List Nat) : Nat → Array Bool → Act → World → Prop
  | 0, l, a, w => Region.ready md ops l = [] ∧ Q .normal a w
  | n + 1, l, a, w => (Region.ready md ops l = [] → Q .normal a w) ∧
    ∀ i ∈ Region.ready md ops l, wpOp P ops Q i (fun a' w' => (X.contains i = false → S w') ∧ wpAnyU P md ops Q S X n (l.setIfInBounds i true) a' w') a w

theorem wpAnyU_any : ∀ (n : Nat) (l : Array Bool) (a : Act) (w : World), wpAnyU P md ops Q S X n l a w → wpAny P md ops Q n l a w
  | 0, _, _, _, h => h
  | n + 1, _, _, _, h => ⟨h.1, fun i hi => wpOp_mono (fun a' w' h' => wpAnyU_any n _ a' w' h'.2) (h.2 i hi)⟩

/-- all of D wait for i, directly or through D -/
def waits (md : Region.Mode) (ops : Array Oper) (i : Nat) (D : List Nat) : Bool :=
  D.all fun d => match ops[d]? with | some o => o.after.any (fun e => Region.binds md e && (e.on == i || D.contains e.on)) | none => false
def unlisted (l : Array Bool) (D : List Nat) : Bool := D.all fun d => l.getD d true == false

theorem waits_spec {i : Nat} {D : List Nat} (h : waits md ops i D = true) (d : Nat) (hd : d ∈ D) : ∃ o, ops[d]? = some o ∧ ∃ e ∈ o.after, Region.binds md e = true ∧ (e.on = i ∨ e.on ∈ D) := by
  unfold waits at h
  have h1 := List.all_eq_true.1 h d hd
  cases ho : ops[d]? with
  | none => rw [ho] at h1; cases h1
  | some o =>
    rw [ho] at h1
    simp only [Bool.and_eq_true, Bool.or_eq_true, beq_iff_eq, List.contains_iff_mem, Array.any_eq_true'] at h1
    obtain ⟨e, he, h2, h3⟩ := h1
    exact ⟨o, rfl, e, he, h2, h3⟩

theorem getD_flip {l : Array Bool} {k : Nat} (h : l.getD k false = true) : l.getD k true = true := by
  rw [Array.getD_eq_getD_getElem?] at h ⊢
  cases hl : l[k]? with
  | none => rw [hl] at h; cases h
  | some z => rw [hl] at h; exact h

theorem not_ready_of_waits {i j : Nat} {D : List Nat} {l : Array Bool} (h : waits md ops i D = true) (hun : ∀ d ∈ D, l.getD d true = false) (hi : l.getD i true = false) (hj : j ∈ Region.ready md ops l) : j ∉ D := by
  intro hD
  obtain ⟨o, ho, e, he, hb, h1⟩ := waits_spec h j hD
  obtain ⟨_, oj, hoj, hall⟩ := mem_ready.1 hj
  rw [ho] at hoj
  injection hoj with hoj
  subst hoj
  have h2 := getD_flip (hall e he hb)
  rcases h1 with h1 | h1
  · rw [h1, hi] at h2; cases h2
  · rw [hun _ h1] at h2; cases h2

theorem wpAnyU_first {i : Nat} {oi : Oper} {v : Value} (D : List Nat) (hi : ops[i]? = some oi) (hsel : ∀ (j : Nat) (o : Oper) cs b, ops[j]? = some o → o.op ≠ .select cs b)
    (hw : waits md ops i D = true) (hX : ∀ x ∈ X, x ∈ D)
    (hQ : ∀ c a w, Q (.panic c) (a.put oi.dst v) w → Q (.panic c) a w) (n : Nat) :
    ∀ (l : Array Bool) (a : Act) (w : World), (∀ d ∈ D, l.getD d true = false) →
      (∀ j oj, ops[j]? = some oj → j ≠ i → l.getD j true = false → (∀ e ∈ oj.after, Region.binds md e = true → e.on ≠ i) → oi.apart ops oj = true) →
      i ∈ Region.ready md ops l → YieldsIf P ops S oi v a → S w →
      wpAnyU P md ops Q S X n (l.setIfInBounds i true) (a.put oi.dst v) w → wpAnyU P md ops Q S X (n + 1) l a w := by
  induction n with
  | zero =>
    intro l a w _ _ hr hy hS H
    refine ⟨fun h => absurd hr (by rw [h]; simp), fun j hj => ?_⟩
    by_cases hji : j = i
    · subst hji; exact hy.wpOp hi hS ⟨fun _ => hS, H⟩
    · have h1 := ready_mono hj hji
      rw [H.1] at h1
      cases h1
  | succ n ih =>
    intro l a w hun hfree hr hy hS H
    refine ⟨fun h => absurd hr (by rw [h]; simp), fun j hj => ?_⟩
    by_cases hji : j = i
    · subst hji; exact hy.wpOp hi hS ⟨fun _ => hS, H⟩
    · obtain ⟨hjun, oj, hoj, hall⟩ := mem_ready.1 hj
      have hiun : l.getD i true = false := (mem_ready.1 hr).1
      have hjD : j ∉ D := not_ready_of_waits hw hun hiun hj
      have hjX : X.contains j = false := by
        rw [Bool.eq_false_iff]
        intro h
        exact hjD (hX j (List.contains_iff_mem.1 h))
      have hnot : ∀ e ∈ oj.after, Region.binds md e = true → e.on ≠ i := fun e he hb heq => by
        have h1 := getD_flip (hall e he hb)
        rw [heq, hiun] at h1
        cases h1
      have h2 := wpOp_putIf hoj (hfree j oj hoj hji hjun hnot) (fun cs b => hsel i oi cs b hi) (fun cs b => hsel j oj cs b hoj) hQ hy (H.2 j (ready_mono hj hji))
      refine wpOp_mono (fun a' w' h3 => ⟨fun _ => h3.2.1 hjX, ih (l.setIfInBounds j true) a' w' (fun d hd => ?_) (fun k ok hk hki hun2 hno => ?_) (ready_mono hr (Ne.symm hji)) h3.1 (h3.2.1 hjX) ?_⟩) h2
      · rw [getD_set_ne true (fun e => hjD (by rw [e]; exact hd))]; exact hun d hd
      · refine hfree k ok hk hki ?_ hno
        by_cases hjk : j = k
        · subst hjk; exact hjun
        · rw [getD_set_ne true hjk] at hun2; exact hun2
      · rw [Array.setIfInBounds_comm _ _ hji]; exact h3.2.2

theorem wpAnyU_take {i : Nat} (D : List Nat) {oi : Oper} {v : Value} {n : Nat} {l : Array Bool} {a : Act} {w : World} (hi : ops[i]? = some oi)
    (hs : Region.noSelect ops = true) (hf : Region.free md ops l i = true) (hr : (Region.ready md ops l).contains i = true)
    (hw : waits md ops i D = true) (hu : unlisted l D = true) (hX : (X.all fun x => D.contains x) = true)
    (hQ : ∀ c a w, Q (.panic c) (a.put oi.dst v) w → Q (.panic c) a w) (hy : YieldsIf P ops S oi v a) (hS : S w)
    (h : wpAnyU P md ops Q S X n (l.setIfInBounds i true) (a.put oi.dst v) w) : wpAnyU P md ops Q S X (n + 1) l a w :=
  wpAnyU_first D hi (Region.noSelect_spec hs) hw (fun x hx => List.contains_iff_mem.1 (List.all_eq_true.1 hX x hx)) hQ n l a w
    (fun d hd => by have h1 := List.all_eq_true.1 hu d hd; simpa using h1) (Region.free_spec hi hf) (by simpa using hr) hy hS h

/-- one operation alone may come up -/
theorem wpAnyU_one {i : Nat} {o : Oper} {n : Nat} {l : Array Bool} {a : Act} {w : World} (hr : Region.ready md ops l = [i]) (ho : ops[i]? = some o)
    (h : ∀ K' : Act → World → Prop, Shut (∀ a w, (X.contains i = false → S w) → ((X.contains i = false → S w) → wpAnyU P md ops Q S X n (l.setIfInBounds i true) a w) → K' a w) → if Region.wanted o (yielded ops a.tmps) = true then Oper.wp P o a w K' Q else K' (a.put o.dst undef) w) : wpAnyU P md ops Q S X (n + 1) l a w :=
  ⟨fun h0 => absurd h0 (by rw [hr]; simp), fun j hj => by
    rw [hr, List.mem_singleton] at hj
    subst hj
    exact wpOp_step ho (fun K' hK => h K' (fun a w hS hW => hK a w ⟨hS, hW hS⟩))⟩

theorem wpAnyU_done {l : Array Bool} {a : Act} {w : World} (hr : Region.ready md ops l = []) (h : Q .normal a w) : ∀ n, wpAnyU P md ops Q S X n l a w
  | 0 => ⟨hr, h⟩
  | _ + 1 => ⟨fun _ => h, by rw [hr]; simp⟩

theorem wp_region_U (S : World → Prop) (X : List Nat) {id : Nat} {a : Act} {w : World} (hm : P.follows .mixedOrders = true)
    (h : wpAnyU P .any ops Q S X ops.size (Array.replicate ops.size false) a w.drew) : (Code.region id ops true).wp P Q a w :=
  wp_region_any hm (wpAnyU_any _ _ _ _ h)
end
end Mun
