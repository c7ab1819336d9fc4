/- A region that draws its order and whose stores write what its loads read: T false is asked behind each operation as long as the operation m (the first store) is not done, T true from then on. -/
import Derived.Test.YtoblajbffnkkiaaRegU
import Derived.Deep.RegionHeldLaw
set_option maxRecDepth 100000
namespace Mun
open Go

section
variable {P : Program} {ops : Array Oper} {Q : Exit → Act → World → Prop} {md : Region.Mode} {T : Bool → World → Prop} {m : Nat}

/-- in whatever order -/
def wpAnyV (P : Program) (md : Region.Mode) (ops : Array Oper) (Q : Exit → Act → World → Prop) (T : Bool → World → Prop) (m : Nat) : Nat → Array Bool → Act → World → Prop
  | 0, l, a, w => Region.ready md ops l = [] ∧ Q .normal a w
  | n + 1, l, a, w => (Region.ready md ops l = [] → Q .normal a w) ∧
    ∀ i ∈ Region.ready md ops l, wpOp P ops Q i (fun a' w' => T ((l.setIfInBounds i true).getD m true) w' ∧ wpAnyV P md ops Q T m n (l.setIfInBounds i true) a' w') a w

theorem wpAnyV_any : ∀ (n : Nat) (l : Array Bool) (a : Act) (w : World), wpAnyV P md ops Q T m n l a w → wpAny P md ops Q n l a w
  | 0, _, _, _, h => h
  | n + 1, _, _, _, h => ⟨h.1, fun i hi => wpOp_mono (fun a' w' h' => wpAnyV_any n _ a' w' h'.2) (h.2 i hi)⟩

theorem wpAnyV_first {i : Nat} {oi : Oper} {v : Value} {Si : World → Prop} (D : List Nat) (hi : ops[i]? = some oi) (hsel : ∀ (j : Nat) (o : Oper) cs b, ops[j]? = some o → o.op ≠ .select cs b)
    (hw : waits md ops i D = true) (him : m ≠ i)
    (hT : ∀ b w, (m ∈ D → b = false) → T b w → Si w)
    (hQ : ∀ c a w, Q (.panic c) (a.put oi.dst v) w → Q (.panic c) a w) (n : Nat) :
    ∀ (l : Array Bool) (a : Act) (w : World), (∀ d ∈ D, l.getD d true = false) →
      (∀ j oj, ops[j]? = some oj → j ≠ i → l.getD j true = false → (∀ e ∈ oj.after, Region.binds md e = true → e.on ≠ i) → oi.apart ops oj = true) →
      i ∈ Region.ready md ops l → YieldsIf P ops Si oi v a → T (l.getD m true) w →
      wpAnyV P md ops Q T m n (l.setIfInBounds i true) (a.put oi.dst v) w → wpAnyV P md ops Q T m (n + 1) l a w := by
  have hset : ∀ (l : Array Bool), (l.setIfInBounds i true).getD m true = l.getD m true := fun l => getD_set_ne true (fun e => him e.symm)
  induction n with
  | zero =>
    intro l a w hun _ hr hy hS H
    refine ⟨fun h => absurd hr (by rw [h]; simp), fun j hj => ?_⟩
    by_cases hji : j = i
    · subst hji; exact hy.wpOp hi (hT _ w (fun hm => hun m hm) hS) ⟨by rw [hset]; exact hS, H⟩
    · have h1 := ready_mono hj hji
      rw [H.1] at h1
      cases h1
  | succ n ih =>
    intro l a w hun hfree hr hy hS H
    refine ⟨fun h => absurd hr (by rw [h]; simp), fun j hj => ?_⟩
    by_cases hji : j = i
    · subst hji; exact hy.wpOp hi (hT _ w (fun hm => hun m hm) hS) ⟨by rw [hset]; exact hS, H⟩
    · obtain ⟨hjun, oj, hoj, hall⟩ := mem_ready.1 hj
      have hiun : l.getD i true = false := (mem_ready.1 hr).1
      have hjD : j ∉ D := not_ready_of_waits hw hun hiun hj
      have hnot : ∀ e ∈ oj.after, Region.binds md e = true → e.on ≠ i := fun e he hb heq => by
        have h1 := getD_flip (hall e he hb)
        rw [heq, hiun] at h1
        cases h1
      have h2 := wpOp_putIf hoj (hfree j oj hoj hji hjun hnot) (fun cs b => hsel i oi cs b hi) (fun cs b => hsel j oj cs b hoj) hQ hy (H.2 j (ready_mono hj hji))
      refine wpOp_mono (fun a' w' h3 => ?_) h2
      have hTj : T ((l.setIfInBounds j true).getD m true) w' := by
        have h4 := h3.2.1
        rw [Array.setIfInBounds_comm _ _ (Ne.symm hji), hset] at h4
        exact h4
      refine ⟨hTj, ih (l.setIfInBounds j true) a' w' (fun d hd => ?_) (fun k ok hk hki hun2 hno => ?_) (ready_mono hr (Ne.symm hji)) h3.1 hTj ?_⟩
      · rw [getD_set_ne true (fun e => hjD (by rw [e]; exact hd))]; exact hun d hd
      · refine hfree k ok hk hki ?_ hno
        by_cases hjk : j = k
        · subst hjk; exact hjun
        · rw [getD_set_ne true hjk] at hun2; exact hun2
      · rw [Array.setIfInBounds_comm _ _ hji]; exact h3.2.2

/-- an operation that yields in whatever world -/
theorem wpAnyV_pure {i : Nat} {oi : Oper} {v : Value} {n : Nat} {l : Array Bool} {a : Act} {w : World} (hi : ops[i]? = some oi)
    (hs : Region.noSelect ops = true) (hf : Region.free md ops l i = true) (hr : (Region.ready md ops l).contains i = true) (him : m ≠ i)
    (hQ : ∀ c a w, Q (.panic c) (a.put oi.dst v) w → Q (.panic c) a w) (hy : YieldsIf P ops (fun _ => True) oi v a) (hS : T (l.getD m true) w)
    (h : wpAnyV P md ops Q T m n (l.setIfInBounds i true) (a.put oi.dst v) w) : wpAnyV P md ops Q T m (n + 1) l a w :=
  wpAnyV_first (Si := fun _ => True) [] hi (Region.noSelect_spec hs) (by simp [waits]) him (fun _ _ _ _ => trivial) hQ n l a w
    (fun d hd => by cases hd) (Region.free_spec hi hf) (by simpa using hr) hy hS h

/-- an operation that m waits for -/
theorem wpAnyV_take {i : Nat} (D : List Nat) {oi : Oper} {v : Value} {n : Nat} {l : Array Bool} {a : Act} {w : World} (hi : ops[i]? = some oi)
    (hs : Region.noSelect ops = true) (hf : Region.free md ops l i = true) (hr : (Region.ready md ops l).contains i = true)
    (hw : waits md ops i D = true) (hu : unlisted l D = true) (hm : D.contains m = true) (him : m ≠ i)
    (hQ : ∀ c a w, Q (.panic c) (a.put oi.dst v) w → Q (.panic c) a w) (hy : YieldsIf P ops (T false) oi v a) (hS : T (l.getD m true) w)
    (h : wpAnyV P md ops Q T m n (l.setIfInBounds i true) (a.put oi.dst v) w) : wpAnyV P md ops Q T m (n + 1) l a w :=
  wpAnyV_first (Si := T false) D hi (Region.noSelect_spec hs) hw him (fun b w h1 h2 => by rw [h1 (List.contains_iff_mem.1 hm)] at h2; exact h2) hQ n l a w
    (fun d hd => by have h1 := List.all_eq_true.1 hu d hd; simpa using h1) (Region.free_spec hi hf) (by simpa using hr) hy hS h

/-- one operation alone may come up -/
theorem wpAnyV_one {i : Nat} {o : Oper} {n : Nat} {l : Array Bool} {a : Act} {w : World} (hr : Region.ready md ops l = [i]) (ho : ops[i]? = some o)
    (h : ∀ K' : Act → World → Prop, Shut (∀ a w, T ((l.setIfInBounds i true).getD m true) w → (T ((l.setIfInBounds i true).getD m true) w → wpAnyV P md ops Q T m n (l.setIfInBounds i true) a w) → K' a w) → if Region.wanted o (yielded ops a.tmps) = true then Oper.wp P o a w K' Q else K' (a.put o.dst undef) w) :
    wpAnyV P md ops Q T m (n + 1) l a w :=
  ⟨fun h0 => absurd h0 (by rw [hr]; simp), fun j hj => by
    rw [hr, List.mem_singleton] at hj
    subst hj
    exact wpOp_step ho (fun K' hK => h K' (fun a w hS hW => hK a w ⟨hS, hW hS⟩))⟩

theorem wpAnyV_done {l : Array Bool} {a : Act} {w : World} (hr : Region.ready md ops l = []) (h : Q .normal a w) : ∀ n, wpAnyV P md ops Q T m n l a w
  | 0 => ⟨hr, h⟩
  | _ + 1 => ⟨fun _ => h, by rw [hr]; simp⟩

theorem wp_region_V (T : Bool → World → Prop) (m : Nat) {id : Nat} {a : Act} {w : World} (hm : P.follows .mixedOrders = true)
    (h : wpAnyV P .any ops Q T m ops.size (Array.replicate ops.size false) a w.drew) : (Code.region id ops true).wp P Q a w :=
  wp_region_any hm (wpAnyV_any _ _ _ _ h)
end
end Mun
