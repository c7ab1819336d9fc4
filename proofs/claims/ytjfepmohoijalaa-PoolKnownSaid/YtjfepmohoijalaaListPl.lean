/- Plain: a page as a list of cells. -/
import Derived.Test.YtjfepmohoijalaaLayoutsW
import Derived.Test.YtjfepmohoijalaaPageJ
set_option linter.unusedVariables false
namespace Mun

/-- what cells leave of a page -/
def lft : List PBytes → Int
  | [] => 486
  | c :: l => lft l - 4 - c.length
theorem lft_append (l : List PBytes) (m : List PBytes) : lft (l ++ m) = lft l + lft m - 486 := by
  induction l with
  | nil => simp [lft]; omega
  | cons a l ih => simp only [List.cons_append, lft, ih]; omega
theorem lft_le (l : List PBytes) : lft l ≤ 486 := by
  induction l with
  | nil => simp [lft]
  | cons a l ih => simp only [lft]; omega
theorem lft_take_succ (l : List PBytes) (k : Nat) (h : k < l.length) : lft (l.take (k + 1)) = lft (l.take k) - 4 - (l[k].length : Int) := by
  rw [List.take_add_one, List.getElem?_eq_getElem h, Option.toList_some, lft_append]
  simp only [lft]
  omega
theorem lft_take (l : List PBytes) (k : Nat) : lft l ≤ lft (l.take k) := by
  have h := lft_append (l.take k) (l.drop k)
  rw [List.take_append_drop] at h
  have := lft_le (l.drop k)
  omega

theorem good_size {p : PBytes} (h : GoodP p) {i : Nat} (hi : i < cnt p) : (cellP p i).length = sSize p i := by
  unfold cellP
  rw [List.length_take, List.length_drop, h.len]
  have := (h.cell i hi).2
  omega
theorem lft_cells {p : PBytes} (h : GoodP p) : lft (cellsP p (cnt p)) = freeP p := by
  have : ∀ k, k ≤ cnt p → lft (cellsP p k) = 486 - 4 * (k : Int) - (szs p k : Int) := by
    intro k
    induction k with
    | zero => intro _; rfl
    | succ k ih =>
      intro hk
      rw [cellsP_succ, lft_append, ih (by omega)]
      simp only [lft, szs]
      rw [good_size h (by omega)]
      push_cast
      omega
  rw [this _ (Nat.le_refl _)]
  rfl
theorem free_nonneg {p : PBytes} (h : GoodP p) : 0 ≤ freeP p := by
  have h1 := good_szs h
  have h2 := h.fit
  have h3 := h.low
  unfold freeP
  omega

theorem cellsP_get (p : PBytes) (k i : Nat) (h : i < k) : (cellsP p k)[i]? = some (cellP p i) := by
  unfold cellsP
  rw [List.getElem?_map, List.getElem?_range h]
  rfl

theorem cells_ins {p : PBytes} (h : GoodP p) {i : Nat} (hi : i ≤ cnt p) {c : PBytes} (hf : (c.length : Int) + 4 ≤ freeP p) :
    GoodP (insP p i c) ∧ cellsP (insP p i c) (cnt (insP p i c)) = (cellsP p (cnt p)).take i ++ [c] ++ (cellsP p (cnt p)).drop i := by
  have f := ins_facts h hi hf
  refine ⟨f.good, ?_⟩
  rw [f.cnt]
  apply List.ext_getElem?
  intro j
  have hl : ((cellsP p (cnt p)).take i ++ [c]).length = i + 1 := by rw [List.length_append, List.length_take, cellsP_length, List.length_singleton]; omega
  rcases Nat.lt_or_ge j (cnt p + 1) with hj | hj
  · rw [cellsP_get _ _ _ hj]
    by_cases hji : j = i
    · subst hji
      rw [f.here, List.getElem?_append_left (by omega), List.getElem?_append_right (by rw [List.length_take, cellsP_length]; omega), List.length_take, cellsP_length, Nat.min_eq_left hi, Nat.sub_self]
      rfl
    · rw [f.cell j hj hji]
      unfold preI
      by_cases hlt : j < i
      · rw [if_pos hlt, List.getElem?_append_left (by omega), List.getElem?_append_left (by rw [List.length_take, cellsP_length]; omega), List.getElem?_take, if_pos hlt, cellsP_get _ _ _ (by omega)]
      · rw [if_neg hlt, List.getElem?_append_right (by omega), hl, List.getElem?_drop, cellsP_get _ _ _ (by omega)]
        congr 2
        omega
  · rw [List.getElem?_eq_none (by rw [cellsP_length]; exact hj), List.getElem?_eq_none (by rw [List.length_append, hl, List.length_drop, cellsP_length]; omega)]

theorem cells_rem {p : PBytes} (h : GoodP p) {i : Nat} (hi : i < cnt p) :
    GoodP (remP p i) ∧ cellsP (remP p i) (cnt (remP p i)) = (cellsP p (cnt p)).take i ++ (cellsP p (cnt p)).drop (i + 1) := by
  have f := rem_facts h hi
  refine ⟨f.good, ?_⟩
  rw [f.cnt]
  apply List.ext_getElem?
  intro j
  have hl : ((cellsP p (cnt p)).take i).length = i := by rw [List.length_take, cellsP_length]; omega
  rcases Nat.lt_or_ge j (cnt p - 1) with hj | hj
  · rw [cellsP_get _ _ _ hj, f.cell j hj]
    unfold postI
    by_cases hlt : j < i
    · rw [if_pos hlt, List.getElem?_append_left (by omega), List.getElem?_take, if_pos hlt, cellsP_get _ _ _ (by omega)]
    · rw [if_neg hlt, List.getElem?_append_right (by omega), hl, List.getElem?_drop, cellsP_get _ _ _ (by omega)]
      congr 2
      omega
  · rw [List.getElem?_eq_none (by rw [cellsP_length]; exact hj), List.getElem?_eq_none (by rw [List.length_append, hl, List.length_drop, cellsP_length]; omega)]

theorem cells_rep {p : PBytes} (h : GoodP p) {i : Nat} (hi : i < cnt p) {c : PBytes} (hf : (c.length : Int) - sSize p i ≤ freeP p) :
    GoodP (repP p i c) ∧ cellsP (repP p i c) (cnt (repP p i c)) = (cellsP p (cnt p)).take i ++ [c] ++ (cellsP p (cnt p)).drop (i + 1) := by
  have f := rep_facts h hi hf
  refine ⟨f.good, ?_⟩
  rw [f.cnt]
  apply List.ext_getElem?
  intro j
  have hl0 : ((cellsP p (cnt p)).take i).length = i := by rw [List.length_take, cellsP_length]; omega
  have hl : ((cellsP p (cnt p)).take i ++ [c]).length = i + 1 := by rw [List.length_append, hl0]; rfl
  rcases Nat.lt_or_ge j (cnt p) with hj | hj
  · rw [cellsP_get _ _ _ hj]
    by_cases hji : j = i
    · subst hji
      rw [f.here, List.getElem?_append_left (by omega), List.getElem?_append_right (by omega), hl0, Nat.sub_self]
      rfl
    · rw [f.cell j hj hji]
      by_cases hlt : j < i
      · rw [List.getElem?_append_left (by omega), List.getElem?_append_left (by omega), List.getElem?_take, if_pos hlt, cellsP_get _ _ _ hj]
      · rw [List.getElem?_append_right (by omega), hl, List.getElem?_drop, cellsP_get _ _ _ (by omega)]
        congr 2
        omega
  · rw [List.getElem?_eq_none (by rw [cellsP_length]; exact hj), List.getElem?_eq_none (by rw [List.length_append, hl, List.length_drop, cellsP_length]; omega)]

theorem cells_anew {p : PBytes} (h : GoodP p) : GoodP (anewP p) ∧ cellsP (anewP p) (cnt (anewP p)) = cellsP p (cnt p) := ⟨(anew_like h).good, (anew_like h).cells⟩
end Mun
