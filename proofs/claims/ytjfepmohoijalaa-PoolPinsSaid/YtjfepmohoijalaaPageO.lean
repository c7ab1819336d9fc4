/- Plain: the cells of a good page take no more than the room above low; what Insert, Remove, Replace make of a page. No program in sight. -/
import Derived.Test.YtjfepmohoijalaaPageN
set_option linter.unusedVariables false
namespace Mun

theorem count_interval (f : Nat) : ∀ (N s : Nat), f + s ≤ N → (List.range N).countP (fun x => decide (f ≤ x ∧ x < f + s)) = s
  | 0, s, h => by obtain rfl : s = 0 := by omega
                  rfl
  | N + 1, s, h => by
    rw [List.range_succ, List.countP_append, List.countP_singleton]
    by_cases hN : f + s ≤ N
    · rw [count_interval f N s hN]
      have : decide (f ≤ N ∧ N < f + s) = false := by simp; omega
      rw [this]; rfl
    · cases s with
      | zero =>
        have : (List.range N).countP (fun x => decide (f ≤ x ∧ x < f + 0)) = 0 := by
          rw [List.countP_eq_zero]; intro x _; simp
        rw [this]
        have : decide (f ≤ N ∧ N < f + 0) = false := by simp
        rw [this]; rfl
      | succ t =>
        have e : (List.range N).countP (fun x => decide (f ≤ x ∧ x < f + (t + 1))) = (List.range N).countP (fun x => decide (f ≤ x ∧ x < f + t)) := by
          apply List.countP_congr
          intro x hx
          have := List.mem_range.1 hx
          simp only [decide_eq_true_eq]
          omega
        rw [e, count_interval f N t (by omega)]
        have : decide (f ≤ N ∧ N < f + (t + 1)) = true := by simp; omega
        rw [this]; rfl

theorem countP_or {l : List Nat} {P Q : Nat → Bool} (h : ∀ x ∈ l, ¬ (P x = true ∧ Q x = true)) : l.countP (fun x => P x || Q x) = l.countP P + l.countP Q := by
  induction l with
  | nil => rfl
  | cons a l ih =>
    have h1 := h a (by simp)
    rw [List.countP_cons, List.countP_cons, List.countP_cons, ih (fun x hx => h x (by simp [hx]))]
    cases hp : P a <;> cases hq : Q a <;> simp_all <;> omega

/-- x lies in one of the first k cells -/
def inSome (p : PBytes) : Nat → Nat → Bool
  | 0, _ => false
  | k + 1, x => inSome p k x || decide (sFrom p k ≤ x ∧ x < sFrom p k + sSize p k)
theorem inSome_iff (p : PBytes) (x : Nat) : ∀ k, inSome p k x = true ↔ ∃ j, j < k ∧ inC p j x
  | 0 => by simp [inSome]
  | k + 1 => by
    simp only [inSome, Bool.or_eq_true, inSome_iff p x k, decide_eq_true_eq]
    constructor
    · rintro (⟨j, hj, h⟩ | h)
      · exact ⟨j, by omega, h⟩
      · exact ⟨k, by omega, h⟩
    · rintro ⟨j, hj, h⟩
      rcases Nat.lt_or_eq_of_le (Nat.lt_succ_iff.1 hj) with hj | rfl
      · exact .inl ⟨j, hj, h⟩
      · exact .inr h

theorem inSome_count {p : PBytes} (h : GoodP p) : ∀ k, k ≤ cnt p → (List.range 512).countP (inSome p k) = szs p k
  | 0, _ => by
    show (List.range 512).countP (fun _ => false) = 0
    rw [List.countP_eq_zero]; intro x _; simp
  | k + 1, hk => by
    have ih := inSome_count h k (by omega)
    have hc := h.cell k (by omega)
    show (List.range 512).countP (fun x => inSome p k x || decide (sFrom p k ≤ x ∧ x < sFrom p k + sSize p k)) = szs p k + sSize p k
    rw [countP_or, ih, count_interval _ 512 _ hc.2]
    intro x _ ⟨h1, h2⟩
    obtain ⟨j, hj, hjc⟩ := (inSome_iff p x k).1 h1
    have h3 : sFrom p k ≤ x ∧ x < sFrom p k + sSize p k := by simpa using h2
    exact h.apart j k hj (by omega) x ⟨hjc, h3⟩

theorem good_szs {p : PBytes} (h : GoodP p) : szs p (cnt p) ≤ 512 - lowP p := by
  have hl := h.low
  rw [← inSome_count h (cnt p) (Nat.le_refl _), ← count_interval (lowP p) 512 (512 - lowP p) (by omega)]
  apply List.countP_mono_left
  intro x hx h1
  obtain ⟨j, hj, hjc⟩ := (inSome_iff p x _).1 h1
  have hc := h.cell j hj
  have hx5 := List.mem_range.1 hx
  unfold inC at hjc
  simp only [decide_eq_true_eq]
  omega

theorem good_anewOk {p : PBytes} (h : GoodP p) : AnewOk p := ⟨h.len, by have := good_szs h; have := h.fit; have := h.low; omega, fun i hi => (h.cell i hi).2⟩

/-- the page in which there is room for so many bytes -/
def roomP (p : PBytes) (k : Nat) : PBytes := if lowP p < 26 + 4 * cnt p + k then anewP p else p
/-- slots from i on moved up by one -/
def upP (q : PBytes) (i n : Nat) : PBytes := putAt q (26 + 4 * (i + 1)) (win q (26 + 4 * i) (4 * (n - i)))
def insP (p : PBytes) (i : Nat) (c : PBytes) : PBytes := belowP (pt (upP (roomP p (c.length + 4)) i (cnt p)) 14 2 (cnt p + 1)) i c

/-- what a page with room is -/
structure RoomOk (p q : PBytes) (k : Nat) : Prop where
  len : q.length = 512
  cnt : cnt q = cnt p
  room : 26 + 4 * Mun.cnt p + k ≤ lowP q
  low : lowP q ≤ 512
theorem room_ok {p : PBytes} (h : GoodP p) (k : Nat) (hf : ((k : Nat) : Int) ≤ freeP p) : RoomOk p (roomP p k) k := by
  unfold roomP
  split
  · have hi := anewP_inv (good_anewOk h)
    have := (good_anewOk h).fit
    unfold freeP at hf
    exact ⟨hi.len, hi.cnt, by rw [hi.low]; omega, by rw [hi.low]; omega⟩
  · exact ⟨h.len, rfl, by omega, h.low⟩

/-- slots behind i moved down by one, the last one zero -/
def downP (q : PBytes) (i n : Nat) : PBytes := putAt (putAt q (26 + 4 * i) (win q (26 + 4 * (i + 1)) (4 * (n - 1 - i)))) (26 + 4 * (n - 1)) (zer 4)
def remP (p : PBytes) (i : Nat) : PBytes :=
  if cnt p = 1 then pt (pt (downP p i (cnt p)) 14 2 (cnt p - 1)) 16 2 512 else pt (downP p i (cnt p)) 14 2 (cnt p - 1)

/-- the page whose cell i has no bytes -/
def holeP (p : PBytes) (i : Nat) : PBytes := ss p i (lowP p) 0
def repP (p : PBytes) (i : Nat) (c : PBytes) : PBytes :=
  if c.length ≤ sSize p i then ss (putAt p (sFrom p i) c) i (sFrom p i) c.length else belowP (roomP (holeP p i) c.length) i c

theorem cnt_ss (p : PBytes) (i f z : Nat) (hl : 26 + 4 * i + 4 ≤ p.length) : cnt (ss p i f z) = cnt p := gt_of_win (win_ss _ _ _ _ _ _ hl (by omega))
theorem lowP_ss (p : PBytes) (i f z : Nat) (hl : 26 + 4 * i + 4 ≤ p.length) : lowP (ss p i f z) = lowP p := gt_of_win (win_ss _ _ _ _ _ _ hl (by omega))

theorem szs_hole {p : PBytes} (hp : p.length = 512) {i : Nat} (hi : 26 + 4 * i + 4 ≤ 512) : ∀ k, (k ≤ i → szs (holeP p i) k = szs p k) ∧ (i < k → szs (holeP p i) k + sSize p i = szs p k)
  | 0 => ⟨fun _ => rfl, fun h => by omega⟩
  | k + 1 => by
    have ih := szs_hole hp hi k
    refine ⟨fun h => ?_, fun h => ?_⟩
    · show szs (holeP p i) k + sSize (holeP p i) k = szs p k + sSize p k
      rw [ih.1 (by omega)]
      unfold holeP
      rw [sSize_ss_ne _ _ _ _ _ (by omega) (by omega)]
    · show szs (holeP p i) k + sSize (holeP p i) k + sSize p i = szs p k + sSize p k
      by_cases hk : k = i
      · subst hk
        rw [ih.1 (Nat.le_refl _)]
        have : sSize (holeP p k) k = 0 := by unfold holeP; exact sSize_ss _ _ _ _ (by omega) (by omega)
        omega
      · have := ih.2 (by omega)
        have h2 : sSize (holeP p i) k = sSize p k := by unfold holeP; exact sSize_ss_ne _ _ _ _ _ (by omega) hk
        omega

theorem hole_good {p : PBytes} (h : GoodP p) {i : Nat} (hi : i < cnt p) : GoodP (holeP p i) := by
  have hfit := h.fit
  have hlow := h.low
  have hp := h.len
  have hl : 26 + 4 * i + 4 ≤ p.length := by omega
  have hc : cnt (holeP p i) = cnt p := cnt_ss _ _ _ _ hl
  have hlo : lowP (holeP p i) = lowP p := lowP_ss _ _ _ _ hl
  have h13 : (holeP p i)[13]? = some 0 := by
    have hw : win (holeP p i) 13 1 = win p 13 1 := win_ss _ _ _ _ _ _ hl (by omega)
    have e : ∀ q : PBytes, q[13]? = (win q 13 1)[0]? := by intro q; simp [win]
    rw [e, hw, ← e]
    exact h.none
  have hf : ∀ j, j ≠ i → sFrom (holeP p i) j = sFrom p j ∧ sSize (holeP p i) j = sSize p j := fun j hj => ⟨sFrom_ss_ne _ _ _ _ _ hl hj, sSize_ss_ne _ _ _ _ _ hl hj⟩
  have hfi : sFrom (holeP p i) i = lowP p ∧ sSize (holeP p i) i = 0 := ⟨sFrom_ss _ _ _ _ hl (by omega), sSize_ss _ _ _ _ hl (by omega)⟩
  refine ⟨by unfold holeP; rw [ss_length _ _ _ _ hl, hp], h13, by rw [hc, hlo]; exact hfit, by rw [hlo]; exact hlow, fun j hj => ?_, fun a b hab hb x ⟨h1, h2⟩ => ?_⟩
  · rw [hc] at hj
    rw [hlo]
    by_cases hji : j = i
    · subst hji
      rw [hfi.1, hfi.2]
      omega
    · rw [(hf j hji).1, (hf j hji).2]
      exact h.cell j hj
  · rw [hc] at hb
    unfold inC at h1 h2
    by_cases hai : a = i
    · subst hai; rw [hfi.1, hfi.2] at h1; omega
    · by_cases hbi : b = i
      · subst hbi; rw [hfi.1, hfi.2] at h2; omega
      · rw [(hf a hai).1, (hf a hai).2] at h1
        rw [(hf b hbi).1, (hf b hbi).2] at h2
        exact h.apart a b hab hb x ⟨h1, h2⟩

theorem freeP_hole {p : PBytes} (h : GoodP p) {i : Nat} (hi : i < cnt p) : freeP (holeP p i) = freeP p + sSize p i := by
  have hfit := h.fit
  have hlow := h.low
  have hp := h.len
  have hc : cnt (holeP p i) = cnt p := cnt_ss _ _ _ _ (by omega)
  have := (szs_hole hp (by omega : 26 + 4 * i + 4 ≤ 512) (cnt p)).2 hi
  unfold freeP
  rw [hc]
  omega
end Mun
