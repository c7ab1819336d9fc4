/- Plain: what Remove and Replace leave of the cells. No program in sight. -/
import Derived.Test.YtjfepmohoijalaaPageI
set_option linter.unusedVariables false
namespace Mun

/-- the place from which a cell has come, one taken out -/
def postI (i j : Nat) : Nat := if j < i then j else j + 1

/-- a page with a cell less -/
structure RemF (p x : PBytes) (i : Nat) : Prop where
  good : GoodP x
  cnt : cnt x = cnt p - 1
  cell : ∀ j, j < Mun.cnt p - 1 → cellP x j = cellP p (postI i j)
  size : ∀ j, j < Mun.cnt p - 1 → sSize x j = sSize p (postI i j)
  head : win x 12 2 = win p 12 2
  tail : win x 18 8 = win p 18 8

theorem rem_facts {p : PBytes} (h : GoodP p) {i : Nat} (hi : i < cnt p) : RemF p (remP p i) i := by
  have hfit := h.fit
  have hlow := h.low
  have hp := h.len
  obtain ⟨n, hn⟩ : ∃ n, cnt p = n := ⟨_, rfl⟩
  rw [hn] at hi hfit
  have hw : (win p (26 + 4 * (i + 1)) (4 * (n - 1 - i))).length = 4 * (n - 1 - i) := win_length _ _ _ (by omega)
  obtain ⟨d1, hd1⟩ : ∃ d1, putAt p (26 + 4 * i) (win p (26 + 4 * (i + 1)) (4 * (n - 1 - i))) = d1 := ⟨_, rfl⟩
  have l1 : d1.length = 512 := by rw [← hd1, putAt_length _ _ _ (by omega), hp]
  have hz := zer_length 4
  obtain ⟨d2, hd2⟩ : ∃ d2, downP p i n = d2 := ⟨_, rfl⟩
  have e2 : d2 = putAt d1 (26 + 4 * (n - 1)) (zer 4) := by rw [← hd2, ← hd1]; rfl
  have l2 : d2.length = 512 := by rw [e2, putAt_length _ _ _ (by omega), l1]
  have hap : ∀ a k, a + k ≤ 26 + 4 * i ∨ 26 + 4 * n ≤ a → win d2 a k = win p a k := by
    intro a k hak
    rw [e2, win_putAt _ _ _ _ _ (by omega) (by omega), ← hd1, win_putAt _ _ _ _ _ (by omega) (by omega)]
  have hdn : ∀ a k, 26 + 4 * i ≤ a → a + k ≤ 26 + 4 * (n - 1) → win d2 a k = win p (a + 4) k := by
    intro a k h1 h2
    rw [e2, win_putAt _ _ _ _ _ (by omega) (by omega), ← hd1, win_putAt_in _ _ _ _ _ (by omega) h1 (by omega), win_win _ _ _ _ _ (by omega)]
    congr 1
    omega
  obtain ⟨x, hx⟩ : ∃ x, remP p i = x := ⟨_, rfl⟩
  obtain ⟨d3, hd3⟩ : ∃ d3, pt d2 14 2 (n - 1) = d3 := ⟨_, rfl⟩
  have l3 : d3.length = 512 := by rw [← hd3, pt_length _ _ _ _ (by omega), l2]
  have e3 : x = if n = 1 then pt d3 16 2 512 else d3 := by rw [← hx]; unfold remP; rw [hn, hd2, hd3]
  have hxl : x.length = 512 := by
    rw [e3]
    split
    · rw [pt_length _ _ _ _ (by omega), l3]
    · exact l3
  have hxw : ∀ a k, a + k ≤ 14 ∨ 18 ≤ a → win x a k = win d2 a k := by
    intro a k hak
    rw [e3]
    split
    · rw [win_pt _ _ _ _ _ _ (by omega) (by omega), ← hd3, win_pt _ _ _ _ _ _ (by omega) (by omega)]
    · rw [← hd3, win_pt _ _ _ _ _ _ (by omega) (by omega)]
  have hcnt : cnt x = n - 1 := by
    have h3 : cnt d3 = n - 1 := by
      rw [← hd3]
      show gt _ 14 2 = _
      rw [gt_pt2 _ _ _ (by omega) (by omega)]
    rw [e3]
    split
    · rw [show cnt (pt d3 16 2 512) = cnt d3 from gt_of_win (win_pt _ _ _ _ _ _ (by omega) (by omega)), h3]
    · exact h3
  have hxlow : lowP x = if n = 1 then 512 else lowP p := by
    rw [e3]
    split
    · show gt _ 16 2 = _
      rw [gt_pt2 _ _ _ (by omega) (by omega)]
    · have : win d3 16 2 = win p 16 2 := by rw [← hd3, win_pt _ _ _ _ _ _ (by omega) (by omega), hap _ _ (by omega)]
      exact gt_of_win this
  have hslot : ∀ j, j < n - 1 → sFrom x j = sFrom p (postI i j) ∧ sSize x j = sSize p (postI i j) := by
    intro j hj
    unfold postI
    by_cases hlt : j < i
    · rw [if_pos hlt]
      exact ⟨gt_of_win ((hxw _ _ (by omega)).trans (hap _ _ (by omega))), gt_of_win ((hxw _ _ (by omega)).trans (hap _ _ (by omega)))⟩
    · rw [if_neg hlt]
      have h1 := (hxw (26 + 4 * j) 2 (by omega)).trans (hdn _ _ (by omega) (by omega))
      have h2 := (hxw (26 + 4 * j + 2) 2 (by omega)).trans (hdn _ _ (by omega) (by omega))
      rw [show 26 + 4 * j + 4 = 26 + 4 * (j + 1) by omega] at h1
      rw [show 26 + 4 * j + 2 + 4 = 26 + 4 * (j + 1) + 2 by omega] at h2
      exact ⟨(gt_win _ _ _).trans ((congrArg leNat h1).trans (gt_win _ _ _).symm), (gt_win _ _ _).trans ((congrArg leNat h2).trans (gt_win _ _ _).symm)⟩
  have hpost : ∀ j, j < n - 1 → postI i j < n := by
    intro j hj
    unfold postI
    split <;> omega
  have hcell : ∀ j, j < n → lowP p ≤ sFrom p j ∧ sFrom p j + sSize p j ≤ 512 := fun j hj => h.cell j (by rw [hn]; exact hj)
  have hlo1 : ∀ j, j < n - 1 → lowP x = lowP p := by
    intro j hj
    rw [hxlow, if_neg (by omega)]
  rw [hx]
  refine ⟨⟨hxl, ?_, ?_, ?_, fun j hj => ?_, fun a b hab hb y ⟨h1, h2⟩ => ?_⟩, by rw [hcnt, hn], fun j hj => ?_, fun j hj => ?_, ?_, ?_⟩
  · rw [win_get, hxw 13 1 (by omega), hap 13 1 (by omega), ← win_get]; exact h.none
  · rw [hcnt, hxlow]; split <;> omega
  · rw [hxlow]; split <;> omega
  · rw [hcnt] at hj
    have h1 := hslot j hj
    rw [h1.1, h1.2, hlo1 j hj]
    exact hcell _ (hpost j hj)
  · rw [hcnt] at hb
    unfold inC at h1 h2
    have h3 := hslot a (by omega)
    have h4 := hslot b hb
    rw [h3.1, h3.2] at h1
    rw [h4.1, h4.2] at h2
    refine h.apart (postI i a) (postI i b) ?_ (by rw [hn]; exact hpost b hb) y ⟨h1, h2⟩
    unfold postI
    split <;> split <;> omega
  · rw [hn] at hj
    have h1 := hslot j hj
    have h2 := hcell _ (hpost j hj)
    rw [cellP_win, cellP_win, h1.1, h1.2, hxw _ _ (by omega), hap _ _ (by omega)]
  · rw [hn] at hj
    exact (hslot j hj).2
  · rw [hxw 12 2 (by omega), hap 12 2 (by omega)]
  · rw [hxw 18 8 (by omega), hap 18 8 (by omega)]

/-- a page with another cell in place of one -/
structure RepF (p x : PBytes) (i : Nat) (c : PBytes) : Prop where
  good : GoodP x
  cnt : cnt x = cnt p
  here : cellP x i = c
  sizeH : sSize x i = c.length
  cell : ∀ j, j < Mun.cnt p → j ≠ i → cellP x j = cellP p j
  size : ∀ j, j < Mun.cnt p → j ≠ i → sSize x j = sSize p j
  head : win x 12 2 = win p 12 2
  tail : win x 18 8 = win p 18 8

theorem hole_cell {p : PBytes} (h : GoodP p) {i : Nat} (hi : i < cnt p) : ∀ j, j < cnt p → j ≠ i → cellP (holeP p i) j = cellP p j ∧ sSize (holeP p i) j = sSize p j := by
  intro j hj hji
  have hfit := h.fit
  have hlow := h.low
  have hc := h.cell j hj
  have hl : 26 + 4 * i + 4 ≤ p.length := by rw [h.len]; omega
  have h1 : sFrom (holeP p i) j = sFrom p j := sFrom_ss_ne _ _ _ _ _ hl hji
  have h2 : sSize (holeP p i) j = sSize p j := sSize_ss_ne _ _ _ _ _ hl hji
  refine ⟨?_, h2⟩
  rw [cellP_win, cellP_win, h1, h2]
  exact win_ss _ _ _ _ _ _ hl (by omega)

theorem rep_facts {p : PBytes} (h : GoodP p) {i : Nat} (hi : i < cnt p) {c : PBytes} (hf : (c.length : Int) - sSize p i ≤ freeP p) : RepF p (repP p i c) i c := by
  have hfit := h.fit
  have hlow := h.low
  have hp := h.len
  have hci := h.cell i hi
  obtain ⟨n, hn⟩ : ∃ n, cnt p = n := ⟨_, rfl⟩
  obtain ⟨x, hx⟩ : ∃ x, repP p i c = x := ⟨_, rfl⟩
  by_cases hs : c.length ≤ sSize p i
  · have e : x = ss (putAt p (sFrom p i) c) i (sFrom p i) c.length := by rw [← hx]; unfold repP; rw [if_pos hs]
    have l1 : (putAt p (sFrom p i) c).length = 512 := by rw [putAt_length _ _ _ (by omega), hp]
    have hl : 26 + 4 * i + 4 ≤ (putAt p (sFrom p i) c).length := by omega
    have hxw : ∀ a k, (a + k ≤ 26 + 4 * i ∨ 26 + 4 * i + 4 ≤ a) → (a + k ≤ sFrom p i ∨ sFrom p i + c.length ≤ a) → win x a k = win p a k := by
      intro a k h1 h2
      rw [e, win_ss _ _ _ _ _ _ hl h1, win_putAt _ _ _ _ _ (by omega) h2]
    have hsl : ∀ j, j < n → j ≠ i → sFrom x j = sFrom p j ∧ sSize x j = sSize p j := fun j hj hji => by
      refine ⟨gt_of_win (hxw _ _ ?_ ?_), gt_of_win (hxw _ _ ?_ ?_)⟩ <;> omega
    have hfi : sFrom x i = sFrom p i := by rw [e, sFrom_ss _ _ _ _ hl (by omega)]
    have hsi : sSize x i = c.length := by rw [e, sSize_ss _ _ _ _ hl (by omega)]
    have hcnt : cnt x = cnt p := gt_of_win (hxw _ _ (by omega) (by omega))
    have hxlo : lowP x = lowP p := gt_of_win (hxw _ _ (by omega) (by omega))
    have hcell : ∀ j, j < n → j ≠ i → cellP x j = cellP p j := by
      intro j hj hji
      have h1 := hsl j hj hji
      have hcj := h.cell j (by omega)
      rw [cellP_win, cellP_win, h1.1, h1.2]
      by_cases hz : sSize p j = 0
      · rw [hz]; simp [win]
      · by_cases hzc : c.length = 0
        · have hc0 : c = [] := List.eq_nil_of_length_eq_zero hzc
          rw [e, hc0, putAt_nil]
          exact win_ss _ _ _ _ _ _ (by omega) (by omega)
        · refine hxw _ _ (by omega) ?_
          have hap2 : ∀ y, ¬ (inC p j y ∧ inC p i y) := by
            intro y ⟨h1, h2⟩
            rcases Nat.lt_or_ge j i with hlt | hge
            · exact h.apart j i hlt hi y ⟨h1, h2⟩
            · exact h.apart i j (by omega) (by omega) y ⟨h2, h1⟩
          have h2 : ¬ (sFrom p j ≤ sFrom p i ∧ sFrom p i < sFrom p j + sSize p j) := fun hy => hap2 _ ⟨hy, Nat.le_refl _, by omega⟩
          have h3 : ¬ (sFrom p i ≤ sFrom p j ∧ sFrom p j < sFrom p i + sSize p i) := fun hy => hap2 _ ⟨⟨Nat.le_refl _, by omega⟩, hy⟩
          omega
    rw [hx]
    refine ⟨⟨by rw [e, ss_length _ _ _ _ hl, l1], ?_, by rw [hcnt, hxlo]; exact hfit, by rw [hxlo]; exact hlow, fun j hj => ?_, fun a b hab hb y ⟨h1, h2⟩ => ?_⟩, hcnt, ?_, hsi, fun j hj hji => hcell j (by omega) hji, fun j hj hji => (hsl j (by omega) hji).2, hxw _ _ (by omega) (by omega), hxw _ _ (by omega) (by omega)⟩
    · rw [win_get, hxw 13 1 (by omega) (by omega), ← win_get]; exact h.none
    · rw [hcnt] at hj
      rw [hxlo]
      by_cases hji : j = i
      · subst hji; rw [hfi, hsi]; omega
      · have h1 := hsl j (by omega) hji
        rw [h1.1, h1.2]; exact h.cell j hj
    · rw [hcnt] at hb
      unfold inC at h1 h2
      refine h.apart a b hab hb y ⟨?_, ?_⟩
      · unfold inC
        by_cases hai : a = i
        · subst hai; rw [hfi, hsi] at h1; omega
        · have h3 := hsl a (by omega) hai; rw [h3.1, h3.2] at h1; exact h1
      · unfold inC
        by_cases hbi : b = i
        · subst hbi; rw [hfi, hsi] at h2; omega
        · have h3 := hsl b (by omega) hbi; rw [h3.1, h3.2] at h2; exact h2
    · rw [cellP_win, hfi, hsi, e, win_ss _ _ _ _ _ _ hl (by omega)]
      exact win_putAt_same _ _ _ (by omega)
  · have hh := hole_good h hi
    have hhc := hole_cell h hi
    have hcnt0 : cnt (holeP p i) = n := (cnt_ss _ _ _ _ (by omega)).trans hn
    have hsz0 : sSize (holeP p i) i = 0 := sSize_ss _ _ _ _ (by omega) (by omega)
    have hrm := room_ok hh c.length (by rw [freeP_hole h hi]; omega)
    have hlk := room_like hh c.length
    obtain ⟨q, hq⟩ : ∃ q, roomP (holeP p i) c.length = q := ⟨_, rfl⟩
    rw [hq] at hrm hlk
    have hroom := hrm.room
    have hlowq := hrm.low
    rw [hcnt0] at hroom
    have hqc : cnt q = n := hrm.cnt.trans hcnt0
    have hb := below_facts (i := i) (c := c) hrm.len hlowq (by omega) (by omega)
    have e : x = belowP q i c := by rw [← hx]; unfold repP; rw [if_neg hs, hq]
    rw [← e] at hb
    have hbl := hb.low
    have hbf := hb.from_
    have hbr := hb.rest
    have hbc := hb.cell
    obtain ⟨lo, hlo⟩ : ∃ lo, lowP q = lo := ⟨_, rfl⟩
    have hbs := fun j (hji : j ≠ i) (hj : j < n) => hb.slot j hji (by omega)
    rw [hlo] at hroom hlowq hbl hbf hbr hbc
    have hqcell : ∀ k, k < n → lo ≤ sFrom q k ∧ sFrom q k + sSize q k ≤ 512 := fun k hk => by rw [← hlo]; exact hlk.good.cell k (by rw [hqc]; exact hk)
    have hcnt : cnt x = n := (gt_of_win (hbr 14 2 (by omega))).trans hqc
    rw [hx]
    refine ⟨⟨hb.len, ?_, by rw [hcnt, hbl]; omega, by rw [hbl]; omega, fun j hj => ?_, fun a b hab hbb y ⟨h1, h2⟩ => ?_⟩, by rw [hcnt, hn], ?_, hb.size, fun j hj hji => ?_, fun j hj hji => ?_, ?_, ?_⟩
    · rw [win_get, hbr 13 1 (by omega), ← win_get]; exact hlk.good.none
    · rw [hcnt] at hj
      rw [hbl]
      by_cases hji : j = i
      · subst hji; rw [hbf, hb.size]; omega
      · have h1 := hbs j hji hj
        have h2 := hqcell j hj
        rw [h1.1, h1.2]; omega
    · rw [hcnt] at hbb
      unfold inC at h1 h2
      by_cases hai : a = i
      · subst hai
        rw [hbf, hb.size] at h1
        have h3 := hbs b (by omega) hbb
        have h4 := hqcell b hbb
        rw [h3.1, h3.2] at h2
        omega
      · have h5 := hbs a hai (by omega)
        have h6 := hqcell a (by omega)
        rw [h5.1, h5.2] at h1
        by_cases hbi : b = i
        · subst hbi
          rw [hbf, hb.size] at h2
          omega
        · have h3 := hbs b hbi hbb
          rw [h3.1, h3.2] at h2
          exact hlk.good.apart a b hab (by rw [hqc]; exact hbb) y ⟨h1, h2⟩
    · rw [cellP_win, hbf, hb.size]; exact hbc
    · rw [hn] at hj
      have h1 := hbs j hji hj
      have h2 := hqcell j hj
      rw [cellP_win x, h1.1, h1.2, hbr _ _ (by omega), ← cellP_win, hlk.cell j (by rw [hcnt0]; exact hj), (hhc j (by rw [hn]; exact hj) hji).1]
    · rw [hn] at hj
      rw [(hbs j hji hj).2, hlk.size j (by rw [hcnt0]; exact hj), (hhc j (by rw [hn]; exact hj) hji).2]
    · rw [hbr 12 2 (by omega), hlk.head]
      exact win_ss _ _ _ _ _ _ (by omega) (by omega)
    · rw [hbr 18 8 (by omega), hlk.tail]
      exact win_ss _ _ _ _ _ _ (by omega) (by omega)
end Mun
