/- Plain: what laying anew, Insert, Remove, Replace leave of the cells. No program in sight. -/
import Derived.Test.YtjfepmohoijalaaMgF
set_option linter.unusedVariables false
namespace Mun

theorem win_putAt_in (p : PBytes) (A : Nat) (bs : PBytes) (a n : Nat) (hl : A + bs.length ≤ p.length) (h1 : A ≤ a) (h2 : a + n ≤ A + bs.length) : win (putAt p A bs) a n = win bs (a - A) n := by
  apply List.ext_getElem?
  intro j
  unfold win
  rw [List.getElem?_take, List.getElem?_take]
  split
  · rw [List.getElem?_drop, List.getElem?_drop, putAt_getElem? _ _ _ hl, if_pos (by omega)]
    congr 1
    omega
  · rfl
theorem win_win (p : PBytes) (A N a n : Nat) (h : a + n ≤ N) : win (win p A N) a n = win p (A + a) n := by
  rw [win_sub p A N (A + a) n (by omega) (by omega)]
  congr 1
  omega

/-- a good page in which the cells are those of another one -/
structure Like (p q : PBytes) : Prop where
  good : GoodP q
  cnt : cnt q = cnt p
  cell : ∀ j, j < Mun.cnt p → cellP q j = cellP p j
  size : ∀ j, j < Mun.cnt p → sSize q j = sSize p j
  head : win q 12 2 = win p 12 2
  tail : win q 18 8 = win p 18 8
theorem Like.free {p q : PBytes} (h : Like p q) : freeP q = freeP p := by
  unfold freeP
  rw [h.cnt, szs_congr h.size]
theorem Like.refl {p : PBytes} (h : GoodP p) : Like p p := ⟨h, rfl, fun _ _ => rfl, fun _ _ => rfl, rfl, rfl⟩
theorem Like.trans {p q r : PBytes} (h : Like p q) (k : Like q r) : Like p r :=
  ⟨k.good, k.cnt.trans h.cnt, fun j hj => (k.cell j (by rw [h.cnt]; exact hj)).trans (h.cell j hj), fun j hj => (k.size j (by rw [h.cnt]; exact hj)).trans (h.size j hj), k.head.trans h.head, k.tail.trans h.tail⟩

theorem anew_like {p : PBytes} (h : GoodP p) : Like p (anewP p) := by
  have ha := good_anewOk h
  have hd := anewP_inv ha
  have hfit := ha.fit
  have hs1 : ∀ j, j < cnt p → szs p (j + 1) ≤ szs p (cnt p) := fun j hj => szs_mono p (by omega)
  have hs2 : ∀ j, szs p (j + 1) = szs p j + sSize p j := fun j => rfl
  refine ⟨⟨hd.len, ?_, by rw [hd.cnt, hd.low]; omega, by rw [hd.low]; omega, fun i hi => ?_, fun a b hab hb x ⟨h1, h2⟩ => ?_⟩, hd.cnt, hd.cell, hd.size, hd.head _ _ (by omega), hd.head _ _ (by omega)⟩
  · rw [win_get, hd.head 13 1 (by omega), ← win_get]; exact h.none
  · rw [hd.cnt] at hi
    rw [hd.low, hd.from_ i hi, hd.size i hi]
    have := hs1 i hi
    have := hs2 i
    omega
  · rw [hd.cnt] at hb
    unfold inC at h1 h2
    rw [hd.from_ a (by omega), hd.size a (by omega)] at h1
    rw [hd.from_ b hb, hd.size b hb] at h2
    have := hs1 a (by omega)
    have := hs1 b hb
    have := hs2 a
    have := hs2 b
    have : szs p (a + 1) ≤ szs p b := szs_mono p (by omega)
    omega
theorem room_like {p : PBytes} (h : GoodP p) (k : Nat) : Like p (roomP p k) := by
  unfold roomP
  split
  · exact anew_like h
  · exact Like.refl h

/-- a cell laid right below low -/
structure BelowF (q x : PBytes) (i : Nat) (c : PBytes) : Prop where
  len : x.length = 512
  low : lowP x = lowP q - c.length
  from_ : sFrom x i = lowP q - c.length
  size : sSize x i = c.length
  cell : win x (lowP q - c.length) c.length = c
  rest : ∀ a n, (a + n ≤ 16 ∨ 18 ≤ a ∧ a + n ≤ 26 + 4 * i ∨ 26 + 4 * i + 4 ≤ a ∧ a + n ≤ lowP q - c.length ∨ lowP q ≤ a ∧ a + n ≤ 512) → win x a n = win q a n
theorem below_facts {q : PBytes} (hq : q.length = 512) {i : Nat} {c : PBytes} (hlo : lowP q ≤ 512) (hc : c.length ≤ lowP q) (hi : 26 + 4 * (i + 1) ≤ lowP q - c.length) : BelowF q (belowP q i c) i c := by
  obtain ⟨lo, hl⟩ : ∃ lo, lowP q = lo := ⟨_, rfl⟩
  obtain ⟨d, hd⟩ : ∃ d, lo - c.length = d := ⟨_, rfl⟩
  have e : belowP q i c = ss (pt (putAt q d c) 16 2 d) i d c.length := by unfold belowP; rw [hl, hd]
  rw [hl] at hlo hc hi
  rw [hd] at hi
  have l1 : (putAt q d c).length = 512 := by rw [putAt_length _ _ _ (by omega), hq]
  have l2 : (pt (putAt q d c) 16 2 d).length = 512 := by rw [pt_length _ _ _ _ (by omega), l1]
  rw [e]
  refine ⟨by rw [ss_length _ _ _ _ (by omega), l2], ?_, ?_, ?_, ?_, fun a n h => ?_⟩
  · rw [hl, hd, lowP_ss _ _ _ _ (by omega)]
    show gt _ 16 2 = d
    rw [gt_pt2 _ _ _ (by omega) (by omega)]
  · rw [hl, hd, sFrom_ss _ _ _ _ (by omega) (by omega)]
  · rw [sSize_ss _ _ _ _ (by omega) (by omega)]
  · rw [hl, hd, win_ss _ _ _ _ _ _ (by omega) (by omega), win_pt _ _ _ _ _ _ (by omega) (by omega)]
    exact win_putAt_same _ _ _ (by omega)
  · rw [hl] at h
    rw [hd] at h
    rw [win_ss _ _ _ _ _ _ (by omega) (by omega), win_pt _ _ _ _ _ _ (by omega) (by omega), win_putAt _ _ _ _ _ (by omega) (by omega)]
theorem BelowF.slot {q x : PBytes} {i : Nat} {c : PBytes} (h : BelowF q x i c) (j : Nat) (hj : j ≠ i) (hj2 : 26 + 4 * j + 4 ≤ lowP q - c.length) : sFrom x j = sFrom q j ∧ sSize x j = sSize q j := by
  refine ⟨gt_of_win (h.rest _ _ ?_), gt_of_win (h.rest _ _ ?_)⟩ <;> omega

/-- slots moved up -/
structure UpF (q u : PBytes) (i n m : Nat) : Prop where
  len : u.length = 512
  cnt : cnt u = m
  low : lowP u = lowP q
  lo : ∀ j, j < i → sFrom u j = sFrom q j ∧ sSize u j = sSize q j
  hi : ∀ j, i ≤ j → j < n → sFrom u (j + 1) = sFrom q j ∧ sSize u (j + 1) = sSize q j
  head : ∀ a k, a + k ≤ 14 ∨ 16 ≤ a ∧ a + k ≤ 26 → win u a k = win q a k
  rest : ∀ a k, 26 + 4 * (n + 1) ≤ a → win u a k = win q a k
theorem up_facts {q : PBytes} (hq : q.length = 512) {i n m : Nat} (hi : i ≤ n) (hn : 26 + 4 * (n + 1) ≤ 512) (hm : m < 65536) : UpF q (pt (upP q i n) 14 2 m) i n m := by
  have hw : (win q (26 + 4 * i) (4 * (n - i))).length = 4 * (n - i) := win_length _ _ _ (by omega)
  have l1 : (upP q i n).length = 512 := by unfold upP; rw [putAt_length _ _ _ (by omega), hq]
  have hup : ∀ a k, 26 + 4 * (i + 1) ≤ a → a + k ≤ 26 + 4 * (n + 1) → win (upP q i n) a k = win q (a - 4) k := by
    intro a k h1 h2
    unfold upP
    rw [win_putAt_in _ _ _ _ _ (by omega) h1 (by omega), win_win _ _ _ _ _ (by omega)]
    congr 1
    omega
  have hap : ∀ a k, a + k ≤ 26 + 4 * (i + 1) ∨ 26 + 4 * (n + 1) ≤ a → win (upP q i n) a k = win q a k := by
    intro a k h
    unfold upP
    exact win_putAt _ _ _ _ _ (by omega) (by omega)
  refine ⟨by rw [pt_length _ _ _ _ (by omega), l1], ?_, ?_, fun j hj => ⟨?_, ?_⟩, fun j h1 h2 => ⟨?_, ?_⟩, fun a k h => ?_, fun a k h => ?_⟩
  · show gt _ 14 2 = m
    rw [gt_pt2 _ _ _ (by omega) hm]
  · refine gt_of_win ?_
    rw [win_pt _ _ _ _ _ _ (by omega) (by omega), hap _ _ (by omega)]
  · rw [sFrom_pt _ _ _ _ _ (by omega) (by omega)]
    exact gt_of_win (hap _ _ (by omega))
  · rw [sSize_pt _ _ _ _ _ (by omega) (by omega)]
    exact gt_of_win (hap _ _ (by omega))
  · rw [sFrom_pt _ _ _ _ _ (by omega) (by omega)]
    have h3 := hup (26 + 4 * (j + 1)) 2 (by omega) (by omega)
    rw [show 26 + 4 * (j + 1) - 4 = 26 + 4 * j by omega] at h3
    exact (gt_win _ _ _).trans ((congrArg leNat h3).trans (gt_win _ _ _).symm)
  · rw [sSize_pt _ _ _ _ _ (by omega) (by omega)]
    have h3 := hup (26 + 4 * (j + 1) + 2) 2 (by omega) (by omega)
    rw [show 26 + 4 * (j + 1) + 2 - 4 = 26 + 4 * j + 2 by omega] at h3
    exact (gt_win _ _ _).trans ((congrArg leNat h3).trans (gt_win _ _ _).symm)
  · rw [win_pt _ _ _ _ _ _ (by omega) (by omega), hap _ _ (by omega)]
  · rw [win_pt _ _ _ _ _ _ (by omega) (by omega), hap _ _ (by omega)]

/-- the place from which a cell has come -/
def preI (i j : Nat) : Nat := if j < i then j else j - 1

/-- a page with a cell more -/
structure InsF (p x : PBytes) (i : Nat) (c : PBytes) : Prop where
  good : GoodP x
  cnt : cnt x = cnt p + 1
  here : cellP x i = c
  sizeH : sSize x i = c.length
  cell : ∀ j, j < Mun.cnt p + 1 → j ≠ i → cellP x j = cellP p (preI i j)
  size : ∀ j, j < Mun.cnt p + 1 → j ≠ i → sSize x j = sSize p (preI i j)
  head : win x 12 2 = win p 12 2
  tail : win x 18 8 = win p 18 8

theorem ins_facts {p : PBytes} (h : GoodP p) {i : Nat} (hi : i ≤ cnt p) {c : PBytes} (hf : (c.length : Int) + 4 ≤ freeP p) : InsF p (insP p i c) i c := by
  have hrm := room_ok h (c.length + 4) (by push_cast; exact hf)
  have hlk := room_like h (c.length + 4)
  obtain ⟨q, hq⟩ : ∃ q, roomP p (c.length + 4) = q := ⟨_, rfl⟩
  rw [hq] at hrm hlk
  obtain ⟨n, hn⟩ : ∃ n, cnt p = n := ⟨_, rfl⟩
  have hroom := hrm.room
  have hlow := hrm.low
  rw [hn] at hi hroom
  have hqc : cnt q = n := hrm.cnt.trans hn
  have hu := up_facts (m := n + 1) hrm.len hi (by omega) (by omega)
  obtain ⟨u, huu⟩ : ∃ u, pt (upP q i n) 14 2 (n + 1) = u := ⟨_, rfl⟩
  rw [huu] at hu
  have hx := below_facts (i := i) (c := c) hu.len (by rw [hu.low]; exact hlow) (by rw [hu.low]; omega) (by rw [hu.low]; omega)
  have e : insP p i c = belowP u i c := by unfold insP; rw [hq, hn, huu]
  rw [← e] at hx
  obtain ⟨x, hxx⟩ : ∃ x, insP p i c = x := ⟨_, rfl⟩
  rw [hxx] at hx ⊢
  obtain ⟨lo, hlo⟩ : ∃ lo, lowP q = lo := ⟨_, rfl⟩
  have hul := hu.low
  rw [hlo] at hroom hlow hul
  have hxl := hx.low
  have hxf := hx.from_
  have hxr := hx.rest
  have hxc := hx.cell
  rw [hul] at hxl hxf hxr hxc
  have hcnt : cnt x = n + 1 := (gt_of_win (hxr 14 2 (by omega))).trans hu.cnt
  have hslot : ∀ j, j < n + 1 → j ≠ i → sFrom x j = sFrom q (preI i j) ∧ sSize x j = sSize q (preI i j) := by
    intro j hj hji
    have h1 := hx.slot j hji (by rw [hul]; omega)
    rw [h1.1, h1.2]
    unfold preI
    by_cases hlt : j < i
    · rw [if_pos hlt]; exact hu.lo j hlt
    · rw [if_neg hlt]
      obtain ⟨k, rfl⟩ : ∃ k, j = k + 1 := ⟨j - 1, by omega⟩
      exact hu.hi k (by omega) (by omega)
  have hpre : ∀ j, j < n + 1 → j ≠ i → preI i j < n := by
    intro j hj hji
    unfold preI
    split <;> omega
  have hqcell : ∀ k, k < n → lo ≤ sFrom q k ∧ sFrom q k + sSize q k ≤ 512 := fun k hk => by rw [← hlo]; exact hlk.good.cell k (by rw [hqc]; exact hk)
  have hcx : ∀ j, j < n + 1 → j ≠ i → cellP x j = cellP q (preI i j) := by
    intro j hj hji
    have h1 := hslot j hj hji
    have h2 := hqcell _ (hpre j hj hji)
    rw [cellP_win, cellP_win, h1.1, h1.2]
    rw [hxr _ _ (by omega), hu.rest _ _ (by omega)]
  refine ⟨⟨hx.len, ?_, by rw [hcnt, hxl]; omega, by rw [hxl]; omega, fun j hj => ?_, fun a b hab hb y ⟨h1, h2⟩ => ?_⟩, by rw [hcnt, hn], ?_, hx.size, fun j hj hji => ?_, fun j hj hji => ?_, ?_, ?_⟩
  · rw [win_get, hxr 13 1 (by omega), hu.head 13 1 (by omega), win_sub q 12 2 13 1 (by omega) (by omega), hlk.head, ← win_sub p 12 2 13 1 (by omega) (by omega), ← win_get]
    exact h.none
  · rw [hcnt] at hj
    rw [hxl]
    by_cases hji : j = i
    · subst hji
      rw [hxf, hx.size]
      omega
    · have h1 := hslot j hj hji
      have h2 := hqcell _ (hpre j hj hji)
      rw [h1.1, h1.2]
      omega
  · rw [hcnt] at hb
    unfold inC at h1 h2
    by_cases hai : a = i
    · subst hai
      rw [hxf, hx.size] at h1
      have h3 := hslot b hb (by omega)
      have h4 := hqcell _ (hpre b hb (by omega))
      rw [h3.1, h3.2] at h2
      omega
    · have h5 := hslot a (by omega) hai
      have h6 := hqcell _ (hpre a (by omega) hai)
      rw [h5.1, h5.2] at h1
      by_cases hbi : b = i
      · subst hbi
        rw [hxf, hx.size] at h2
        omega
      · have h3 := hslot b hb hbi
        rw [h3.1, h3.2] at h2
        refine hlk.good.apart (preI i a) (preI i b) ?_ (by rw [hqc]; exact hpre b hb hbi) y ⟨h1, h2⟩
        unfold preI
        split <;> split <;> omega
  · rw [cellP_win, hxf, hx.size]; exact hxc
  · rw [hn] at hj
    rw [hcx j hj hji, hlk.cell _ (by rw [hn]; exact hpre j hj hji)]
  · rw [hn] at hj
    rw [(hslot j hj hji).2, hlk.size _ (by rw [hn]; exact hpre j hj hji)]
  · rw [hxr 12 2 (by omega), hu.head 12 2 (by omega), hlk.head]
  · rw [hxr 18 8 (by omega), hu.head 18 8 (by omega), hlk.tail]
end Mun
