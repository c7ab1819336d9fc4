/- Texts of mine, one behind the other: PageI, PageAw, HeadsW, PageJ, P15. -/
import Derived.Test.YtjfepmohoijalaaGreatMgF
import Derived.Test.YtjfepmohoijalaaGreatMgT
import Derived.Test.YtjfepmohoijalaaGreatP11
import Derived.Test.YtjfepmohoijalaaGreatMgM
section
/- Plain: what laying anew, Insert, Remove, Replace leave of the cells. No program in sight. -/
set_option linter.unusedVariables false
namespace Mun

theorem win_putAt_in (p : PBytes) (A : Nat) (bs : PBytes) (a n : Nat) (hl : A + bs.length ≤ p.length) (h1 : A ≤ a) (h2 : a + n ≤ A + bs.length) : win (putAt p A bs) a n = win bs (a - A) n := by
  apply List.ext_getElem?
  intro j
  unfold win
  rw [List.getElem?_take, List.getElem?_take]
  split
  · rw [List.getElem?_drop, List.getElem?_drop, putAt_getElem? _ _ _ hl, if_pos (by omega)]
    congr 1
    omega
  · rfl
theorem win_win (p : PBytes) (A N a n : Nat) (h : a + n ≤ N) : win (win p A N) a n = win p (A + a) n := by
  rw [win_sub p A N (A + a) n (by omega) (by omega)]
  congr 1
  omega

/-- a good page in which the cells are those of another one -/
structure Like (p q : PBytes) : Prop where
  good : GoodP q
  cnt : cnt q = cnt p
  cell : ∀ j, j < Mun.cnt p → cellP q j = cellP p j
  size : ∀ j, j < Mun.cnt p → sSize q j = sSize p j
  head : win q 12 2 = win p 12 2
  tail : win q 18 8 = win p 18 8
theorem Like.free {p q : PBytes} (h : Like p q) : freeP q = freeP p := by
  unfold freeP
  rw [h.cnt, szs_congr h.size]
theorem Like.refl {p : PBytes} (h : GoodP p) : Like p p := ⟨h, rfl, fun _ _ => rfl, fun _ _ => rfl, rfl, rfl⟩
theorem Like.trans {p q r : PBytes} (h : Like p q) (k : Like q r) : Like p r :=
  ⟨k.good, k.cnt.trans h.cnt, fun j hj => (k.cell j (by rw [h.cnt]; exact hj)).trans (h.cell j hj), fun j hj => (k.size j (by rw [h.cnt]; exact hj)).trans (h.size j hj), k.head.trans h.head, k.tail.trans h.tail⟩

theorem anew_like {p : PBytes} (h : GoodP p) : Like p (anewP p) := by
  have ha := good_anewOk h
  have hd := anewP_inv ha
  have hfit := ha.fit
  have hs1 : ∀ j, j < cnt p → szs p (j + 1) ≤ szs p (cnt p) := fun j hj => szs_mono p (by omega)
  have hs2 : ∀ j, szs p (j + 1) = szs p j + sSize p j := fun j => rfl
  refine ⟨⟨hd.len, ?_, by rw [hd.cnt, hd.low]; omega, by rw [hd.low]; omega, fun i hi => ?_, fun a b hab hb x ⟨h1, h2⟩ => ?_⟩, hd.cnt, hd.cell, hd.size, hd.head _ _ (by omega), hd.head _ _ (by omega)⟩
  · rw [win_get, hd.head 13 1 (by omega), ← win_get]; exact h.none
  · rw [hd.cnt] at hi
    rw [hd.low, hd.from_ i hi, hd.size i hi]
    have := hs1 i hi
    have := hs2 i
    omega
  · rw [hd.cnt] at hb
    unfold inC at h1 h2
    rw [hd.from_ a (by omega), hd.size a (by omega)] at h1
    rw [hd.from_ b hb, hd.size b hb] at h2
    have := hs1 a (by omega)
    have := hs1 b hb
    have := hs2 a
    have := hs2 b
    have : szs p (a + 1) ≤ szs p b := szs_mono p (by omega)
    omega
theorem room_like {p : PBytes} (h : GoodP p) (k : Nat) : Like p (roomP p k) := by
  unfold roomP
  split
  · exact anew_like h
  · exact Like.refl h

/-- a cell laid right below low -/
structure BelowF (q x : PBytes) (i : Nat) (c : PBytes) : Prop where
  len : x.length = 512
  low : lowP x = lowP q - c.length
  from_ : sFrom x i = lowP q - c.length
  size : sSize x i = c.length
  cell : win x (lowP q - c.length) c.length = c
  rest : ∀ a n, (a + n ≤ 16 ∨ 18 ≤ a ∧ a + n ≤ 26 + 4 * i ∨ 26 + 4 * i + 4 ≤ a ∧ a + n ≤ lowP q - c.length ∨ lowP q ≤ a ∧ a + n ≤ 512) → win x a n = win q a n
theorem below_facts {q : PBytes} (hq : q.length = 512) {i : Nat} {c : PBytes} (hlo : lowP q ≤ 512) (hc : c.length ≤ lowP q) (hi : 26 + 4 * (i + 1) ≤ lowP q - c.length) : BelowF q (belowP q i c) i c := by
  obtain ⟨lo, hl⟩ : ∃ lo, lowP q = lo := ⟨_, rfl⟩
  obtain ⟨d, hd⟩ : ∃ d, lo - c.length = d := ⟨_, rfl⟩
  have e : belowP q i c = ss (pt (putAt q d c) 16 2 d) i d c.length := by unfold belowP; rw [hl, hd]
  rw [hl] at hlo hc hi
  rw [hd] at hi
  have l1 : (putAt q d c).length = 512 := by rw [putAt_length _ _ _ (by omega), hq]
  have l2 : (pt (putAt q d c) 16 2 d).length = 512 := by rw [pt_length _ _ _ _ (by omega), l1]
  rw [e]
  refine ⟨by rw [ss_length _ _ _ _ (by omega), l2], ?_, ?_, ?_, ?_, fun a n h => ?_⟩
  · rw [hl, hd, lowP_ss _ _ _ _ (by omega)]
    show gt _ 16 2 = d
    rw [gt_pt2 _ _ _ (by omega) (by omega)]
  · rw [hl, hd, sFrom_ss _ _ _ _ (by omega) (by omega)]
  · rw [sSize_ss _ _ _ _ (by omega) (by omega)]
  · rw [hl, hd, win_ss _ _ _ _ _ _ (by omega) (by omega), win_pt _ _ _ _ _ _ (by omega) (by omega)]
    exact win_putAt_same _ _ _ (by omega)
  · rw [hl] at h
    rw [hd] at h
    rw [win_ss _ _ _ _ _ _ (by omega) (by omega), win_pt _ _ _ _ _ _ (by omega) (by omega), win_putAt _ _ _ _ _ (by omega) (by omega)]
theorem BelowF.slot {q x : PBytes} {i : Nat} {c : PBytes} (h : BelowF q x i c) (j : Nat) (hj : j ≠ i) (hj2 : 26 + 4 * j + 4 ≤ lowP q - c.length) : sFrom x j = sFrom q j ∧ sSize x j = sSize q j := by
  refine ⟨gt_of_win (h.rest _ _ ?_), gt_of_win (h.rest _ _ ?_)⟩ <;> omega

/-- slots moved up -/
structure UpF (q u : PBytes) (i n m : Nat) : Prop where
  len : u.length = 512
  cnt : cnt u = m
  low : lowP u = lowP q
  lo : ∀ j, j < i → sFrom u j = sFrom q j ∧ sSize u j = sSize q j
  hi : ∀ j, i ≤ j → j < n → sFrom u (j + 1) = sFrom q j ∧ sSize u (j + 1) = sSize q j
  head : ∀ a k, a + k ≤ 14 ∨ 16 ≤ a ∧ a + k ≤ 26 → win u a k = win q a k
  rest : ∀ a k, 26 + 4 * (n + 1) ≤ a → win u a k = win q a k
theorem up_facts {q : PBytes} (hq : q.length = 512) {i n m : Nat} (hi : i ≤ n) (hn : 26 + 4 * (n + 1) ≤ 512) (hm : m < 65536) : UpF q (pt (upP q i n) 14 2 m) i n m := by
  have hw : (win q (26 + 4 * i) (4 * (n - i))).length = 4 * (n - i) := win_length _ _ _ (by omega)
  have l1 : (upP q i n).length = 512 := by unfold upP; rw [putAt_length _ _ _ (by omega), hq]
  have hup : ∀ a k, 26 + 4 * (i + 1) ≤ a → a + k ≤ 26 + 4 * (n + 1) → win (upP q i n) a k = win q (a - 4) k := by
    intro a k h1 h2
    unfold upP
    rw [win_putAt_in _ _ _ _ _ (by omega) h1 (by omega), win_win _ _ _ _ _ (by omega)]
    congr 1
    omega
  have hap : ∀ a k, a + k ≤ 26 + 4 * (i + 1) ∨ 26 + 4 * (n + 1) ≤ a → win (upP q i n) a k = win q a k := by
    intro a k h
    unfold upP
    exact win_putAt _ _ _ _ _ (by omega) (by omega)
  refine ⟨by rw [pt_length _ _ _ _ (by omega), l1], ?_, ?_, fun j hj => ⟨?_, ?_⟩, fun j h1 h2 => ⟨?_, ?_⟩, fun a k h => ?_, fun a k h => ?_⟩
  · show gt _ 14 2 = m
    rw [gt_pt2 _ _ _ (by omega) hm]
  · refine gt_of_win ?_
    rw [win_pt _ _ _ _ _ _ (by omega) (by omega), hap _ _ (by omega)]
  · rw [sFrom_pt _ _ _ _ _ (by omega) (by omega)]
    exact gt_of_win (hap _ _ (by omega))
  · rw [sSize_pt _ _ _ _ _ (by omega) (by omega)]
    exact gt_of_win (hap _ _ (by omega))
  · rw [sFrom_pt _ _ _ _ _ (by omega) (by omega)]
    have h3 := hup (26 + 4 * (j + 1)) 2 (by omega) (by omega)
    rw [show 26 + 4 * (j + 1) - 4 = 26 + 4 * j by omega] at h3
    exact (gt_win _ _ _).trans ((congrArg leNat h3).trans (gt_win _ _ _).symm)
  · rw [sSize_pt _ _ _ _ _ (by omega) (by omega)]
    have h3 := hup (26 + 4 * (j + 1) + 2) 2 (by omega) (by omega)
    rw [show 26 + 4 * (j + 1) + 2 - 4 = 26 + 4 * j + 2 by omega] at h3
    exact (gt_win _ _ _).trans ((congrArg leNat h3).trans (gt_win _ _ _).symm)
  · rw [win_pt _ _ _ _ _ _ (by omega) (by omega), hap _ _ (by omega)]
  · rw [win_pt _ _ _ _ _ _ (by omega) (by omega), hap _ _ (by omega)]

/-- the place from which a cell has come -/
def preI (i j : Nat) : Nat := if j < i then j else j - 1

/-- a page with a cell more -/
structure InsF (p x : PBytes) (i : Nat) (c : PBytes) : Prop where
  good : GoodP x
  cnt : cnt x = cnt p + 1
  here : cellP x i = c
  sizeH : sSize x i = c.length
  cell : ∀ j, j < Mun.cnt p + 1 → j ≠ i → cellP x j = cellP p (preI i j)
  size : ∀ j, j < Mun.cnt p + 1 → j ≠ i → sSize x j = sSize p (preI i j)
  head : win x 12 2 = win p 12 2
  tail : win x 18 8 = win p 18 8

theorem ins_facts {p : PBytes} (h : GoodP p) {i : Nat} (hi : i ≤ cnt p) {c : PBytes} (hf : (c.length : Int) + 4 ≤ freeP p) : InsF p (insP p i c) i c := by
  have hrm := room_ok h (c.length + 4) (by push_cast; exact hf)
  have hlk := room_like h (c.length + 4)
  obtain ⟨q, hq⟩ : ∃ q, roomP p (c.length + 4) = q := ⟨_, rfl⟩
  rw [hq] at hrm hlk
  obtain ⟨n, hn⟩ : ∃ n, cnt p = n := ⟨_, rfl⟩
  have hroom := hrm.room
  have hlow := hrm.low
  rw [hn] at hi hroom
  have hqc : cnt q = n := hrm.cnt.trans hn
  have hu := up_facts (m := n + 1) hrm.len hi (by omega) (by omega)
  obtain ⟨u, huu⟩ : ∃ u, pt (upP q i n) 14 2 (n + 1) = u := ⟨_, rfl⟩
  rw [huu] at hu
  have hx := below_facts (i := i) (c := c) hu.len (by rw [hu.low]; exact hlow) (by rw [hu.low]; omega) (by rw [hu.low]; omega)
  have e : insP p i c = belowP u i c := by unfold insP; rw [hq, hn, huu]
  rw [← e] at hx
  obtain ⟨x, hxx⟩ : ∃ x, insP p i c = x := ⟨_, rfl⟩
  rw [hxx] at hx ⊢
  obtain ⟨lo, hlo⟩ : ∃ lo, lowP q = lo := ⟨_, rfl⟩
  have hul := hu.low
  rw [hlo] at hroom hlow hul
  have hxl := hx.low
  have hxf := hx.from_
  have hxr := hx.rest
  have hxc := hx.cell
  rw [hul] at hxl hxf hxr hxc
  have hcnt : cnt x = n + 1 := (gt_of_win (hxr 14 2 (by omega))).trans hu.cnt
  have hslot : ∀ j, j < n + 1 → j ≠ i → sFrom x j = sFrom q (preI i j) ∧ sSize x j = sSize q (preI i j) := by
    intro j hj hji
    have h1 := hx.slot j hji (by rw [hul]; omega)
    rw [h1.1, h1.2]
    unfold preI
    by_cases hlt : j < i
    · rw [if_pos hlt]; exact hu.lo j hlt
    · rw [if_neg hlt]
      obtain ⟨k, rfl⟩ : ∃ k, j = k + 1 := ⟨j - 1, by omega⟩
      exact hu.hi k (by omega) (by omega)
  have hpre : ∀ j, j < n + 1 → j ≠ i → preI i j < n := by
    intro j hj hji
    unfold preI
    split <;> omega
  have hqcell : ∀ k, k < n → lo ≤ sFrom q k ∧ sFrom q k + sSize q k ≤ 512 := fun k hk => by rw [← hlo]; exact hlk.good.cell k (by rw [hqc]; exact hk)
  have hcx : ∀ j, j < n + 1 → j ≠ i → cellP x j = cellP q (preI i j) := by
    intro j hj hji
    have h1 := hslot j hj hji
    have h2 := hqcell _ (hpre j hj hji)
    rw [cellP_win, cellP_win, h1.1, h1.2]
    rw [hxr _ _ (by omega), hu.rest _ _ (by omega)]
  refine ⟨⟨hx.len, ?_, by rw [hcnt, hxl]; omega, by rw [hxl]; omega, fun j hj => ?_, fun a b hab hb y ⟨h1, h2⟩ => ?_⟩, by rw [hcnt, hn], ?_, hx.size, fun j hj hji => ?_, fun j hj hji => ?_, ?_, ?_⟩
  · rw [win_get, hxr 13 1 (by omega), hu.head 13 1 (by omega), win_sub q 12 2 13 1 (by omega) (by omega), hlk.head, ← win_sub p 12 2 13 1 (by omega) (by omega), ← win_get]
    exact h.none
  · rw [hcnt] at hj
    rw [hxl]
    by_cases hji : j = i
    · subst hji
      rw [hxf, hx.size]
      omega
    · have h1 := hslot j hj hji
      have h2 := hqcell _ (hpre j hj hji)
      rw [h1.1, h1.2]
      omega
  · rw [hcnt] at hb
    unfold inC at h1 h2
    by_cases hai : a = i
    · subst hai
      rw [hxf, hx.size] at h1
      have h3 := hslot b hb (by omega)
      have h4 := hqcell _ (hpre b hb (by omega))
      rw [h3.1, h3.2] at h2
      omega
    · have h5 := hslot a (by omega) hai
      have h6 := hqcell _ (hpre a (by omega) hai)
      rw [h5.1, h5.2] at h1
      by_cases hbi : b = i
      · subst hbi
        rw [hxf, hx.size] at h2
        omega
      · have h3 := hslot b hb hbi
        rw [h3.1, h3.2] at h2
        refine hlk.good.apart (preI i a) (preI i b) ?_ (by rw [hqc]; exact hpre b hb hbi) y ⟨h1, h2⟩
        unfold preI
        split <;> split <;> omega
  · rw [cellP_win, hxf, hx.size]; exact hxc
  · rw [hn] at hj
    rw [hcx j hj hji, hlk.cell _ (by rw [hn]; exact hpre j hj hji)]
  · rw [hn] at hj
    rw [(hslot j hj hji).2, hlk.size _ (by rw [hn]; exact hpre j hj hji)]
  · rw [hxr 12 2 (by omega), hu.head 12 2 (by omega), hlk.head]
  · rw [hxr 18 8 (by omega), hu.head 18 8 (by omega), hlk.tail]
end Mun
end

section
/- awake of the laws on pages: a page with a cell. -/
set_option maxRecDepth 100000
set_option linter.unusedVariables false
set_option linter.unusedSimpArgs false
namespace Mun
open Go Go.RowKit
open Go.Proofs

theorem BytesOut.at_ {w w' : World} {c : PBytes} {e : Ending} (h : BytesOut w c e w') (n : Nat) (hn : c.length = n) : ∃ g, e = .returned (.tuple #[.slice (some ⟨g, 0, none⟩) n n, .int .i64 0]) ∧ w'.heap[g]? = some (bobj c) ∧ w.heap.size ≤ g ∧ Below w.heap.size w w' := by
  subst hn
  exact h
theorem bobj_rdAt {F : Foot} {w : World} {g : Nat} {c : PBytes} (h : w.heap[g]? = some (bobj c)) (n : Nat) (hn : c.length = n) (hm : n ≤ maxLen) (hF : ¬ F g) : RdB F w (.slice (some ⟨g, 0, none⟩) n n) c := by
  subst hn
  refine ⟨by simp [bv], some ⟨g, 0, none⟩, c.length, rfl, Nat.le_refl _, hm, by simp, fun _ => ⟨g, 0, _, _, _, rfl, hF, h, ?_⟩⟩
  simp only [List.drop_zero]
  rw [List.take_of_length_le (by simp [bv])]

end Mun
end

section
/- The law PageHeads: the walk. -/
set_option maxRecDepth 100000
set_option linter.unusedVariables false
set_option linter.unusedSimpArgs false
namespace Mun
open Go Go.RowKit
open Go.Proofs

theorem Same.cells {p q : PBytes} (h : Same p q) (hg : GoodP p) : cellsP q (Mun.cnt q) = cellsP p (Mun.cnt p) := by
  rw [h.cnt]
  unfold cellsP
  apply List.map_congr_left
  intro i hi
  exact h.cell hg i (List.mem_range.1 hi)
theorem cells_small {p : PBytes} (hg : GoodP p) : ∀ c ∈ cellsP p (cnt p), c.length ≤ 512 := by
  intro c hc
  unfold cellsP at hc
  obtain ⟨i, hi, rfl⟩ := List.mem_map.1 hc
  unfold cellP
  rw [List.length_take, List.length_drop, hg.len]
  omega
theorem cells_max {p : PBytes} (hg : GoodP p) : ∀ c ∈ cellsP p (cnt p), c.length ≤ maxLen := fun c hc => Nat.le_trans (cells_small hg c hc) (by decide)

structure HeadsP (p q s t : PBytes) (L X l : Nat) : Prop where
  gp : GoodP p
  gq : GoodP q
  gs : GoodP s
  gdt : GoodP t
  kind : gt s 12 1 = gt p 12 1
  lsn : gt s 4 8 = l
  link : gt s 18 4 = L
  extra : gt s 22 4 = X
  lsn2 : gt t 4 8 = l
  link2 : gt t 18 4 = 0
  extra2 : gt t 22 4 = 0
  cells : cellsP s (cnt s) = cellsP p (cnt p)
  chk : checkP s = 0
  eq : setP p L X = q
  es : sealP q l = s
  et : setP s 0 0 = t

theorem heads_p {p : PBytes} (hg : GoodP p) (L X l : Nat) (hL : L < 4294967296) (hX : X < 4294967296) (hl : l < 18446744073709551616) : ∃ q s t, HeadsP p q s t L X l := by
  have h1 := set_same hg.len L X
  have g1 := h1.good hg
  have h2 := seal_same g1.len l
  have g2 := h2.good g1
  have h3 := set_same g2.len 0 0
  have g3 := h3.good g2
  refine ⟨_, _, _, hg, g1, g2, g3, ?_, gt_seal_lsn g1.len l hl, ?_, ?_, ?_, gt_set_link g2.len 0 0 (by decide), gt_set_extra g2.len 0 0 (by decide), (h1.trans h2).cells hg, check_seal g1 l, rfl, rfl, rfl⟩
  · rw [gt_seal g1.len l 12 1 (by omega), gt_set hg.len _ _ 12 1 (by omega)]
  · rw [gt_seal g1.len l 18 4 (by omega), gt_set_link hg.len _ _ hL]
  · rw [gt_seal g1.len l 22 4 (by omega), gt_set_extra hg.len _ _ hX]
  · rw [gt_set g2.len _ _ 4 8 (by omega), gt_seal_lsn g1.len l hl]

end Mun
end

section
/- Plain: what Remove and Replace leave of the cells. No program in sight. -/
set_option linter.unusedVariables false
namespace Mun

/-- the place from which a cell has come, one taken out -/
def postI (i j : Nat) : Nat := if j < i then j else j + 1

/-- a page with a cell less -/
structure RemF (p x : PBytes) (i : Nat) : Prop where
  good : GoodP x
  cnt : cnt x = cnt p - 1
  cell : ∀ j, j < Mun.cnt p - 1 → cellP x j = cellP p (postI i j)
  size : ∀ j, j < Mun.cnt p - 1 → sSize x j = sSize p (postI i j)
  head : win x 12 2 = win p 12 2
  tail : win x 18 8 = win p 18 8

theorem rem_facts {p : PBytes} (h : GoodP p) {i : Nat} (hi : i < cnt p) : RemF p (remP p i) i := by
  have hfit := h.fit
  have hlow := h.low
  have hp := h.len
  obtain ⟨n, hn⟩ : ∃ n, cnt p = n := ⟨_, rfl⟩
  rw [hn] at hi hfit
  have hw : (win p (26 + 4 * (i + 1)) (4 * (n - 1 - i))).length = 4 * (n - 1 - i) := win_length _ _ _ (by omega)
  obtain ⟨d1, hd1⟩ : ∃ d1, putAt p (26 + 4 * i) (win p (26 + 4 * (i + 1)) (4 * (n - 1 - i))) = d1 := ⟨_, rfl⟩
  have l1 : d1.length = 512 := by rw [← hd1, putAt_length _ _ _ (by omega), hp]
  have hz := zer_length 4
  obtain ⟨d2, hd2⟩ : ∃ d2, downP p i n = d2 := ⟨_, rfl⟩
  have e2 : d2 = putAt d1 (26 + 4 * (n - 1)) (zer 4) := by rw [← hd2, ← hd1]; rfl
  have l2 : d2.length = 512 := by rw [e2, putAt_length _ _ _ (by omega), l1]
  have hap : ∀ a k, a + k ≤ 26 + 4 * i ∨ 26 + 4 * n ≤ a → win d2 a k = win p a k := by
    intro a k hak
    rw [e2, win_putAt _ _ _ _ _ (by omega) (by omega), ← hd1, win_putAt _ _ _ _ _ (by omega) (by omega)]
  have hdn : ∀ a k, 26 + 4 * i ≤ a → a + k ≤ 26 + 4 * (n - 1) → win d2 a k = win p (a + 4) k := by
    intro a k h1 h2
    rw [e2, win_putAt _ _ _ _ _ (by omega) (by omega), ← hd1, win_putAt_in _ _ _ _ _ (by omega) h1 (by omega), win_win _ _ _ _ _ (by omega)]
    congr 1
    omega
  obtain ⟨x, hx⟩ : ∃ x, remP p i = x := ⟨_, rfl⟩
  obtain ⟨d3, hd3⟩ : ∃ d3, pt d2 14 2 (n - 1) = d3 := ⟨_, rfl⟩
  have l3 : d3.length = 512 := by rw [← hd3, pt_length _ _ _ _ (by omega), l2]
  have e3 : x = if n = 1 then pt d3 16 2 512 else d3 := by rw [← hx]; unfold remP; rw [hn, hd2, hd3]
  have hxl : x.length = 512 := by
    rw [e3]
    split
    · rw [pt_length _ _ _ _ (by omega), l3]
    · exact l3
  have hxw : ∀ a k, a + k ≤ 14 ∨ 18 ≤ a → win x a k = win d2 a k := by
    intro a k hak
    rw [e3]
    split
    · rw [win_pt _ _ _ _ _ _ (by omega) (by omega), ← hd3, win_pt _ _ _ _ _ _ (by omega) (by omega)]
    · rw [← hd3, win_pt _ _ _ _ _ _ (by omega) (by omega)]
  have hcnt : cnt x = n - 1 := by
    have h3 : cnt d3 = n - 1 := by
      rw [← hd3]
      show gt _ 14 2 = _
      rw [gt_pt2 _ _ _ (by omega) (by omega)]
    rw [e3]
    split
    · rw [show cnt (pt d3 16 2 512) = cnt d3 from gt_of_win (win_pt _ _ _ _ _ _ (by omega) (by omega)), h3]
    · exact h3
  have hxlow : lowP x = if n = 1 then 512 else lowP p := by
    rw [e3]
    split
    · show gt _ 16 2 = _
      rw [gt_pt2 _ _ _ (by omega) (by omega)]
    · have : win d3 16 2 = win p 16 2 := by rw [← hd3, win_pt _ _ _ _ _ _ (by omega) (by omega), hap _ _ (by omega)]
      exact gt_of_win this
  have hslot : ∀ j, j < n - 1 → sFrom x j = sFrom p (postI i j) ∧ sSize x j = sSize p (postI i j) := by
    intro j hj
    unfold postI
    by_cases hlt : j < i
    · rw [if_pos hlt]
      exact ⟨gt_of_win ((hxw _ _ (by omega)).trans (hap _ _ (by omega))), gt_of_win ((hxw _ _ (by omega)).trans (hap _ _ (by omega)))⟩
    · rw [if_neg hlt]
      have h1 := (hxw (26 + 4 * j) 2 (by omega)).trans (hdn _ _ (by omega) (by omega))
      have h2 := (hxw (26 + 4 * j + 2) 2 (by omega)).trans (hdn _ _ (by omega) (by omega))
      rw [show 26 + 4 * j + 4 = 26 + 4 * (j + 1) by omega] at h1
      rw [show 26 + 4 * j + 2 + 4 = 26 + 4 * (j + 1) + 2 by omega] at h2
      exact ⟨(gt_win _ _ _).trans ((congrArg leNat h1).trans (gt_win _ _ _).symm), (gt_win _ _ _).trans ((congrArg leNat h2).trans (gt_win _ _ _).symm)⟩
  have hpost : ∀ j, j < n - 1 → postI i j < n := by
    intro j hj
    unfold postI
    split <;> omega
  have hcell : ∀ j, j < n → lowP p ≤ sFrom p j ∧ sFrom p j + sSize p j ≤ 512 := fun j hj => h.cell j (by rw [hn]; exact hj)
  have hlo1 : ∀ j, j < n - 1 → lowP x = lowP p := by
    intro j hj
    rw [hxlow, if_neg (by omega)]
  rw [hx]
  refine ⟨⟨hxl, ?_, ?_, ?_, fun j hj => ?_, fun a b hab hb y ⟨h1, h2⟩ => ?_⟩, by rw [hcnt, hn], fun j hj => ?_, fun j hj => ?_, ?_, ?_⟩
  · rw [win_get, hxw 13 1 (by omega), hap 13 1 (by omega), ← win_get]; exact h.none
  · rw [hcnt, hxlow]; split <;> omega
  · rw [hxlow]; split <;> omega
  · rw [hcnt] at hj
    have h1 := hslot j hj
    rw [h1.1, h1.2, hlo1 j hj]
    exact hcell _ (hpost j hj)
  · rw [hcnt] at hb
    unfold inC at h1 h2
    have h3 := hslot a (by omega)
    have h4 := hslot b hb
    rw [h3.1, h3.2] at h1
    rw [h4.1, h4.2] at h2
    refine h.apart (postI i a) (postI i b) ?_ (by rw [hn]; exact hpost b hb) y ⟨h1, h2⟩
    unfold postI
    split <;> split <;> omega
  · rw [hn] at hj
    have h1 := hslot j hj
    have h2 := hcell _ (hpost j hj)
    rw [cellP_win, cellP_win, h1.1, h1.2, hxw _ _ (by omega), hap _ _ (by omega)]
  · rw [hn] at hj
    exact (hslot j hj).2
  · rw [hxw 12 2 (by omega), hap 12 2 (by omega)]
  · rw [hxw 18 8 (by omega), hap 18 8 (by omega)]

/-- a page with another cell in place of one -/
structure RepF (p x : PBytes) (i : Nat) (c : PBytes) : Prop where
  good : GoodP x
  cnt : cnt x = cnt p
  here : cellP x i = c
  sizeH : sSize x i = c.length
  cell : ∀ j, j < Mun.cnt p → j ≠ i → cellP x j = cellP p j
  size : ∀ j, j < Mun.cnt p → j ≠ i → sSize x j = sSize p j
  head : win x 12 2 = win p 12 2
  tail : win x 18 8 = win p 18 8

theorem hole_cell {p : PBytes} (h : GoodP p) {i : Nat} (hi : i < cnt p) : ∀ j, j < cnt p → j ≠ i → cellP (holeP p i) j = cellP p j ∧ sSize (holeP p i) j = sSize p j := by
  intro j hj hji
  have hfit := h.fit
  have hlow := h.low
  have hc := h.cell j hj
  have hl : 26 + 4 * i + 4 ≤ p.length := by rw [h.len]; omega
  have h1 : sFrom (holeP p i) j = sFrom p j := sFrom_ss_ne _ _ _ _ _ hl hji
  have h2 : sSize (holeP p i) j = sSize p j := sSize_ss_ne _ _ _ _ _ hl hji
  refine ⟨?_, h2⟩
  rw [cellP_win, cellP_win, h1, h2]
  exact win_ss _ _ _ _ _ _ hl (by omega)

theorem rep_facts {p : PBytes} (h : GoodP p) {i : Nat} (hi : i < cnt p) {c : PBytes} (hf : (c.length : Int) - sSize p i ≤ freeP p) : RepF p (repP p i c) i c := by
  have hfit := h.fit
  have hlow := h.low
  have hp := h.len
  have hci := h.cell i hi
  obtain ⟨n, hn⟩ : ∃ n, cnt p = n := ⟨_, rfl⟩
  obtain ⟨x, hx⟩ : ∃ x, repP p i c = x := ⟨_, rfl⟩
  by_cases hs : c.length ≤ sSize p i
  · have e : x = ss (putAt p (sFrom p i) c) i (sFrom p i) c.length := by rw [← hx]; unfold repP; rw [if_pos hs]
    have l1 : (putAt p (sFrom p i) c).length = 512 := by rw [putAt_length _ _ _ (by omega), hp]
    have hl : 26 + 4 * i + 4 ≤ (putAt p (sFrom p i) c).length := by omega
    have hxw : ∀ a k, (a + k ≤ 26 + 4 * i ∨ 26 + 4 * i + 4 ≤ a) → (a + k ≤ sFrom p i ∨ sFrom p i + c.length ≤ a) → win x a k = win p a k := by
      intro a k h1 h2
      rw [e, win_ss _ _ _ _ _ _ hl h1, win_putAt _ _ _ _ _ (by omega) h2]
    have hsl : ∀ j, j < n → j ≠ i → sFrom x j = sFrom p j ∧ sSize x j = sSize p j := fun j hj hji => by
      refine ⟨gt_of_win (hxw _ _ ?_ ?_), gt_of_win (hxw _ _ ?_ ?_)⟩ <;> omega
    have hfi : sFrom x i = sFrom p i := by rw [e, sFrom_ss _ _ _ _ hl (by omega)]
    have hsi : sSize x i = c.length := by rw [e, sSize_ss _ _ _ _ hl (by omega)]
    have hcnt : cnt x = cnt p := gt_of_win (hxw _ _ (by omega) (by omega))
    have hxlo : lowP x = lowP p := gt_of_win (hxw _ _ (by omega) (by omega))
    have hcell : ∀ j, j < n → j ≠ i → cellP x j = cellP p j := by
      intro j hj hji
      have h1 := hsl j hj hji
      have hcj := h.cell j (by omega)
      rw [cellP_win, cellP_win, h1.1, h1.2]
      by_cases hz : sSize p j = 0
      · rw [hz]; simp [win]
      · by_cases hzc : c.length = 0
        · have hc0 : c = [] := List.eq_nil_of_length_eq_zero hzc
          rw [e, hc0, putAt_nil]
          exact win_ss _ _ _ _ _ _ (by omega) (by omega)
        · refine hxw _ _ (by omega) ?_
          have hap2 : ∀ y, ¬ (inC p j y ∧ inC p i y) := by
            intro y ⟨h1, h2⟩
            rcases Nat.lt_or_ge j i with hlt | hge
            · exact h.apart j i hlt hi y ⟨h1, h2⟩
            · exact h.apart i j (by omega) (by omega) y ⟨h2, h1⟩
          have h2 : ¬ (sFrom p j ≤ sFrom p i ∧ sFrom p i < sFrom p j + sSize p j) := fun hy => hap2 _ ⟨hy, Nat.le_refl _, by omega⟩
          have h3 : ¬ (sFrom p i ≤ sFrom p j ∧ sFrom p j < sFrom p i + sSize p i) := fun hy => hap2 _ ⟨⟨Nat.le_refl _, by omega⟩, hy⟩
          omega
    rw [hx]
    refine ⟨⟨by rw [e, ss_length _ _ _ _ hl, l1], ?_, by rw [hcnt, hxlo]; exact hfit, by rw [hxlo]; exact hlow, fun j hj => ?_, fun a b hab hb y ⟨h1, h2⟩ => ?_⟩, hcnt, ?_, hsi, fun j hj hji => hcell j (by omega) hji, fun j hj hji => (hsl j (by omega) hji).2, hxw _ _ (by omega) (by omega), hxw _ _ (by omega) (by omega)⟩
    · rw [win_get, hxw 13 1 (by omega) (by omega), ← win_get]; exact h.none
    · rw [hcnt] at hj
      rw [hxlo]
      by_cases hji : j = i
      · subst hji; rw [hfi, hsi]; omega
      · have h1 := hsl j (by omega) hji
        rw [h1.1, h1.2]; exact h.cell j hj
    · rw [hcnt] at hb
      unfold inC at h1 h2
      refine h.apart a b hab hb y ⟨?_, ?_⟩
      · unfold inC
        by_cases hai : a = i
        · subst hai; rw [hfi, hsi] at h1; omega
        · have h3 := hsl a (by omega) hai; rw [h3.1, h3.2] at h1; exact h1
      · unfold inC
        by_cases hbi : b = i
        · subst hbi; rw [hfi, hsi] at h2; omega
        · have h3 := hsl b (by omega) hbi; rw [h3.1, h3.2] at h2; exact h2
    · rw [cellP_win, hfi, hsi, e, win_ss _ _ _ _ _ _ hl (by omega)]
      exact win_putAt_same _ _ _ (by omega)
  · have hh := hole_good h hi
    have hhc := hole_cell h hi
    have hcnt0 : cnt (holeP p i) = n := (cnt_ss _ _ _ _ (by omega)).trans hn
    have hsz0 : sSize (holeP p i) i = 0 := sSize_ss _ _ _ _ (by omega) (by omega)
    have hrm := room_ok hh c.length (by rw [freeP_hole h hi]; omega)
    have hlk := room_like hh c.length
    obtain ⟨q, hq⟩ : ∃ q, roomP (holeP p i) c.length = q := ⟨_, rfl⟩
    rw [hq] at hrm hlk
    have hroom := hrm.room
    have hlowq := hrm.low
    rw [hcnt0] at hroom
    have hqc : cnt q = n := hrm.cnt.trans hcnt0
    have hb := below_facts (i := i) (c := c) hrm.len hlowq (by omega) (by omega)
    have e : x = belowP q i c := by rw [← hx]; unfold repP; rw [if_neg hs, hq]
    rw [← e] at hb
    have hbl := hb.low
    have hbf := hb.from_
    have hbr := hb.rest
    have hbc := hb.cell
    obtain ⟨lo, hlo⟩ : ∃ lo, lowP q = lo := ⟨_, rfl⟩
    have hbs := fun j (hji : j ≠ i) (hj : j < n) => hb.slot j hji (by omega)
    rw [hlo] at hroom hlowq hbl hbf hbr hbc
    have hqcell : ∀ k, k < n → lo ≤ sFrom q k ∧ sFrom q k + sSize q k ≤ 512 := fun k hk => by rw [← hlo]; exact hlk.good.cell k (by rw [hqc]; exact hk)
    have hcnt : cnt x = n := (gt_of_win (hbr 14 2 (by omega))).trans hqc
    rw [hx]
    refine ⟨⟨hb.len, ?_, by rw [hcnt, hbl]; omega, by rw [hbl]; omega, fun j hj => ?_, fun a b hab hbb y ⟨h1, h2⟩ => ?_⟩, by rw [hcnt, hn], ?_, hb.size, fun j hj hji => ?_, fun j hj hji => ?_, ?_, ?_⟩
    · rw [win_get, hbr 13 1 (by omega), ← win_get]; exact hlk.good.none
    · rw [hcnt] at hj
      rw [hbl]
      by_cases hji : j = i
      · subst hji; rw [hbf, hb.size]; omega
      · have h1 := hbs j hji hj
        have h2 := hqcell j hj
        rw [h1.1, h1.2]; omega
    · rw [hcnt] at hbb
      unfold inC at h1 h2
      by_cases hai : a = i
      · subst hai
        rw [hbf, hb.size] at h1
        have h3 := hbs b (by omega) hbb
        have h4 := hqcell b hbb
        rw [h3.1, h3.2] at h2
        omega
      · have h5 := hbs a hai (by omega)
        have h6 := hqcell a (by omega)
        rw [h5.1, h5.2] at h1
        by_cases hbi : b = i
        · subst hbi
          rw [hbf, hb.size] at h2
          omega
        · have h3 := hbs b hbi hbb
          rw [h3.1, h3.2] at h2
          exact hlk.good.apart a b hab (by rw [hqc]; exact hbb) y ⟨h1, h2⟩
    · rw [cellP_win, hbf, hb.size]; exact hbc
    · rw [hn] at hj
      have h1 := hbs j hji hj
      have h2 := hqcell j hj
      rw [cellP_win x, h1.1, h1.2, hbr _ _ (by omega), ← cellP_win, hlk.cell j (by rw [hcnt0]; exact hj), (hhc j (by rw [hn]; exact hj) hji).1]
    · rw [hn] at hj
      rw [(hbs j hji hj).2, hlk.size j (by rw [hcnt0]; exact hj), (hhc j (by rw [hn]; exact hj) hji).2]
    · rw [hbr 12 2 (by omega), hlk.head]
      exact win_ss _ _ _ _ _ _ (by omega) (by omega)
    · rw [hbr 18 8 (by omega), hlk.tail]
      exact win_ss _ _ _ _ _ _ (by omega) (by omega)
end Mun
end

section
/- Contract of Remove. -/
set_option maxRecDepth 100000
set_option linter.unusedVariables false
set_option linter.unusedSimpArgs false
namespace Mun
open Go Go.RowKit
open Go.Proofs

end Mun
end
