/- Plain: the reference's pages are the program's. No program in sight. -/
import Derived.Test.YtjfepmohoijalaaPageT
set_option linter.unusedVariables false
set_option linter.unusedSimpArgs false
namespace Mun

theorem putAt_len (p : PBytes) (A : Nat) (x : PBytes) (hp : p.length = 512) (h : A + x.length ≤ 512) : (putAt p A x).length = 512 := by rw [putAt_length _ _ _ (by omega)]; exact hp
theorem putAt_get (p : PBytes) (A : Nat) (x : PBytes) (hp : p.length = 512) (h : A + x.length ≤ 512) (j : Nat) : (putAt p A x)[j]? = if A ≤ j ∧ j < A + x.length then x[j - A]? else p[j]? := putAt_getElem? _ _ _ (by omega) j
theorem putAt_comm (p : PBytes) (A B : Nat) (x y : PBytes) (hp : p.length = 512) (hA : A + x.length ≤ 512) (hB : B + y.length ≤ 512) (h : A + x.length ≤ B ∨ B + y.length ≤ A) :
    putAt (putAt p A x) B y = putAt (putAt p B y) A x := by
  apply List.ext_getElem?
  intro j
  rw [putAt_get _ _ _ (putAt_len _ _ _ hp hA) hB, putAt_get _ _ _ hp hA, putAt_get _ _ _ (putAt_len _ _ _ hp hB) hA, putAt_get _ _ _ hp hB]
  by_cases c1 : B ≤ j ∧ j < B + y.length
  · rw [if_pos c1, if_neg (by omega), if_pos c1]
  · rw [if_neg c1, if_neg c1]
theorem putAt_app (p : PBytes) (A : Nat) (x y : PBytes) (hp : p.length = 512) (h : A + x.length + y.length ≤ 512) : putAt p A (x ++ y) = putAt (putAt p A x) (A + x.length) y := by
  have hl : (x ++ y).length = x.length + y.length := List.length_append
  apply List.ext_getElem?
  intro j
  rw [putAt_get _ _ _ hp (by omega), putAt_get _ _ _ (putAt_len _ _ _ hp (by omega)) (by omega), putAt_get _ _ _ hp (by omega), hl]
  by_cases c1 : A ≤ j ∧ j < A + x.length
  · rw [if_pos (by omega), if_neg (by omega), if_pos c1, List.getElem?_append_left (by omega)]
  · by_cases c2 : A + x.length ≤ j ∧ j < A + x.length + y.length
    · rw [if_pos (by omega), if_pos c2, List.getElem?_append_right (by omega)]
      congr 1
      omega
    · rw [if_neg (by omega), if_neg c2, if_neg c1]
theorem putAt_win (p : PBytes) (A n : Nat) (hp : p.length = 512) (h : A + n ≤ 512) : putAt p A (win p A n) = p := by
  have hw := win_length p A n (by omega)
  apply List.ext_getElem?
  intro j
  rw [putAt_get _ _ _ hp (by omega), hw]
  by_cases c1 : A ≤ j ∧ j < A + n
  · rw [if_pos c1]
    unfold win
    rw [List.getElem?_take, if_pos (by omega), List.getElem?_drop]
    congr 1
    omega
  · rw [if_neg c1]
theorem le_win (p : PBytes) (A n : Nat) (h : A + n ≤ p.length) : leBytes n (gt p A n) = win p A n := by
  have := leBytes_leNat (win p A n)
  rw [win_length _ _ _ h] at this
  rw [gt_win]
  exact this
theorem pt_gt (p q : PBytes) (A n B : Nat) (hp : p.length = 512) (hB : B + n ≤ 512) : pt q A n (gt p B n) = putAt q A (win p B n) := by
  unfold pt
  rw [le_win _ _ _ (by omega)]

/-- five lay in, in two orders -/
theorem five (u : PBytes) (a1 a2 a3 a4 a5 : Nat) (x1 x2 x3 x4 x5 : PBytes) (hu : u.length = 512) (h1 : a1 + x1.length ≤ 512) (h2 : a2 + x2.length ≤ 512) (h3 : a3 + x3.length ≤ 512) (h4 : a4 + x4.length ≤ 512) (h5 : a5 + x5.length ≤ 512)
    (d12 : a1 + x1.length ≤ a2 ∨ a2 + x2.length ≤ a1) (d13 : a1 + x1.length ≤ a3 ∨ a3 + x3.length ≤ a1) (d14 : a1 + x1.length ≤ a4 ∨ a4 + x4.length ≤ a1) (d15 : a1 + x1.length ≤ a5 ∨ a5 + x5.length ≤ a1)
    (d23 : a2 + x2.length ≤ a3 ∨ a3 + x3.length ≤ a2) (d24 : a2 + x2.length ≤ a4 ∨ a4 + x4.length ≤ a2) (d25 : a2 + x2.length ≤ a5 ∨ a5 + x5.length ≤ a2)
    (d35 : a3 + x3.length ≤ a5 ∨ a5 + x5.length ≤ a3) (d34 : a3 + x3.length ≤ a4 ∨ a4 + x4.length ≤ a3) (d45 : a4 + x4.length ≤ a5 ∨ a5 + x5.length ≤ a4) :
    putAt (putAt (putAt (putAt (putAt u a1 x1) a2 x2) a3 x3) a4 x4) a5 x5 = putAt (putAt (putAt (putAt (putAt u a3 x3) a5 x5) a4 x4) a1 x1) a2 x2 := by
  have l1 := putAt_len u a1 x1 hu h1
  have l2 := putAt_len _ a2 x2 l1 h2
  have l3 := putAt_len _ a3 x3 l2 h3
  have l4 := putAt_len _ a4 x4 l3 h4
  have m1 := putAt_len u a3 x3 hu h3
  have m2 := putAt_len _ a5 x5 m1 h5
  have m3 := putAt_len _ a4 x4 m2 h4
  have m4 := putAt_len _ a1 x1 m3 h1
  apply List.ext_getElem?
  intro j
  rw [putAt_get _ _ _ l4 h5, putAt_get _ _ _ l3 h4, putAt_get _ _ _ l2 h3, putAt_get _ _ _ l1 h2, putAt_get _ _ _ hu h1, putAt_get _ _ _ m4 h2, putAt_get _ _ _ m3 h1, putAt_get _ _ _ m2 h4, putAt_get _ _ _ m1 h5, putAt_get _ _ _ hu h3]
  by_cases c1 : a1 ≤ j ∧ j < a1 + x1.length
  · rw [if_neg (by omega), if_neg (by omega), if_neg (by omega), if_neg (by omega), if_pos c1, if_neg (by omega), if_pos c1]
  · rw [if_neg c1, if_neg c1]
    by_cases c2 : a2 ≤ j ∧ j < a2 + x2.length
    · rw [if_neg (by omega), if_neg (by omega), if_neg (by omega), if_pos c2, if_pos c2]
    · rw [if_neg c2, if_neg c2]
      by_cases c4 : a4 ≤ j ∧ j < a4 + x4.length
      · rw [if_neg (by omega), if_pos c4, if_pos c4]
      · rw [if_neg c4, if_neg c4]

theorem AnewD.unique {p q r : PBytes} (h : AnewOk p) (hd : AnewD p q) (he : AnewD p r) : q = r := by
  obtain ⟨n, hn⟩ : ∃ n, Mun.cnt p = n := ⟨_, rfl⟩
  have hfit := h.fit
  rw [hn] at hfit
  refine eq_of_wins hd.len he.len n (512 - szs p n) (by omega) (by omega) ?_ ?_ ?_ ?_
  · have e : ∀ r : PBytes, win r 0 26 = win r 0 16 ++ (win r 16 2 ++ win r 18 8) := by
      intro r
      rw [show (26 : Nat) = 16 + (2 + 8) by rfl, win_append, win_append]
    rw [e, e r, he.head 0 16 (by omega), he.head 18 8 (by omega), hd.head 0 16 (by omega), hd.head 18 8 (by omega), win_of_gt (p := q) (q := r) (a := 16) (n := 2) (by rw [hd.len]; omega) (by rw [he.len]; omega) ?_]
    show lowP q = lowP r
    rw [he.low, hd.low]
  · refine slots_win hd.len he.len n (by omega) (fun j hj => ⟨?_, ?_⟩)
    · rw [he.from_ j (by rw [hn]; exact hj), hd.from_ j (by rw [hn]; exact hj)]
    · rw [he.size j (by rw [hn]; exact hj), hd.size j (by rw [hn]; exact hj)]
  · have h1 := he.zero
    have h2 := hd.zero
    rw [hn] at h1 h2
    rw [h1, h2]
  · rw [show 512 - (512 - szs p n) = szs p n by omega]
    refine cells_win (sSize p) (szs p) n (fun k _ => rfl) rfl (by omega) (fun j hj => ?_)
    have h1 := he.cell j (by rw [hn]; exact hj)
    have h2 := hd.cell j (by rw [hn]; exact hj)
    rw [cellP_win, he.from_ j (by rw [hn]; exact hj), he.size j (by rw [hn]; exact hj)] at h1
    rw [cellP_win, hd.from_ j (by rw [hn]; exact hj), hd.size j (by rw [hn]; exact hj)] at h2
    rw [h1, h2]

/-- the reference's laying out anew -/
def rcZ (p : PBytes) : PBytes := putAt p (26 + 4 * cnt p) (zer (512 - (26 + 4 * cnt p)))
def rcS (p : PBytes) : Nat → PBytes
  | 0 => rcZ p
  | k + 1 => pt (putAt (rcS p k) (512 - szs p (k + 1)) (cellP p k)) (26 + 4 * k) 2 (512 - szs p (k + 1))
def rcompP (p : PBytes) : PBytes := pt (rcS p (cnt p)) 16 2 (512 - szs p (cnt p))

structure RcI (p : PBytes) (k : Nat) (q : PBytes) : Prop where
  len : q.length = 512
  head : ∀ a n, a + n ≤ 26 → win q a n = win p a n
  size : ∀ j, j < cnt p → sSize q j = sSize p j
  from_ : ∀ j, j < k → sFrom q j = 512 - szs p (j + 1)
  cell : ∀ j, j < k → win q (512 - szs p (j + 1)) (sSize p j) = cellP p j
  zero : ∀ a n, 26 + 4 * cnt p ≤ a → a + n ≤ 512 - szs p k → win q a n = zer n

theorem rcS_inv {p : PBytes} (h : AnewOk p) : ∀ k, k ≤ cnt p → RcI p k (rcS p k)
  | 0, _ => by
    have hfit := h.fit
    have hz := zer_length (512 - (26 + 4 * cnt p))
    have hzl : 26 + 4 * cnt p + (zer (512 - (26 + 4 * cnt p))).length ≤ p.length := by rw [hz, h.len]; omega
    refine ⟨by unfold rcS rcZ; rw [putAt_length _ _ _ hzl, h.len], fun a n han => ?_, fun j hj => ?_, fun j hj => by omega, fun j hj => by omega, fun a n h1 h2 => ?_⟩
    · unfold rcS rcZ
      exact win_putAt _ _ _ _ _ hzl (by omega)
    · unfold rcS rcZ
      exact sSize_putAt _ _ _ _ hzl (by omega)
    · unfold rcS rcZ
      rw [show szs p 0 = 0 from rfl] at h2
      rw [win_putAt_in _ _ _ _ _ hzl h1 (by omega)]
      unfold win zer
      rw [List.drop_replicate, List.take_replicate]
      congr 1
      omega
  | k + 1, hk => by
    have ih := rcS_inv h k (by omega)
    have h1 : szs p (k + 1) ≤ szs p (cnt p) := szs_mono p hk
    have h2 : szs p (k + 1) = szs p k + sSize p k := rfl
    have hl := cellP_length h (show k < cnt p by omega)
    have hfit := h.fit
    obtain ⟨d, hd⟩ : ∃ d, 512 - szs p (k + 1) = d := ⟨_, rfl⟩
    have hdl : d + (cellP p k).length ≤ (rcS p k).length := by rw [ih.len, hl]; omega
    have hpl : (putAt (rcS p k) d (cellP p k)).length = 512 := by rw [putAt_length _ _ _ hdl, ih.len]
    have e : rcS p (k + 1) = pt (putAt (rcS p k) d (cellP p k)) (26 + 4 * k) 2 d := by rw [← hd]; rfl
    rw [e]
    refine ⟨by rw [pt_length _ _ _ _ (by omega), hpl], fun a n han => ?_, fun j hj => ?_, fun j hj => ?_, fun j hj => ?_, fun a n h3 h4 => ?_⟩
    · rw [win_pt _ _ _ _ _ _ (by omega) (by omega), win_putAt _ _ _ _ _ hdl (by omega), ih.head a n han]
    · have e1 : sSize (pt (putAt (rcS p k) d (cellP p k)) (26 + 4 * k) 2 d) j = sSize (putAt (rcS p k) d (cellP p k)) j := gt_of_win (win_pt _ _ _ _ _ _ (by omega) (by omega))
      rw [e1, sSize_putAt _ _ _ _ hdl (by omega), ih.size j hj]
    · by_cases hjk : j = k
      · subst hjk
        show gt _ (26 + 4 * j) 2 = _
        rw [gt_pt2 _ _ _ (by omega) (by omega), hd]
      · have e1 : sFrom (pt (putAt (rcS p k) d (cellP p k)) (26 + 4 * k) 2 d) j = sFrom (putAt (rcS p k) d (cellP p k)) j := gt_of_win (win_pt _ _ _ _ _ _ (by omega) (by omega))
        rw [e1, sFrom_putAt _ _ _ _ hdl (by omega), ih.from_ j (by omega)]
    · by_cases hjk : j = k
      · subst hjk
        rw [hd, win_pt _ _ _ _ _ _ (by omega) (by omega)]
        have := win_putAt_same _ _ _ hdl
        rw [hl] at this
        exact this
      · have h5 : szs p (j + 1) ≤ szs p k := szs_mono p (by omega)
        have h6 : szs p (j + 1) = szs p j + sSize p j := rfl
        rw [win_pt _ _ _ _ _ _ (by omega) (by omega), win_putAt _ _ _ _ _ hdl (by omega), ih.cell j (by omega)]
    · rw [win_pt _ _ _ _ _ _ (by omega) (by omega), win_putAt _ _ _ _ _ hdl (by omega), ih.zero a n h3 (by omega)]

theorem rcomp_inv {p : PBytes} (h : AnewOk p) : AnewD p (rcompP p) := by
  have hi := rcS_inv h (cnt p) (Nat.le_refl _)
  have hfit := h.fit
  obtain ⟨n, hn⟩ : ∃ n, cnt p = n := ⟨_, rfl⟩
  obtain ⟨lo, hlo⟩ : ∃ lo, 512 - szs p n = lo := ⟨_, rfl⟩
  have e : rcompP p = pt (rcS p n) 16 2 lo := by unfold rcompP; rw [hn, hlo]
  rw [hn] at hfit hi
  have hl := hi.len
  have h2 := hi.size
  have h6 := hi.zero
  rw [hn] at h2 h6
  rw [e]
  have hfr : ∀ j, j < n → sFrom (pt (rcS p n) 16 2 lo) j = 512 - szs p (j + 1) := fun j hj => by rw [sFrom_pt _ _ _ _ _ (by omega) (by omega)]; exact hi.from_ j hj
  have hsz : ∀ j, j < n → sSize (pt (rcS p n) 16 2 lo) j = sSize p j := fun j hj => by rw [sSize_pt _ _ _ _ _ (by omega) (by omega)]; exact h2 j hj
  refine ⟨by rw [pt_length _ _ _ _ (by omega), hl], fun a m h => ?_, ?_, ?_, ?_, ?_, ?_, ?_⟩
  · rw [win_pt _ _ _ _ _ _ (by omega) (by omega), hi.head _ _ (by omega)]
  · rw [hn, hlo]
    show gt _ 16 2 = lo
    rw [gt_pt2 _ _ _ (by omega) (by omega)]
  · exact gt_of_win (by rw [win_pt _ _ _ _ _ _ (by omega) (by omega), hi.head _ _ (by omega)])
  · rw [hn]; exact hfr
  · rw [hn]; exact hsz
  · rw [hn]
    intro j hj
    have h7 : szs p (j + 1) ≤ szs p n := szs_mono p hj
    have h8 : szs p (j + 1) = szs p j + sSize p j := rfl
    rw [cellP_win, hfr j hj, hsz j hj, win_pt _ _ _ _ _ _ (by omega) (by omega), hi.cell j hj]
  · rw [hn, hlo, win_pt _ _ _ _ _ _ (by omega) (by omega), h6 _ _ (Nat.le_refl _) (by omega)]

theorem rcomp_eq {p : PBytes} (h : AnewOk p) : rcompP p = anewP p := AnewD.unique h (rcomp_inv h) (anewP_inv h)

/-- the reference's hole: the size alone -/
def rholeP (p : PBytes) (i : Nat) : PBytes := pt p (26 + 4 * i + 2) 2 0
structure HoleE (p h : PBytes) (i : Nat) : Prop where
  ok : AnewOk h
  cnt : cnt h = cnt p
  low : lowP h = lowP p

theorem rhole_sizes {p : PBytes} (hg : GoodP p) {i : Nat} (hi : i < cnt p) : (∀ j, j < cnt p → sSize (rholeP p i) j = sSize (holeP p i) j) ∧ (∀ j, j < cnt p → j ≠ i → sFrom (rholeP p i) j = sFrom (holeP p i) j) ∧ sFrom (rholeP p i) i = sFrom p i ∧ sSize (rholeP p i) i = 0 := by
  have hl := hg.len
  have hf := hg.fit
  have hlo := hg.low
  have e2 : ∀ j, j ≠ i → sSize (rholeP p i) j = sSize p j := fun j h => gt_of_win (win_pt _ _ _ _ _ _ (by omega) (by omega))
  have e1 : ∀ j, sFrom (rholeP p i) j = sFrom p j := fun j => gt_of_win (win_pt _ _ _ _ _ _ (by omega) (by omega))
  have e0 : sSize (rholeP p i) i = 0 := gt_pt2 p (26 + 4 * i + 2) 0 (by omega) (by omega)
  refine ⟨fun j hj => ?_, fun j hj h => ?_, e1 i, e0⟩
  · by_cases h : j = i
    · subst h
      rw [e0]
      unfold holeP
      rw [sSize_ss _ _ _ _ (by omega) (by omega)]
    · rw [e2 j h]
      unfold holeP
      rw [sSize_ss_ne _ _ _ _ _ (by omega) h]
  · rw [e1 j]
    unfold holeP
    rw [sFrom_ss_ne _ _ _ _ _ (by omega) h]

theorem rhole_win {p : PBytes} (hg : GoodP p) {i : Nat} (hi : i < cnt p) (a n : Nat) (h : a + n ≤ 26 + 4 * i ∨ 26 + 4 * i + 4 ≤ a) : win (rholeP p i) a n = win (holeP p i) a n := by
  have hl := hg.len
  have hf := hg.fit
  have hlo := hg.low
  unfold rholeP holeP
  rw [win_pt _ _ _ _ _ _ (by omega) (by omega), win_ss _ _ _ _ _ _ (by omega) (by omega)]

theorem rhole_ok {p : PBytes} (hg : GoodP p) {i : Nat} (hi : i < cnt p) : AnewOk (rholeP p i) ∧ cnt (rholeP p i) = cnt p ∧ lowP (rholeP p i) = lowP p := by
  have hl := hg.len
  have hf := hg.fit
  have hlo := hg.low
  have hh := good_anewOk (hole_good hg hi)
  have hc : cnt (holeP p i) = cnt p := cnt_ss _ _ _ _ (by omega)
  have c1 : cnt (rholeP p i) = cnt p := by rw [← hc]; exact gt_of_win (rhole_win hg hi _ _ (by omega))
  have c2 : lowP (rholeP p i) = lowP p := by rw [← lowP_ss p i (lowP p) 0 (by omega)]; exact gt_of_win (rhole_win hg hi _ _ (by omega))
  obtain ⟨s1, s2, s3, s4⟩ := rhole_sizes hg hi
  have hfit := hh.fit
  have hcell := hh.cell
  rw [hc] at hfit hcell
  refine ⟨⟨by unfold rholeP; rw [pt_length _ _ _ _ (by omega), hl], ?_, ?_⟩, c1, c2⟩
  · rw [c1, szs_congr s1]
    exact hfit
  · rw [c1]
    intro j hj
    by_cases h : j = i
    · subst h
      rw [s3, s4]
      have := hg.cell j hi
      omega
    · rw [s2 j hj h, s1 j hj]
      exact hcell j hj

theorem rhole_anew {p : PBytes} (hg : GoodP p) {i : Nat} (hi : i < cnt p) : rcompP (rholeP p i) = anewP (holeP p i) := by
  have hl := hg.len
  have hf := hg.fit
  have hlo := hg.low
  have hh := good_anewOk (hole_good hg hi)
  have hc : cnt (holeP p i) = cnt p := cnt_ss _ _ _ _ (by omega)
  obtain ⟨ho, c1, c2⟩ := rhole_ok hg hi
  obtain ⟨s1, s2, s3, s4⟩ := rhole_sizes hg hi
  have hd := rcomp_inv ho
  refine AnewD.unique hh ?_ (anewP_inv hh)
  have hz : ∀ k, k ≤ cnt p → szs (rholeP p i) k = szs (holeP p i) k := fun k hk => szs_congr (fun j hj => s1 j (by omega))
  have hzn := hz (cnt p) (Nat.le_refl _)
  refine ⟨hd.len, fun a n h => ?_, ?_, ?_, ?_, ?_, ?_, ?_⟩
  · rw [hd.head a n h, rhole_win hg hi _ _ (by omega)]
  · rw [hd.low, c1, hc, hzn]
  · rw [hd.cnt, c1, hc]
  · rw [hc]; intro j hj; rw [hd.from_ j (by rw [c1]; exact hj), hz _ (by omega)]
  · rw [hc]; intro j hj; rw [hd.size j (by rw [c1]; exact hj), s1 j hj]
  · rw [hc]; intro j hj
    rw [hd.cell j (by rw [c1]; exact hj)]
    by_cases h : j = i
    · subst h
      have e1 : sSize (holeP p j) j = 0 := by rw [← s1 j hj]; exact s4
      unfold cellP
      rw [s4, e1]
      simp
    · rw [cellP_win, cellP_win, s2 j hj h, s1 j hj]
      have h3 := (hole_good hg hi).cell j (by rw [hc]; exact hj)
      have h4 := (hole_good hg hi).fit
      rw [hc] at h4
      exact rhole_win hg hi _ _ (by omega)
  · have h5 := hd.zero
    rw [c1, hzn] at h5
    rw [hc]
    exact h5

/-- slots moved down: what stands after some -/
def dnP (p : PBytes) (i k : Nat) : PBytes := putAt p (26 + 4 * i) (win p (26 + 4 * (i + 1)) (4 * (k - i)))
theorem dnP_zero (p : PBytes) (i : Nat) : dnP p i i = p := by unfold dnP; rw [Nat.sub_self]; simp [win, putAt]
theorem dnP_len {p : PBytes} (hp : p.length = 512) (i k : Nat) (hk : 26 + 4 * (k + 1) ≤ 512) (hik : i ≤ k) : (dnP p i k).length = 512 := by
  unfold dnP
  have := win_length p (26 + 4 * (i + 1)) (4 * (k - i)) (by omega)
  exact putAt_len _ _ _ hp (by omega)
theorem dnP_slot {p : PBytes} (hp : p.length = 512) (i k : Nat) (hk : 26 + 4 * (k + 2) ≤ 512) (hik : i ≤ k) : sFrom (dnP p i k) (k + 1) = sFrom p (k + 1) ∧ sSize (dnP p i k) (k + 1) = sSize p (k + 1) := by
  have := win_length p (26 + 4 * (i + 1)) (4 * (k - i)) (by omega)
  exact ⟨gt_of_win (win_putAt _ _ _ _ _ (by omega) (by omega)), gt_of_win (win_putAt _ _ _ _ _ (by omega) (by omega))⟩
theorem dnP_step {p : PBytes} (hp : p.length = 512) (i k : Nat) (hk : 26 + 4 * (k + 2) ≤ 512) (hik : i ≤ k) : pt (pt (dnP p i k) (26 + 4 * k) 2 (sFrom p (k + 1))) (26 + 4 * k + 2) 2 (sSize p (k + 1)) = dnP p i (k + 1) := by
  have hw := win_length p (26 + 4 * (i + 1)) (4 * (k - i)) (by omega)
  have hw2 := win_length p (26 + 4 * (k + 1)) 2 (by omega)
  have hw3 := win_length p (26 + 4 * (k + 1) + 2) 2 (by omega)
  unfold sFrom sSize
  rw [pt_gt p _ _ _ _ hp (by omega), pt_gt p _ _ _ _ hp (by omega)]
  have e : win p (26 + 4 * (i + 1)) (4 * (k + 1 - i)) = win p (26 + 4 * (i + 1)) (4 * (k - i)) ++ (win p (26 + 4 * (k + 1)) 2 ++ win p (26 + 4 * (k + 1) + 2) 2) := by
    rw [show 4 * (k + 1 - i) = 4 * (k - i) + (2 + 2) by omega, win_append, win_append, show 26 + 4 * (i + 1) + 4 * (k - i) = 26 + 4 * (k + 1) by omega]
  unfold dnP
  rw [e, putAt_app _ _ _ _ hp (by rw [List.length_append]; omega), hw, show 26 + 4 * i + 4 * (k - i) = 26 + 4 * k by omega, putAt_app _ _ _ _ (putAt_len _ _ _ hp (by omega)) (by omega), hw2]

/-- slots moved up: from the last one -/
theorem upP_zero (p : PBytes) (n : Nat) : upP p n n = p := by unfold upP; rw [Nat.sub_self]; simp [win, putAt]
theorem upP_len {p : PBytes} (hp : p.length = 512) (k n : Nat) (hn : 26 + 4 * (n + 1) ≤ 512) (hk : k ≤ n) : (upP p k n).length = 512 := by
  unfold upP
  have := win_length p (26 + 4 * k) (4 * (n - k)) (by omega)
  exact putAt_len _ _ _ hp (by omega)
theorem upP_slot {p : PBytes} (hp : p.length = 512) (k n : Nat) (hn : 26 + 4 * (n + 1) ≤ 512) (hk : k + 1 ≤ n) : sFrom (upP p (k + 1) n) k = sFrom p k ∧ sSize (upP p (k + 1) n) k = sSize p k := by
  have := win_length p (26 + 4 * (k + 1)) (4 * (n - (k + 1))) (by omega)
  exact ⟨gt_of_win (win_putAt _ _ _ _ _ (by omega) (by omega)), gt_of_win (win_putAt _ _ _ _ _ (by omega) (by omega))⟩
theorem upP_step {p : PBytes} (hp : p.length = 512) (k n : Nat) (hn : 26 + 4 * (n + 1) ≤ 512) (hk : k + 1 ≤ n) : pt (pt (upP p (k + 1) n) (26 + 4 * (k + 1)) 2 (sFrom p k)) (26 + 4 * (k + 1) + 2) 2 (sSize p k) = upP p k n := by
  have hw := win_length p (26 + 4 * (k + 1)) (4 * (n - (k + 1))) (by omega)
  have hw2 := win_length p (26 + 4 * k) 2 (by omega)
  have hw3 := win_length p (26 + 4 * k + 2) 2 (by omega)
  unfold sFrom sSize
  rw [pt_gt p _ _ _ _ hp (by omega), pt_gt p _ _ _ _ hp (by omega)]
  have e : win p (26 + 4 * k) (4 * (n - k)) = (win p (26 + 4 * k) 2 ++ win p (26 + 4 * k + 2) 2) ++ win p (26 + 4 * (k + 1)) (4 * (n - (k + 1))) := by
    rw [show 4 * (n - k) = 2 + (2 + 4 * (n - (k + 1))) by omega, win_append, win_append, show 26 + 4 * k + 2 + 2 = 26 + 4 * (k + 1) by omega, List.append_assoc]
  have hw4 : (win p (26 + 4 * k) 2 ++ win p (26 + 4 * k + 2) 2).length = 4 := by rw [List.length_append]; omega
  have l1 := putAt_len p (26 + 4 * (k + 1)) (win p (26 + 4 * k) 2) hp (by omega)
  unfold upP
  rw [e, putAt_app p _ _ (win p (26 + 4 * (k + 1)) (4 * (n - (k + 1)))) hp (by omega), hw4, putAt_app p _ _ _ hp (by omega), hw2, show 26 + 4 * (k + 1) + 4 = 26 + 4 * (k + 1 + 1) by omega,
    putAt_comm _ _ _ (win p (26 + 4 * k + 2) 2) _ l1 (by omega) (by omega) (by omega), putAt_comm p (26 + 4 * (k + 1)) (26 + 4 * (k + 1 + 1)) _ _ hp (by omega) (by omega) (by omega)]

/-- the reference's Insert -/
def rinsP (p : PBytes) (i : Nat) (c : PBytes) : PBytes :=
  putAt (pt (pt (pt (pt (upP (roomP p (c.length + 4)) i (cnt p)) (26 + 4 * i) 2 (lowP (roomP p (c.length + 4)) - c.length)) (26 + 4 * i + 2) 2 c.length) 14 2 (cnt p + 1)) 16 2 (lowP (roomP p (c.length + 4)) - c.length)) (lowP (roomP p (c.length + 4)) - c.length) c
theorem rins_eq {p : PBytes} (h : GoodP p) {i : Nat} (hi : i ≤ cnt p) {c : PBytes} (hf : (c.length : Int) + 4 ≤ freeP p) : rinsP p i c = insP p i c := by
  have hr := room_ok h (c.length + 4) (by push_cast; exact hf)
  obtain ⟨q, hq⟩ : ∃ q, roomP p (c.length + 4) = q := ⟨_, rfl⟩
  obtain ⟨n, hn⟩ : ∃ n, cnt p = n := ⟨_, rfl⟩
  have hroom := hr.room
  have hlow := hr.low
  have hql := hr.len
  unfold rinsP insP
  rw [hq] at hroom hlow hql ⊢
  rw [hn] at hroom hi ⊢
  have hu := up_facts hql (i := i) (n := n) (m := n + 1) hi (by omega) (by omega)
  have hul := upP_len hql i n (by omega) hi
  unfold belowP
  rw [hu.low]
  obtain ⟨lo, hlo⟩ : ∃ lo, lowP q - c.length = lo := ⟨_, rfl⟩
  rw [hlo]
  unfold ss pt
  have b1 := leBytes_length 2 lo
  have b2 := leBytes_length 2 c.length
  have b3 := leBytes_length 2 (n + 1)
  exact five _ _ _ _ _ _ _ _ _ _ _ hul (by omega) (by omega) (by omega) (by omega) (by omega) (by omega) (by omega) (by omega) (by omega) (by omega) (by omega) (by omega) (by omega) (by omega) (by omega)

/-- the reference's Remove -/
def rremP (p : PBytes) (i : Nat) : PBytes :=
  if cnt p = 1 then pt (pt (pt (dnP p i (cnt p - 1)) (26 + 4 * (cnt p - 1)) 4 0) 14 2 (cnt p - 1)) 16 2 512 else pt (pt (dnP p i (cnt p - 1)) (26 + 4 * (cnt p - 1)) 4 0) 14 2 (cnt p - 1)
theorem le_zero : leBytes 4 0 = zer 4 := by decide
theorem rrem_eq (p : PBytes) (i : Nat) : rremP p i = remP p i := by
  have e : pt (dnP p i (cnt p - 1)) (26 + 4 * (cnt p - 1)) 4 0 = downP p i (cnt p) := by
    unfold downP dnP
    rw [show pt (putAt p (26 + 4 * i) (win p (26 + 4 * (i + 1)) (4 * (cnt p - 1 - i)))) (26 + 4 * (cnt p - 1)) 4 0 = putAt (putAt p (26 + 4 * i) (win p (26 + 4 * (i + 1)) (4 * (cnt p - 1 - i)))) (26 + 4 * (cnt p - 1)) (leBytes 4 0) from rfl, le_zero]
  unfold rremP remP
  rw [e]

/-- the reference's Replace -/
def rrepP (p : PBytes) (i : Nat) (c : PBytes) : PBytes :=
  if c.length ≤ sSize p i then putAt (pt p (26 + 4 * i + 2) 2 c.length) (sFrom p i) c
  else
    let q := if lowP p < 26 + 4 * cnt p + c.length then rcompP (rholeP p i) else rholeP p i
    putAt (pt (pt (pt q 16 2 (lowP q - c.length)) (26 + 4 * i) 2 (lowP q - c.length)) (26 + 4 * i + 2) 2 c.length) (lowP q - c.length) c

theorem rrep_fit {p : PBytes} (h : GoodP p) {i : Nat} (hi : i < cnt p) {c : PBytes} (hc : c.length ≤ sSize p i) : rrepP p i c = repP p i c := by
  have hl := h.len
  have hf := h.fit
  have hlo := h.low
  have hce := h.cell i hi
  unfold rrepP repP
  rw [if_pos hc, if_pos hc]
  have l1 := putAt_len p (sFrom p i) c hl (by omega)
  unfold ss
  have e : pt (putAt p (sFrom p i) c) (26 + 4 * i) 2 (sFrom p i) = putAt p (sFrom p i) c := by
    have e1 : sFrom p i = gt (putAt p (sFrom p i) c) (26 + 4 * i) 2 := (gt_putAt_apart _ _ _ _ _ (by omega) (by omega)).symm
    obtain ⟨f, hff⟩ : ∃ f, sFrom p i = f := ⟨_, rfl⟩
    rw [hff] at e1 l1 hce ⊢
    rw [show pt (putAt p f c) (26 + 4 * i) 2 f = pt (putAt p f c) (26 + 4 * i) 2 (gt (putAt p f c) (26 + 4 * i) 2) by rw [← e1], pt_gt _ _ _ _ _ l1 (by omega), putAt_win _ _ _ l1 (by omega)]
  rw [e]
  unfold pt
  have b2 := leBytes_length 2 c.length
  exact putAt_comm _ _ _ _ _ hl (by omega) (by omega) (by omega)

theorem rrep_grow {p : PBytes} (h : GoodP p) {i : Nat} (hi : i < cnt p) {c : PBytes} (hc : ¬ c.length ≤ sSize p i) (hf : (c.length : Int) - sSize p i ≤ freeP p) : rrepP p i c = repP p i c := by
  have hl := h.len
  have hfi := h.fit
  have hlo := h.low
  have hh := hole_good h hi
  have hcn : cnt (holeP p i) = cnt p := cnt_ss _ _ _ _ (by omega)
  have hlw : lowP (holeP p i) = lowP p := lowP_ss _ _ _ _ (by omega)
  have hfr := freeP_hole h hi
  have hr := room_ok hh c.length (by omega)
  have hroom := hr.room
  have hlow := hr.low
  have hql := hr.len
  rw [hcn] at hroom
  unfold rrepP repP
  rw [if_neg hc, if_neg hc]
  have b2 := leBytes_length 2 c.length
  by_cases hcond : lowP p < 26 + 4 * cnt p + c.length
  · have e1 : roomP (holeP p i) c.length = anewP (holeP p i) := by unfold roomP; rw [hcn, hlw, if_pos hcond]
    simp only [if_pos hcond]
    rw [rhole_anew h hi, e1]
    rw [e1] at hroom hlow hql
    obtain ⟨q, hq⟩ : ∃ q, anewP (holeP p i) = q := ⟨_, rfl⟩
    rw [hq] at hroom hlow hql ⊢
    unfold belowP
    obtain ⟨lo, hlo⟩ : ∃ lo, lowP q - c.length = lo := ⟨_, rfl⟩
    rw [hlo]
    unfold ss pt
    have b1 := leBytes_length 2 lo
    have l1 := putAt_len q 16 (leBytes 2 lo) hql (by omega)
    have l2 := putAt_len _ (26 + 4 * i) (leBytes 2 lo) l1 (by omega)
    rw [putAt_comm _ _ lo _ c l2 (by omega) (by omega) (by omega), putAt_comm _ (26 + 4 * i) lo _ c l1 (by omega) (by omega) (by omega), putAt_comm _ 16 lo _ c hql (by omega) (by omega) (by omega)]
  · have e1 : roomP (holeP p i) c.length = holeP p i := by unfold roomP; rw [hcn, hlw, if_neg hcond]
    simp only [if_neg hcond]
    rw [e1]
    rw [e1, hlw] at hroom hlow
    obtain ⟨ho, c1, c2⟩ := rhole_ok h hi
    unfold belowP
    rw [c2, hlw]
    obtain ⟨lo, hlo⟩ : ∃ lo, lowP p - c.length = lo := ⟨_, rfl⟩
    rw [hlo]
    have b1 := leBytes_length 2 lo
    have l0 := ho.len
    have l1 := putAt_len (rholeP p i) 16 (leBytes 2 lo) l0 (by omega)
    have l2 := putAt_len _ (26 + 4 * i) (leBytes 2 lo) l1 (by omega)
    have lh := hh.len
    have m1 := putAt_len _ lo c lh (by omega)
    have m2 := putAt_len _ 16 (leBytes 2 lo) m1 (by omega)
    have r1 := putAt_len _ lo c l0 (by omega)
    have r2 := putAt_len _ 16 (leBytes 2 lo) r1 (by omega)
    have r3 := putAt_len _ (26 + 4 * i) (leBytes 2 lo) r2 (by omega)
    have m3 := putAt_len _ (26 + 4 * i) (leBytes 2 lo) m2 (by omega)
    unfold ss pt
    rw [putAt_comm _ _ lo _ c l2 (by omega) (by omega) (by omega), putAt_comm _ (26 + 4 * i) lo _ c l1 (by omega) (by omega) (by omega), putAt_comm _ 16 lo _ c l0 (by omega) (by omega) (by omega)]
    have key : ∀ j, ¬ (26 + 4 * i ≤ j ∧ j < 26 + 4 * i + 4) → (rholeP p i)[j]? = (holeP p i)[j]? := by
      intro j hj
      rw [win_get (rholeP p i), win_get (holeP p i), rhole_win h hi _ _ (by omega)]
    apply List.ext_getElem?
    intro j
    rw [putAt_get _ _ _ r3 (by omega), putAt_get _ _ _ r2 (by omega), putAt_get _ _ _ r1 (by omega), putAt_get _ _ _ l0 (by omega), putAt_get _ _ _ m3 (by omega), putAt_get _ _ _ m2 (by omega), putAt_get _ _ _ m1 (by omega), putAt_get _ _ _ lh (by omega), b1, b2]
    by_cases k1 : 26 + 4 * i + 2 ≤ j ∧ j < 26 + 4 * i + 2 + 2
    · rw [if_pos k1, if_pos k1]
    · rw [if_neg k1, if_neg k1]
      by_cases k2 : 26 + 4 * i ≤ j ∧ j < 26 + 4 * i + 2
      · rw [if_pos k2, if_pos k2]
      · rw [if_neg k2, if_neg k2, key j (by omega)]
end Mun
