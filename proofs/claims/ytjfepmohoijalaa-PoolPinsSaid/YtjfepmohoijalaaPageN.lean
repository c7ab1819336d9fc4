/- Plain: what the changes of a page come to. No program in sight. -/
import Derived.Test.YtjfepmohoijalaaPageM
set_option linter.unusedVariables false
namespace Mun

def win (p : PBytes) (a n : Nat) : PBytes := (p.drop a).take n
theorem gt_win (p : PBytes) (a n : Nat) : gt p a n = leNat (win p a n) := rfl
theorem win_putAt (p : PBytes) (A : Nat) (bs : PBytes) (a n : Nat) (hl : A + bs.length ≤ p.length) (h : a + n ≤ A ∨ A + bs.length ≤ a) : win (putAt p A bs) a n = win p a n := putAt_window_apart p A bs a n hl h
theorem win_putAt_same (p : PBytes) (A : Nat) (bs : PBytes) (hl : A + bs.length ≤ p.length) : win (putAt p A bs) A bs.length = bs := putAt_take_drop p A bs hl
theorem win_pt (p : PBytes) (A k x a n : Nat) (hl : A + k ≤ p.length) (h : a + n ≤ A ∨ A + k ≤ a) : win (pt p A k x) a n = win p a n :=
  win_putAt p A _ a n (by rw [leBytes_length]; exact hl) (by rw [leBytes_length]; exact h)
theorem win_ss (p : PBytes) (i f z a n : Nat) (hl : 26 + 4 * i + 4 ≤ p.length) (h : a + n ≤ 26 + 4 * i ∨ 26 + 4 * i + 4 ≤ a) : win (ss p i f z) a n = win p a n := by
  unfold ss
  rw [win_pt _ _ _ _ _ _ (by rw [pt_length _ _ _ _ (by omega)]; omega) (by omega), win_pt _ _ _ _ _ _ (by omega) (by omega)]
theorem gt_of_win {p q : PBytes} {a n : Nat} (h : win p a n = win q a n) : gt p a n = gt q a n := by rw [gt_win, gt_win, h]
theorem win_length (p : PBytes) (a n : Nat) (h : a + n ≤ p.length) : (win p a n).length = n := by unfold win; rw [List.length_take, List.length_drop]; omega
theorem cellP_win (p : PBytes) (i : Nat) : cellP p i = win p (sFrom p i) (sSize p i) := rfl

theorem sFrom_ss (p : PBytes) (i f z : Nat) (hl : 26 + 4 * i + 4 ≤ p.length) (hf : f < 65536) : sFrom (ss p i f z) i = f := by
  unfold sFrom ss
  rw [gt_pt_apart _ _ _ _ _ _ (by rw [pt_length _ _ _ _ (by omega)]; omega) (by omega), gt_pt2 _ _ _ (by omega) hf]
theorem sSize_ss (p : PBytes) (i f z : Nat) (hl : 26 + 4 * i + 4 ≤ p.length) (hz : z < 65536) : sSize (ss p i f z) i = z := by
  unfold sSize ss
  rw [gt_pt2 _ _ _ (by rw [pt_length _ _ _ _ (by omega)]; omega) hz]
theorem sFrom_ss_ne (p : PBytes) (i j f z : Nat) (hl : 26 + 4 * i + 4 ≤ p.length) (h : j ≠ i) : sFrom (ss p i f z) j = sFrom p j := by
  unfold sFrom
  exact gt_of_win (win_ss _ _ _ _ _ _ hl (by omega))
theorem sSize_ss_ne (p : PBytes) (i j f z : Nat) (hl : 26 + 4 * i + 4 ≤ p.length) (h : j ≠ i) : sSize (ss p i f z) j = sSize p j := by
  unfold sSize
  exact gt_of_win (win_ss _ _ _ _ _ _ hl (by omega))
theorem sFrom_putAt (p : PBytes) (A : Nat) (bs : PBytes) (j : Nat) (hl : A + bs.length ≤ p.length) (h : 26 + 4 * j + 4 ≤ A) : sFrom (putAt p A bs) j = sFrom p j := gt_of_win (win_putAt _ _ _ _ _ hl (by omega))
theorem sSize_putAt (p : PBytes) (A : Nat) (bs : PBytes) (j : Nat) (hl : A + bs.length ≤ p.length) (h : 26 + 4 * j + 4 ≤ A) : sSize (putAt p A bs) j = sSize p j := gt_of_win (win_putAt _ _ _ _ _ hl (by omega))
theorem sFrom_pt (p : PBytes) (A k x j : Nat) (hl : A + k ≤ p.length) (h : 26 + 4 * j + 4 ≤ A ∨ A + k ≤ 26) : sFrom (pt p A k x) j = sFrom p j := gt_of_win (win_pt _ _ _ _ _ _ hl (by omega))
theorem sSize_pt (p : PBytes) (A k x j : Nat) (hl : A + k ≤ p.length) (h : 26 + 4 * j + 4 ≤ A ∨ A + k ≤ 26) : sSize (pt p A k x) j = sSize p j := gt_of_win (win_pt _ _ _ _ _ _ hl (by omega))

theorem szs_mono (p : PBytes) {i j : Nat} (h : i ≤ j) : szs p i ≤ szs p j := by
  induction j with
  | zero => obtain rfl : i = 0 := by omega
            exact Nat.le_refl _
  | succ j ih =>
    rcases Nat.lt_or_eq_of_le h with h | rfl
    · have := ih (by omega)
      show szs p i ≤ szs p j + sSize p j
      omega
    · exact Nat.le_refl _
theorem szs_congr {p q : PBytes} : ∀ {k : Nat}, (∀ j, j < k → sSize p j = sSize q j) → szs p k = szs q k
  | 0, _ => rfl
  | k + 1, h => by
    show szs p k + sSize p k = szs q k + sSize q k
    rw [szs_congr (fun j hj => h j (by omega)), h k (by omega)]

/-- what anew wants of a page -/
structure AnewOk (p : PBytes) : Prop where
  len : p.length = 512
  fit : 26 + 4 * cnt p + szs p (cnt p) ≤ 512
  cell : ∀ i, i < cnt p → sFrom p i + sSize p i ≤ 512

/-- the first k cells laid anew -/
structure AnewI (p : PBytes) (k : Nat) (q : PBytes) : Prop where
  len : q.length = 512
  head : ∀ a n, a + n ≤ 26 → win q a n = win p a n
  old : ∀ j, k ≤ j → j < cnt p → sFrom q j = sFrom p j ∧ sSize q j = sSize p j
  from_ : ∀ j, j < k → sFrom q j = 512 - szs p (j + 1)
  size : ∀ j, j < k → sSize q j = sSize p j
  cell : ∀ j, j < k → win q (512 - szs p (j + 1)) (sSize p j) = cellP p j
  mid : ∀ a n, 26 + 4 * cnt p ≤ a → a + n ≤ 512 - szs p k → win q a n = win p a n

theorem cellP_length {p : PBytes} (h : AnewOk p) {k : Nat} (hk : k < cnt p) : (cellP p k).length = sSize p k := by
  have := h.cell k hk
  have := h.len
  unfold cellP
  rw [List.length_take, List.length_drop]
  omega

theorem anewS_inv {p : PBytes} (h : AnewOk p) : ∀ k, k ≤ cnt p → AnewI p k (anewS p k)
  | 0, _ => ⟨h.len, fun _ _ _ => rfl, fun _ _ _ => ⟨rfl, rfl⟩, fun j hj => by omega, fun j hj => by omega, fun j hj => by omega, fun _ _ _ _ => rfl⟩
  | k + 1, hk => by
    have ih := anewS_inv h k (by omega)
    have h1 : szs p (k + 1) ≤ szs p (cnt p) := szs_mono p hk
    have h2 : szs p (k + 1) = szs p k + sSize p k := rfl
    have hl := cellP_length h (show k < cnt p by omega)
    have hfit := h.fit
    obtain ⟨d, hd⟩ : ∃ d, 512 - szs p (k + 1) = d := ⟨_, rfl⟩
    have hdl : d + (cellP p k).length ≤ (anewS p k).length := by rw [ih.len, hl]; omega
    have hpl : (putAt (anewS p k) d (cellP p k)).length = 512 := by rw [putAt_length _ _ _ hdl, ih.len]
    have e : anewS p (k + 1) = ss (putAt (anewS p k) d (cellP p k)) k d (sSize p k) := by rw [← hd]; rfl
    have hss : 26 + 4 * k + 4 ≤ (putAt (anewS p k) d (cellP p k)).length := by omega
    have hck := h.cell k (by omega)
    have hsk : sSize p k < 65536 := gt2_lt p _
    rw [e]
    refine ⟨by rw [ss_length _ _ _ _ hss, hpl], fun a n han => ?_, fun j h3 h4 => ?_, fun j hj => ?_, fun j hj => ?_, fun j hj => ?_, fun a n h3 h4 => ?_⟩
    · rw [win_ss _ _ _ _ _ _ hss (by omega), win_putAt _ _ _ _ _ hdl (by omega), ih.head a n han]
    · rw [sFrom_ss_ne _ _ _ _ _ hss (by omega), sSize_ss_ne _ _ _ _ _ hss (by omega), sFrom_putAt _ _ _ _ hdl (by omega), sSize_putAt _ _ _ _ hdl (by omega)]
      exact ih.old j (by omega) h4
    · by_cases hjk : j = k
      · subst hjk
        rw [sFrom_ss _ _ _ _ hss (by omega), hd]
      · rw [sFrom_ss_ne _ _ _ _ _ hss hjk, sFrom_putAt _ _ _ _ hdl (by omega), ih.from_ j (by omega)]
    · by_cases hjk : j = k
      · subst hjk
        rw [sSize_ss _ _ _ _ hss hsk]
      · rw [sSize_ss_ne _ _ _ _ _ hss hjk, sSize_putAt _ _ _ _ hdl (by omega), ih.size j (by omega)]
    · by_cases hjk : j = k
      · subst hjk
        rw [hd, win_ss _ _ _ _ _ _ hss (by omega)]
        have := win_putAt_same _ _ _ hdl
        rw [hl] at this
        exact this
      · have h5 : szs p (j + 1) ≤ szs p k := szs_mono p (by omega)
        have h6 : szs p (j + 1) = szs p j + sSize p j := rfl
        rw [win_ss _ _ _ _ _ _ hss (by omega), win_putAt _ _ _ _ _ hdl (by omega), ih.cell j (by omega)]
    · rw [win_ss _ _ _ _ _ _ hss (by omega), win_putAt _ _ _ _ _ hdl (by omega), ih.mid a n h3 (by omega)]

theorem zer_length (n : Nat) : (zer n).length = n := by simp [zer]

/-- a page laid out anew -/
structure AnewD (p q : PBytes) : Prop where
  len : q.length = 512
  head : ∀ a n, a + n ≤ 16 ∨ (18 ≤ a ∧ a + n ≤ 26) → win q a n = win p a n
  low : lowP q = 512 - szs p (cnt p)
  cnt : cnt q = cnt p
  from_ : ∀ j, j < Mun.cnt p → sFrom q j = 512 - szs p (j + 1)
  size : ∀ j, j < Mun.cnt p → sSize q j = sSize p j
  cell : ∀ j, j < Mun.cnt p → cellP q j = cellP p j
  zero : win q (26 + 4 * Mun.cnt p) (512 - szs p (Mun.cnt p) - (26 + 4 * Mun.cnt p)) = zer (512 - szs p (Mun.cnt p) - (26 + 4 * Mun.cnt p))

theorem anewP_inv {p : PBytes} (h : AnewOk p) : AnewD p (anewP p) := by
  have hi := anewS_inv h (cnt p) (Nat.le_refl _)
  have hfit := h.fit
  obtain ⟨n, hn⟩ : ∃ n, cnt p = n := ⟨_, rfl⟩
  obtain ⟨lo, hlo⟩ : ∃ lo, 512 - szs p n = lo := ⟨_, rfl⟩
  rw [hn] at hfit hi
  have e : anewP p = pt (putAt (anewS p n) (26 + 4 * n) (zer (lo - (26 + 4 * n)))) 16 2 lo := by unfold anewP; rw [hn, hlo]
  have hzl : 26 + 4 * n + (zer (lo - (26 + 4 * n))).length ≤ (anewS p n).length := by rw [hi.len, zer_length]; omega
  have hpl : (putAt (anewS p n) (26 + 4 * n) (zer (lo - (26 + 4 * n)))).length = 512 := by rw [putAt_length _ _ _ hzl, hi.len]
  have hz := zer_length (lo - (26 + 4 * n))
  have hcnt : cnt (anewP p) = n := by
    rw [e]
    have h1 : win (pt (putAt (anewS p n) (26 + 4 * n) (zer (lo - (26 + 4 * n)))) 16 2 lo) 14 2 = win p 14 2 := by
      rw [win_pt _ _ _ _ _ _ (by omega) (by omega), win_putAt _ _ _ _ _ hzl (by omega), hi.head _ _ (by omega)]
    show gt _ 14 2 = n
    rw [gt_of_win h1]
    exact hn
  refine ⟨by rw [e, pt_length _ _ _ _ (by omega), hpl], fun a m ham => ?_, ?_, by rw [hcnt, hn], fun j hj => ?_, fun j hj => ?_, fun j hj => ?_, ?_⟩
  · rw [e, win_pt _ _ _ _ _ _ (by omega) (by omega), win_putAt _ _ _ _ _ hzl (by omega), hi.head _ _ (by omega)]
  · rw [e, hn, hlo]
    show gt _ 16 2 = lo
    rw [gt_pt2 _ _ _ (by omega) (by omega)]
  · rw [hn] at hj
    rw [e, sFrom_pt _ _ _ _ _ (by omega) (by omega), sFrom_putAt _ _ _ _ hzl (by omega), hi.from_ j hj]
  · rw [hn] at hj
    rw [e, sSize_pt _ _ _ _ _ (by omega) (by omega), sSize_putAt _ _ _ _ hzl (by omega), hi.size j hj]
  · rw [hn] at hj
    have h5 : szs p (j + 1) ≤ szs p n := szs_mono p (by omega)
    have h6 : szs p (j + 1) = szs p j + sSize p j := rfl
    have h7 : cellP (anewP p) j = win (anewP p) (512 - szs p (j + 1)) (sSize p j) := by
      rw [cellP_win, e, sFrom_pt _ _ _ _ _ (by omega) (by omega), sFrom_putAt _ _ _ _ hzl (by omega), hi.from_ j hj, sSize_pt _ _ _ _ _ (by omega) (by omega), sSize_putAt _ _ _ _ hzl (by omega), hi.size j hj]
    rw [h7, e, win_pt _ _ _ _ _ _ (by omega) (by omega), win_putAt _ _ _ _ _ hzl (by omega), hi.cell j hj]
  · rw [hn, hlo, e, win_pt _ _ _ _ _ _ (by omega) (by omega)]
    have := win_putAt_same _ _ _ hzl
    rw [hz] at this
    exact this
end Mun
