/- Plain: laid out anew twice is once; what goes in behind moves nothing. No program in sight. -/
import Derived.Test.YtjfepmohoijalaaPageJ
set_option linter.unusedVariables false
namespace Mun

theorem win_of_gt {p q : PBytes} {a n : Nat} (hp : a + n ≤ p.length) (hq : a + n ≤ q.length) (h : gt p a n = gt q a n) : win p a n = win q a n := by
  have h1 := leBytes_leNat (win p a n)
  have h2 := leBytes_leNat (win q a n)
  rw [win_length _ _ _ hp] at h1
  rw [win_length _ _ _ hq] at h2
  rw [← h1, ← h2]
  exact congrArg _ h
theorem win_append (p : PBytes) (a n m : Nat) : win p a (n + m) = win p a n ++ win p (a + n) m := by
  unfold win
  rw [List.take_add, List.drop_drop]
theorem win_all (p : PBytes) : win p 0 p.length = p := by unfold win; simp

theorem eq_of_wins {p q : PBytes} (hp : p.length = 512) (hq : q.length = 512) (n lo : Nat) (hn : 26 + 4 * n ≤ lo) (hl : lo ≤ 512)
    (h1 : win p 0 26 = win q 0 26) (h2 : win p 26 (4 * n) = win q 26 (4 * n)) (h3 : win p (26 + 4 * n) (lo - (26 + 4 * n)) = win q (26 + 4 * n) (lo - (26 + 4 * n))) (h4 : win p lo (512 - lo) = win q lo (512 - lo)) : p = q := by
  have e : ∀ r : PBytes, r.length = 512 → r = win r 0 26 ++ (win r 26 (4 * n) ++ (win r (26 + 4 * n) (lo - (26 + 4 * n)) ++ win r lo (512 - lo))) := by
    intro r hr
    have h5 := win_all r
    rw [hr, show (512 : Nat) = 26 + (4 * n + ((lo - (26 + 4 * n)) + (512 - lo))) by omega, win_append, win_append, win_append, Nat.zero_add, show 26 + 4 * n + (lo - (26 + 4 * n)) = lo by omega] at h5
    exact h5.symm
  rw [e p hp, e q hq, h1, h2, h3, h4]

theorem slots_win {p q : PBytes} (hp : p.length = 512) (hq : q.length = 512) : ∀ n, 26 + 4 * n ≤ 512 → (∀ j, j < n → sFrom p j = sFrom q j ∧ sSize p j = sSize q j) → win p 26 (4 * n) = win q 26 (4 * n)
  | 0, _, _ => by simp [win]
  | n + 1, hn, h => by
    have ih := slots_win hp hq n (by omega) (fun j hj => h j (by omega))
    have hj := h n (by omega)
    have e : ∀ r : PBytes, win r 26 (4 * (n + 1)) = win r 26 (4 * n) ++ (win r (26 + 4 * n) 2 ++ win r (26 + 4 * n + 2) 2) := by
      intro r
      rw [show 4 * (n + 1) = 4 * n + (2 + 2) by omega, win_append, win_append]
    rw [e p, e q, ih, win_of_gt (by omega) (by omega) hj.1, win_of_gt (a := 26 + 4 * n + 2) (by omega) (by omega) hj.2]

theorem cells_win {p q : PBytes} (s : Nat → Nat) : ∀ (z : Nat → Nat) (n : Nat), (∀ k, k < n → z (k + 1) = z k + s k) → z 0 = 0 → z n ≤ 512 → (∀ j, j < n → win p (512 - z (j + 1)) (s j) = win q (512 - z (j + 1)) (s j)) → win p (512 - z n) (z n) = win q (512 - z n) (z n)
  | z, 0, _, h0, _, _ => by rw [h0]; simp [win]
  | z, n + 1, hz, h0, hle, h => by
    have h1 := hz n (by omega)
    have ih := cells_win (p := p) (q := q) s z n (fun k hk => hz k (by omega)) h0 (by omega) (fun j hj => h j (by omega))
    rw [h1, Nat.add_comm (z n), win_append, win_append]
    have e : 512 - (s n + z n) + s n = 512 - z n := by omega
    rw [e, ih]
    have h2 := h n (by omega)
    rw [h1, Nat.add_comm (z n)] at h2
    rw [h2]

theorem anew_twice {p : PBytes} (h : GoodP p) : anewP (anewP p) = anewP p := by
  have ha := good_anewOk h
  have hd := anewP_inv ha
  have hl := anew_like h
  have hb := good_anewOk hl.good
  have he := anewP_inv hb
  obtain ⟨q, hq⟩ : ∃ q, anewP p = q := ⟨_, rfl⟩
  rw [hq] at hd hl hb he ⊢
  obtain ⟨n, hn⟩ : ∃ n, cnt p = n := ⟨_, rfl⟩
  have hqn : cnt q = n := hd.cnt.trans hn
  have hsz : ∀ k, k ≤ n → szs q k = szs p k := fun k hk => szs_congr (fun j hj => hd.size j (by rw [hn]; omega))
  have hfit := ha.fit
  rw [hn] at hfit
  have hzn := hsz n (Nat.le_refl _)
  have hmono : ∀ j, j < n → szs p (j + 1) ≤ szs p n := fun j hj => szs_mono p hj
  refine eq_of_wins he.len hd.len n (512 - szs p n) (by omega) (by omega) ?_ ?_ ?_ ?_
  · have e : ∀ r : PBytes, win r 0 26 = win r 0 16 ++ (win r 16 2 ++ win r 18 8) := by
      intro r
      rw [show (26 : Nat) = 16 + (2 + 8) by rfl, win_append, win_append]
    rw [e, e q, he.head 0 16 (by omega), he.head 18 8 (by omega), win_of_gt (p := anewP q) (q := q) (a := 16) (n := 2) (by rw [he.len]; omega) (by rw [hd.len]; omega) ?_]
    show lowP (anewP q) = lowP q
    rw [he.low, hd.low, hqn, hzn, hn]
  · refine slots_win he.len hd.len n (by omega) (fun j hj => ⟨?_, ?_⟩)
    · rw [he.from_ j (by rw [hqn]; exact hj), hd.from_ j (by rw [hn]; exact hj), hsz _ (by omega)]
    · rw [he.size j (by rw [hqn]; exact hj)]
  · have h1 := he.zero
    have h2 := hd.zero
    rw [hqn, hzn] at h1
    rw [hn] at h2
    rw [h1, h2]
  · rw [show 512 - (512 - szs p n) = szs p n by omega]
    refine cells_win (sSize p) (szs p) n (fun k _ => rfl) rfl (by omega) (fun j hj => ?_)
    have h1 := he.cell j (by rw [hqn]; exact hj)
    rw [cellP_win, cellP_win q, he.from_ j (by rw [hqn]; exact hj), he.size j (by rw [hqn]; exact hj), hd.from_ j (by rw [hn]; exact hj), hd.size j (by rw [hn]; exact hj), hsz _ (by omega)] at h1
    exact h1

/-- a page laid out anew has its free bytes in one piece -/
theorem anew_room {p : PBytes} (h : GoodP p) : (lowP (anewP p) : Int) = 26 + 4 * (cnt (anewP p) : Int) + freeP (anewP p) := by
  have ha := good_anewOk h
  have hd := anewP_inv ha
  have hf := (anew_like h).free
  have hfit := ha.fit
  rw [hf, hd.low, hd.cnt]
  unfold freeP
  omega

theorem ins_tail {p : PBytes} (h : GoodP p) {i : Nat} (hi : i ≤ cnt p) {c : PBytes} (hr : 26 + 4 * cnt p + (c.length + 4) ≤ lowP p) : (insP p i c).drop (lowP p) = p.drop (lowP p) := by
  have hlow := h.low
  have hp := h.len
  have hu := up_facts (m := cnt p + 1) hp hi (by omega) (by omega)
  have hx := below_facts (i := i) (c := c) hu.len (by rw [hu.low]; exact hlow) (by rw [hu.low]; omega) (by rw [hu.low]; omega)
  have e : insP p i c = belowP (pt (upP p i (cnt p)) 14 2 (cnt p + 1)) i c := by
    unfold insP roomP
    rw [if_neg (by omega)]
  rw [← e] at hx
  have h1 := hx.rest (lowP p) (512 - lowP p) (by rw [hu.low]; omega)
  rw [hu.rest _ _ (by omega)] at h1
  have e2 : ∀ r : PBytes, r.length = 512 → r.drop (lowP p) = win r (lowP p) (512 - lowP p) := by
    intro r hr
    unfold win
    rw [List.take_of_length_le (by rw [List.length_drop]; omega)]
  rw [e2 _ hx.len, e2 _ hp, h1]
end Mun
