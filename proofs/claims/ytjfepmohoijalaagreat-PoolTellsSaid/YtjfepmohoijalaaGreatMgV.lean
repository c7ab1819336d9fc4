/- Texts of mine, one behind the other: KnownPW, PageT, LayoutsW, ListPl, P16. -/
import Derived.Test.YtjfepmohoijalaaGreatMgU
import Derived.Test.YtjfepmohoijalaaGreatP11
import Derived.Test.YtjfepmohoijalaaGreatMgF
import Derived.Test.YtjfepmohoijalaaGreatMgN
import Derived.Test.YtjfepmohoijalaaGreatMgM
section
/- The law PageKnown: the walk. -/
set_option maxRecDepth 100000
set_option linter.unusedVariables false
set_option linter.unusedSimpArgs false
namespace Mun
open Go Go.RowKit
open Go.Proofs

/-- pages that lie there -/
def Pgs (w : World) (L : List (Nat × PBytes)) : Prop := ∀ x ∈ L, PgAt w x.1 x.2
theorem Pgs.below {w w' : World} {L : List (Nat × PBytes)} (h : Pgs w L) (hb : Below w.heap.size w w') : Pgs w' L := fun x hx => (h x hx).below hb
theorem Pgs.nil (w : World) : Pgs w [] := fun x hx => by simp at hx
theorem Pgs.cons {w : World} {L : List (Nat × PBytes)} {g : Nat} {p : PBytes} (h : PgAt w g p) (hl : Pgs w L) : Pgs w ((g, p) :: L) := by
  intro x hx
  rcases List.mem_cons.1 hx with rfl | hx
  · exact h
  · exact hl x hx

structure KnownP (a b c d t : PBytes) : Prop where
  ga : GoodP a
  gb : GoodP b
  gc : GoodP c
  gd : GoodP d
  gt : GoodP t
  ca : cnt a = 1
  cb : cnt b = 2
  cc : cnt c = 1
  fa : freeP a = 480
  fc : freeP c = 480
  ft : freeP t = 472
  lb : lowP b = 509
  lc : lowP c = 509
  ld : lowP d = 34
  eb : insP a 0 [99] = b
  ec : remP b 0 = c
  ed : insP c 1 (zer 476) = d
  et : insP (newP 1) 0 (zer 10) = t
  ea : insP (newP 1) 0 [97, 98] = a

theorem known_p : ∃ a b c d t, KnownP a b c d t := by
  have ha := ins_facts (new_good 1) (i := 0) (Nat.zero_le _) (c := [97, 98]) (by rw [new_free]; decide)
  have fa : freeP (insP (newP 1) 0 [97, 98]) = 480 := by decide +kernel
  have hb := ins_facts ha.good (i := 0) (Nat.zero_le _) (c := [99]) (by rw [fa]; decide)
  have ca : cnt (insP (newP 1) 0 [97, 98]) = 1 := by rw [ha.cnt, new_cnt]
  have cb : cnt (insP (insP (newP 1) 0 [97, 98]) 0 [99]) = 2 := by rw [hb.cnt, ca]
  have hc := rem_facts hb.good (i := 0) (by rw [cb]; decide)
  have cc : cnt (remP (insP (insP (newP 1) 0 [97, 98]) 0 [99]) 0) = 1 := by rw [hc.cnt, cb]
  have fc : freeP (remP (insP (insP (newP 1) 0 [97, 98]) 0 [99]) 0) = 480 := by decide +kernel
  have hd := ins_facts hc.good (i := 1) (by rw [cc]; exact Nat.le_refl _) (c := zer 476) (by rw [fc, zer_length]; decide)
  have ht := ins_facts (new_good 1) (i := 0) (Nat.zero_le _) (c := zer 10) (by rw [new_free, zer_length]; decide)
  exact ⟨_, _, _, _, _, ha.good, hb.good, hc.good, hd.good, ht.good, ca, cb, cc, fa, fc, by decide +kernel, by decide +kernel, by decide +kernel, by decide +kernel, rfl, rfl, rfl, rfl, rfl⟩

theorem check_zero : checkP (zer 512) = 0 := by unfold checkP; rw [if_pos rfl]
theorem check_new : checkP (newP 1) = 8 := by
  unfold checkP
  rw [if_neg (by decide +kernel), if_neg (by simpa using new_good 1), if_pos ?_]
  have h1 : gt (newP 1) 0 4 = 0 := by decide +kernel
  rw [h1]
  exact Ne.symm (crc_ne_zero (by decide +kernel))

theorem made (w : World) (n : Nat) (N : Int) (hN : N = n) (hn : n ≤ 512) : (Instr.makeSlice 41 (.int .i64 N) (.int .i64 N)).run Tryz.prog w = .ok (.slice (some ⟨w.heap.size, 0, none⟩) n n) (w.alloc (bobj (zer n))) := by
  subst hN
  exact make_bytes n n (Nat.le_refl _) (by omega) w
theorem made_rd (w : World) (n : Nat) (hn : n ≤ 512) : RdB NoF (w.alloc (bobj (zer n))) (.slice (some ⟨w.heap.size, 0, none⟩) n n) (zer n) :=
  bobj_rdAt (heap_alloc_new w _) n (zer_length n) (by unfold maxLen; omega) (noF _)

end Mun
end

section
/- Plain: laid out anew twice is once; what goes in behind moves nothing. No program in sight. -/
set_option linter.unusedVariables false
namespace Mun

theorem win_of_gt {p q : PBytes} {a n : Nat} (hp : a + n ≤ p.length) (hq : a + n ≤ q.length) (h : gt p a n = gt q a n) : win p a n = win q a n := by
  have h1 := leBytes_leNat (win p a n)
  have h2 := leBytes_leNat (win q a n)
  rw [win_length _ _ _ hp] at h1
  rw [win_length _ _ _ hq] at h2
  rw [← h1, ← h2]
  exact congrArg _ h
theorem win_append (p : PBytes) (a n m : Nat) : win p a (n + m) = win p a n ++ win p (a + n) m := by
  unfold win
  rw [List.take_add, List.drop_drop]
theorem win_all (p : PBytes) : win p 0 p.length = p := by unfold win; simp

theorem eq_of_wins {p q : PBytes} (hp : p.length = 512) (hq : q.length = 512) (n lo : Nat) (hn : 26 + 4 * n ≤ lo) (hl : lo ≤ 512)
    (h1 : win p 0 26 = win q 0 26) (h2 : win p 26 (4 * n) = win q 26 (4 * n)) (h3 : win p (26 + 4 * n) (lo - (26 + 4 * n)) = win q (26 + 4 * n) (lo - (26 + 4 * n))) (h4 : win p lo (512 - lo) = win q lo (512 - lo)) : p = q := by
  have e : ∀ r : PBytes, r.length = 512 → r = win r 0 26 ++ (win r 26 (4 * n) ++ (win r (26 + 4 * n) (lo - (26 + 4 * n)) ++ win r lo (512 - lo))) := by
    intro r hr
    have h5 := win_all r
    rw [hr, show (512 : Nat) = 26 + (4 * n + ((lo - (26 + 4 * n)) + (512 - lo))) by omega, win_append, win_append, win_append, Nat.zero_add, show 26 + 4 * n + (lo - (26 + 4 * n)) = lo by omega] at h5
    exact h5.symm
  rw [e p hp, e q hq, h1, h2, h3, h4]

theorem slots_win {p q : PBytes} (hp : p.length = 512) (hq : q.length = 512) : ∀ n, 26 + 4 * n ≤ 512 → (∀ j, j < n → sFrom p j = sFrom q j ∧ sSize p j = sSize q j) → win p 26 (4 * n) = win q 26 (4 * n)
  | 0, _, _ => by simp [win]
  | n + 1, hn, h => by
    have ih := slots_win hp hq n (by omega) (fun j hj => h j (by omega))
    have hj := h n (by omega)
    have e : ∀ r : PBytes, win r 26 (4 * (n + 1)) = win r 26 (4 * n) ++ (win r (26 + 4 * n) 2 ++ win r (26 + 4 * n + 2) 2) := by
      intro r
      rw [show 4 * (n + 1) = 4 * n + (2 + 2) by omega, win_append, win_append]
    rw [e p, e q, ih, win_of_gt (by omega) (by omega) hj.1, win_of_gt (a := 26 + 4 * n + 2) (by omega) (by omega) hj.2]

theorem cells_win {p q : PBytes} (s : Nat → Nat) : ∀ (z : Nat → Nat) (n : Nat), (∀ k, k < n → z (k + 1) = z k + s k) → z 0 = 0 → z n ≤ 512 → (∀ j, j < n → win p (512 - z (j + 1)) (s j) = win q (512 - z (j + 1)) (s j)) → win p (512 - z n) (z n) = win q (512 - z n) (z n)
  | z, 0, _, h0, _, _ => by rw [h0]; simp [win]
  | z, n + 1, hz, h0, hle, h => by
    have h1 := hz n (by omega)
    have ih := cells_win (p := p) (q := q) s z n (fun k hk => hz k (by omega)) h0 (by omega) (fun j hj => h j (by omega))
    rw [h1, Nat.add_comm (z n), win_append, win_append]
    have e : 512 - (s n + z n) + s n = 512 - z n := by omega
    rw [e, ih]
    have h2 := h n (by omega)
    rw [h1, Nat.add_comm (z n)] at h2
    rw [h2]

theorem anew_twice {p : PBytes} (h : GoodP p) : anewP (anewP p) = anewP p := by
  have ha := good_anewOk h
  have hd := anewP_inv ha
  have hl := anew_like h
  have hb := good_anewOk hl.good
  have he := anewP_inv hb
  obtain ⟨q, hq⟩ : ∃ q, anewP p = q := ⟨_, rfl⟩
  rw [hq] at hd hl hb he ⊢
  obtain ⟨n, hn⟩ : ∃ n, cnt p = n := ⟨_, rfl⟩
  have hqn : cnt q = n := hd.cnt.trans hn
  have hsz : ∀ k, k ≤ n → szs q k = szs p k := fun k hk => szs_congr (fun j hj => hd.size j (by rw [hn]; omega))
  have hfit := ha.fit
  rw [hn] at hfit
  have hzn := hsz n (Nat.le_refl _)
  have hmono : ∀ j, j < n → szs p (j + 1) ≤ szs p n := fun j hj => szs_mono p hj
  refine eq_of_wins he.len hd.len n (512 - szs p n) (by omega) (by omega) ?_ ?_ ?_ ?_
  · have e : ∀ r : PBytes, win r 0 26 = win r 0 16 ++ (win r 16 2 ++ win r 18 8) := by
      intro r
      rw [show (26 : Nat) = 16 + (2 + 8) by rfl, win_append, win_append]
    rw [e, e q, he.head 0 16 (by omega), he.head 18 8 (by omega), win_of_gt (p := anewP q) (q := q) (a := 16) (n := 2) (by rw [he.len]; omega) (by rw [hd.len]; omega) ?_]
    show lowP (anewP q) = lowP q
    rw [he.low, hd.low, hqn, hzn, hn]
  · refine slots_win he.len hd.len n (by omega) (fun j hj => ⟨?_, ?_⟩)
    · rw [he.from_ j (by rw [hqn]; exact hj), hd.from_ j (by rw [hn]; exact hj), hsz _ (by omega)]
    · rw [he.size j (by rw [hqn]; exact hj)]
  · have h1 := he.zero
    have h2 := hd.zero
    rw [hqn, hzn] at h1
    rw [hn] at h2
    rw [h1, h2]
  · rw [show 512 - (512 - szs p n) = szs p n by omega]
    refine cells_win (sSize p) (szs p) n (fun k _ => rfl) rfl (by omega) (fun j hj => ?_)
    have h1 := he.cell j (by rw [hqn]; exact hj)
    rw [cellP_win, cellP_win q, he.from_ j (by rw [hqn]; exact hj), he.size j (by rw [hqn]; exact hj), hd.from_ j (by rw [hn]; exact hj), hd.size j (by rw [hn]; exact hj), hsz _ (by omega)] at h1
    exact h1

/-- a page laid out anew has its free bytes in one piece -/
theorem anew_room {p : PBytes} (h : GoodP p) : (lowP (anewP p) : Int) = 26 + 4 * (cnt (anewP p) : Int) + freeP (anewP p) := by
  have ha := good_anewOk h
  have hd := anewP_inv ha
  have hf := (anew_like h).free
  have hfit := ha.fit
  rw [hf, hd.low, hd.cnt]
  unfold freeP
  omega

theorem ins_tail {p : PBytes} (h : GoodP p) {i : Nat} (hi : i ≤ cnt p) {c : PBytes} (hr : 26 + 4 * cnt p + (c.length + 4) ≤ lowP p) : (insP p i c).drop (lowP p) = p.drop (lowP p) := by
  have hlow := h.low
  have hp := h.len
  have hu := up_facts (m := cnt p + 1) hp hi (by omega) (by omega)
  have hx := below_facts (i := i) (c := c) hu.len (by rw [hu.low]; exact hlow) (by rw [hu.low]; omega) (by rw [hu.low]; omega)
  have e : insP p i c = belowP (pt (upP p i (cnt p)) 14 2 (cnt p + 1)) i c := by
    unfold insP roomP
    rw [if_neg (by omega)]
  rw [← e] at hx
  have h1 := hx.rest (lowP p) (512 - lowP p) (by rw [hu.low]; omega)
  rw [hu.rest _ _ (by omega)] at h1
  have e2 : ∀ r : PBytes, r.length = 512 → r.drop (lowP p) = win r (lowP p) (512 - lowP p) := by
    intro r hr
    unfold win
    rw [List.take_of_length_le (by rw [List.length_drop]; omega)]
  rw [e2 _ hx.len, e2 _ hp, h1]
end Mun
end

section
/- The law PageLayouts: the walk. -/
set_option maxRecDepth 100000
set_option linter.unusedVariables false
set_option linter.unusedSimpArgs false
namespace Mun
open Go Go.RowKit
open Go.Proofs

theorem Like.cells {p q : PBytes} (h : Like p q) : cellsP q (Mun.cnt q) = cellsP p (Mun.cnt p) := by
  rw [h.cnt]
  unfold cellsP
  apply List.map_congr_left
  intro i hi
  exact h.cell i (List.mem_range.1 hi)

structure LayP (p q : PBytes) (m : Nat) (f : Int) : Prop where
  gp : GoodP p
  gq : GoodP q
  ap : AnewOk p
  aq : AnewOk q
  eq : anewP p = q
  er : anewP q = q
  cells : cellsP q (cnt q) = cellsP p (cnt p)
  fp : freeP p = f
  fq : freeP q = f
  cp : cnt p = m
  cq : cnt q = m
  room : (lowP q : Int) = 26 + 4 * (m : Int) + f

theorem lay_p {p : PBytes} (hg : GoodP p) : ∃ q m f, LayP p q m f := by
  have hl := anew_like hg
  have hr := anew_room hg
  refine ⟨_, _, _, hg, hl.good, good_anewOk hg, good_anewOk hl.good, rfl, anew_twice hg, hl.cells, rfl, hl.free, rfl, hl.cnt, ?_⟩
  rw [hl.free, hl.cnt] at hr
  exact hr

end Mun
end

section
/- Plain: a page as a list of cells. -/
set_option linter.unusedVariables false
namespace Mun

/-- what cells leave of a page -/
def lft : List PBytes → Int
  | [] => 486
  | c :: l => lft l - 4 - c.length
theorem lft_append (l : List PBytes) (m : List PBytes) : lft (l ++ m) = lft l + lft m - 486 := by
  induction l with
  | nil => simp [lft]; omega
  | cons a l ih => simp only [List.cons_append, lft, ih]; omega
theorem lft_le (l : List PBytes) : lft l ≤ 486 := by
  induction l with
  | nil => simp [lft]
  | cons a l ih => simp only [lft]; omega
theorem lft_take_succ (l : List PBytes) (k : Nat) (h : k < l.length) : lft (l.take (k + 1)) = lft (l.take k) - 4 - (l[k].length : Int) := by
  rw [List.take_add_one, List.getElem?_eq_getElem h, Option.toList_some, lft_append]
  simp only [lft]
  omega
theorem lft_take (l : List PBytes) (k : Nat) : lft l ≤ lft (l.take k) := by
  have h := lft_append (l.take k) (l.drop k)
  rw [List.take_append_drop] at h
  have := lft_le (l.drop k)
  omega

theorem good_size {p : PBytes} (h : GoodP p) {i : Nat} (hi : i < cnt p) : (cellP p i).length = sSize p i := by
  unfold cellP
  rw [List.length_take, List.length_drop, h.len]
  have := (h.cell i hi).2
  omega
theorem lft_cells {p : PBytes} (h : GoodP p) : lft (cellsP p (cnt p)) = freeP p := by
  have : ∀ k, k ≤ cnt p → lft (cellsP p k) = 486 - 4 * (k : Int) - (szs p k : Int) := by
    intro k
    induction k with
    | zero => intro _; rfl
    | succ k ih =>
      intro hk
      rw [cellsP_succ, lft_append, ih (by omega)]
      simp only [lft, szs]
      rw [good_size h (by omega)]
      push_cast
      omega
  rw [this _ (Nat.le_refl _)]
  rfl
theorem free_nonneg {p : PBytes} (h : GoodP p) : 0 ≤ freeP p := by
  have h1 := good_szs h
  have h2 := h.fit
  have h3 := h.low
  unfold freeP
  omega

theorem cellsP_get (p : PBytes) (k i : Nat) (h : i < k) : (cellsP p k)[i]? = some (cellP p i) := by
  unfold cellsP
  rw [List.getElem?_map, List.getElem?_range h]
  rfl

theorem cells_ins {p : PBytes} (h : GoodP p) {i : Nat} (hi : i ≤ cnt p) {c : PBytes} (hf : (c.length : Int) + 4 ≤ freeP p) :
    GoodP (insP p i c) ∧ cellsP (insP p i c) (cnt (insP p i c)) = (cellsP p (cnt p)).take i ++ [c] ++ (cellsP p (cnt p)).drop i := by
  have f := ins_facts h hi hf
  refine ⟨f.good, ?_⟩
  rw [f.cnt]
  apply List.ext_getElem?
  intro j
  have hl : ((cellsP p (cnt p)).take i ++ [c]).length = i + 1 := by rw [List.length_append, List.length_take, cellsP_length, List.length_singleton]; omega
  rcases Nat.lt_or_ge j (cnt p + 1) with hj | hj
  · rw [cellsP_get _ _ _ hj]
    by_cases hji : j = i
    · subst hji
      rw [f.here, List.getElem?_append_left (by omega), List.getElem?_append_right (by rw [List.length_take, cellsP_length]; omega), List.length_take, cellsP_length, Nat.min_eq_left hi, Nat.sub_self]
      rfl
    · rw [f.cell j hj hji]
      unfold preI
      by_cases hlt : j < i
      · rw [if_pos hlt, List.getElem?_append_left (by omega), List.getElem?_append_left (by rw [List.length_take, cellsP_length]; omega), List.getElem?_take, if_pos hlt, cellsP_get _ _ _ (by omega)]
      · rw [if_neg hlt, List.getElem?_append_right (by omega), hl, List.getElem?_drop, cellsP_get _ _ _ (by omega)]
        congr 2
        omega
  · rw [List.getElem?_eq_none (by rw [cellsP_length]; exact hj), List.getElem?_eq_none (by rw [List.length_append, hl, List.length_drop, cellsP_length]; omega)]

theorem cells_rem {p : PBytes} (h : GoodP p) {i : Nat} (hi : i < cnt p) :
    GoodP (remP p i) ∧ cellsP (remP p i) (cnt (remP p i)) = (cellsP p (cnt p)).take i ++ (cellsP p (cnt p)).drop (i + 1) := by
  have f := rem_facts h hi
  refine ⟨f.good, ?_⟩
  rw [f.cnt]
  apply List.ext_getElem?
  intro j
  have hl : ((cellsP p (cnt p)).take i).length = i := by rw [List.length_take, cellsP_length]; omega
  rcases Nat.lt_or_ge j (cnt p - 1) with hj | hj
  · rw [cellsP_get _ _ _ hj, f.cell j hj]
    unfold postI
    by_cases hlt : j < i
    · rw [if_pos hlt, List.getElem?_append_left (by omega), List.getElem?_take, if_pos hlt, cellsP_get _ _ _ (by omega)]
    · rw [if_neg hlt, List.getElem?_append_right (by omega), hl, List.getElem?_drop, cellsP_get _ _ _ (by omega)]
      congr 2
      omega
  · rw [List.getElem?_eq_none (by rw [cellsP_length]; exact hj), List.getElem?_eq_none (by rw [List.length_append, hl, List.length_drop, cellsP_length]; omega)]

theorem cells_rep {p : PBytes} (h : GoodP p) {i : Nat} (hi : i < cnt p) {c : PBytes} (hf : (c.length : Int) - sSize p i ≤ freeP p) :
    GoodP (repP p i c) ∧ cellsP (repP p i c) (cnt (repP p i c)) = (cellsP p (cnt p)).take i ++ [c] ++ (cellsP p (cnt p)).drop (i + 1) := by
  have f := rep_facts h hi hf
  refine ⟨f.good, ?_⟩
  rw [f.cnt]
  apply List.ext_getElem?
  intro j
  have hl0 : ((cellsP p (cnt p)).take i).length = i := by rw [List.length_take, cellsP_length]; omega
  have hl : ((cellsP p (cnt p)).take i ++ [c]).length = i + 1 := by rw [List.length_append, hl0]; rfl
  rcases Nat.lt_or_ge j (cnt p) with hj | hj
  · rw [cellsP_get _ _ _ hj]
    by_cases hji : j = i
    · subst hji
      rw [f.here, List.getElem?_append_left (by omega), List.getElem?_append_right (by omega), hl0, Nat.sub_self]
      rfl
    · rw [f.cell j hj hji]
      by_cases hlt : j < i
      · rw [List.getElem?_append_left (by omega), List.getElem?_append_left (by omega), List.getElem?_take, if_pos hlt, cellsP_get _ _ _ hj]
      · rw [List.getElem?_append_right (by omega), hl, List.getElem?_drop, cellsP_get _ _ _ (by omega)]
        congr 2
        omega
  · rw [List.getElem?_eq_none (by rw [cellsP_length]; exact hj), List.getElem?_eq_none (by rw [List.length_append, hl, List.length_drop, cellsP_length]; omega)]

theorem cells_anew {p : PBytes} (h : GoodP p) : GoodP (anewP p) ∧ cellsP (anewP p) (cnt (anewP p)) = cellsP p (cnt p) := ⟨(anew_like h).good, (anew_like h).cells⟩
end Mun
end

section
/- Contract of Replace. -/
set_option maxRecDepth 100000
set_option linter.unusedVariables false
set_option linter.unusedSimpArgs false
namespace Mun
open Go Go.RowKit
open Go.Proofs

end Mun
end
