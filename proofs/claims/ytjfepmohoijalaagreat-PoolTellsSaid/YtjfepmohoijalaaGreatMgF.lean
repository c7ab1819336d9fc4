/- Texts of mine, one behind the other: PageO, Flip, CrcE, PageQ, P9, P10. -/
import Derived.Test.YtjfepmohoijalaaGreatMgE
import Derived.Test.YtjfepmohoijalaaGreatMgD
import Derived.Stop.BytesEq
import Derived.Laws.Cover3
section
/- Plain: the cells of a good page take no more than the room above low; what Insert, Remove, Replace make of a page. No program in sight. -/
set_option linter.unusedVariables false
namespace Mun

theorem count_interval (f : Nat) : ∀ (N s : Nat), f + s ≤ N → (List.range N).countP (fun x => decide (f ≤ x ∧ x < f + s)) = s
  | 0, s, h => by obtain rfl : s = 0 := by omega
                  rfl
  | N + 1, s, h => by
    rw [List.range_succ, List.countP_append, List.countP_singleton]
    by_cases hN : f + s ≤ N
    · rw [count_interval f N s hN]
      have : decide (f ≤ N ∧ N < f + s) = false := by simp; omega
      rw [this]; rfl
    · cases s with
      | zero =>
        have : (List.range N).countP (fun x => decide (f ≤ x ∧ x < f + 0)) = 0 := by
          rw [List.countP_eq_zero]; intro x _; simp
        rw [this]
        have : decide (f ≤ N ∧ N < f + 0) = false := by simp
        rw [this]; rfl
      | succ t =>
        have e : (List.range N).countP (fun x => decide (f ≤ x ∧ x < f + (t + 1))) = (List.range N).countP (fun x => decide (f ≤ x ∧ x < f + t)) := by
          apply List.countP_congr
          intro x hx
          have := List.mem_range.1 hx
          simp only [decide_eq_true_eq]
          omega
        rw [e, count_interval f N t (by omega)]
        have : decide (f ≤ N ∧ N < f + (t + 1)) = true := by simp; omega
        rw [this]; rfl

theorem countP_or {l : List Nat} {P Q : Nat → Bool} (h : ∀ x ∈ l, ¬ (P x = true ∧ Q x = true)) : l.countP (fun x => P x || Q x) = l.countP P + l.countP Q := by
  induction l with
  | nil => rfl
  | cons a l ih =>
    have h1 := h a (by simp)
    rw [List.countP_cons, List.countP_cons, List.countP_cons, ih (fun x hx => h x (by simp [hx]))]
    cases hp : P a <;> cases hq : Q a <;> simp_all <;> omega

/-- x lies in one of the first k cells -/
def inSome (p : PBytes) : Nat → Nat → Bool
  | 0, _ => false
  | k + 1, x => inSome p k x || decide (sFrom p k ≤ x ∧ x < sFrom p k + sSize p k)
theorem inSome_iff (p : PBytes) (x : Nat) : ∀ k, inSome p k x = true ↔ ∃ j, j < k ∧ inC p j x
  | 0 => by simp [inSome]
  | k + 1 => by
    simp only [inSome, Bool.or_eq_true, inSome_iff p x k, decide_eq_true_eq]
    constructor
    · rintro (⟨j, hj, h⟩ | h)
      · exact ⟨j, by omega, h⟩
      · exact ⟨k, by omega, h⟩
    · rintro ⟨j, hj, h⟩
      rcases Nat.lt_or_eq_of_le (Nat.lt_succ_iff.1 hj) with hj | rfl
      · exact .inl ⟨j, hj, h⟩
      · exact .inr h

theorem inSome_count {p : PBytes} (h : GoodP p) : ∀ k, k ≤ cnt p → (List.range 512).countP (inSome p k) = szs p k
  | 0, _ => by
    show (List.range 512).countP (fun _ => false) = 0
    rw [List.countP_eq_zero]; intro x _; simp
  | k + 1, hk => by
    have ih := inSome_count h k (by omega)
    have hc := h.cell k (by omega)
    show (List.range 512).countP (fun x => inSome p k x || decide (sFrom p k ≤ x ∧ x < sFrom p k + sSize p k)) = szs p k + sSize p k
    rw [countP_or, ih, count_interval _ 512 _ hc.2]
    intro x _ ⟨h1, h2⟩
    obtain ⟨j, hj, hjc⟩ := (inSome_iff p x k).1 h1
    have h3 : sFrom p k ≤ x ∧ x < sFrom p k + sSize p k := by simpa using h2
    exact h.apart j k hj (by omega) x ⟨hjc, h3⟩

theorem good_szs {p : PBytes} (h : GoodP p) : szs p (cnt p) ≤ 512 - lowP p := by
  have hl := h.low
  rw [← inSome_count h (cnt p) (Nat.le_refl _), ← count_interval (lowP p) 512 (512 - lowP p) (by omega)]
  apply List.countP_mono_left
  intro x hx h1
  obtain ⟨j, hj, hjc⟩ := (inSome_iff p x _).1 h1
  have hc := h.cell j hj
  have hx5 := List.mem_range.1 hx
  unfold inC at hjc
  simp only [decide_eq_true_eq]
  omega

theorem good_anewOk {p : PBytes} (h : GoodP p) : AnewOk p := ⟨h.len, by have := good_szs h; have := h.fit; have := h.low; omega, fun i hi => (h.cell i hi).2⟩

/-- the page in which there is room for so many bytes -/
def roomP (p : PBytes) (k : Nat) : PBytes := if lowP p < 26 + 4 * cnt p + k then anewP p else p
/-- slots from i on moved up by one -/
def upP (q : PBytes) (i n : Nat) : PBytes := putAt q (26 + 4 * (i + 1)) (win q (26 + 4 * i) (4 * (n - i)))
def insP (p : PBytes) (i : Nat) (c : PBytes) : PBytes := belowP (pt (upP (roomP p (c.length + 4)) i (cnt p)) 14 2 (cnt p + 1)) i c

/-- what a page with room is -/
structure RoomOk (p q : PBytes) (k : Nat) : Prop where
  len : q.length = 512
  cnt : cnt q = cnt p
  room : 26 + 4 * Mun.cnt p + k ≤ lowP q
  low : lowP q ≤ 512
theorem room_ok {p : PBytes} (h : GoodP p) (k : Nat) (hf : ((k : Nat) : Int) ≤ freeP p) : RoomOk p (roomP p k) k := by
  unfold roomP
  split
  · have hi := anewP_inv (good_anewOk h)
    have := (good_anewOk h).fit
    unfold freeP at hf
    exact ⟨hi.len, hi.cnt, by rw [hi.low]; omega, by rw [hi.low]; omega⟩
  · exact ⟨h.len, rfl, by omega, h.low⟩

/-- slots behind i moved down by one, the last one zero -/
def downP (q : PBytes) (i n : Nat) : PBytes := putAt (putAt q (26 + 4 * i) (win q (26 + 4 * (i + 1)) (4 * (n - 1 - i)))) (26 + 4 * (n - 1)) (zer 4)
def remP (p : PBytes) (i : Nat) : PBytes :=
  if cnt p = 1 then pt (pt (downP p i (cnt p)) 14 2 (cnt p - 1)) 16 2 512 else pt (downP p i (cnt p)) 14 2 (cnt p - 1)

/-- the page whose cell i has no bytes -/
def holeP (p : PBytes) (i : Nat) : PBytes := ss p i (lowP p) 0
def repP (p : PBytes) (i : Nat) (c : PBytes) : PBytes :=
  if c.length ≤ sSize p i then ss (putAt p (sFrom p i) c) i (sFrom p i) c.length else belowP (roomP (holeP p i) c.length) i c

theorem cnt_ss (p : PBytes) (i f z : Nat) (hl : 26 + 4 * i + 4 ≤ p.length) : cnt (ss p i f z) = cnt p := gt_of_win (win_ss _ _ _ _ _ _ hl (by omega))
theorem lowP_ss (p : PBytes) (i f z : Nat) (hl : 26 + 4 * i + 4 ≤ p.length) : lowP (ss p i f z) = lowP p := gt_of_win (win_ss _ _ _ _ _ _ hl (by omega))

theorem szs_hole {p : PBytes} (hp : p.length = 512) {i : Nat} (hi : 26 + 4 * i + 4 ≤ 512) : ∀ k, (k ≤ i → szs (holeP p i) k = szs p k) ∧ (i < k → szs (holeP p i) k + sSize p i = szs p k)
  | 0 => ⟨fun _ => rfl, fun h => by omega⟩
  | k + 1 => by
    have ih := szs_hole hp hi k
    refine ⟨fun h => ?_, fun h => ?_⟩
    · show szs (holeP p i) k + sSize (holeP p i) k = szs p k + sSize p k
      rw [ih.1 (by omega)]
      unfold holeP
      rw [sSize_ss_ne _ _ _ _ _ (by omega) (by omega)]
    · show szs (holeP p i) k + sSize (holeP p i) k + sSize p i = szs p k + sSize p k
      by_cases hk : k = i
      · subst hk
        rw [ih.1 (Nat.le_refl _)]
        have : sSize (holeP p k) k = 0 := by unfold holeP; exact sSize_ss _ _ _ _ (by omega) (by omega)
        omega
      · have := ih.2 (by omega)
        have h2 : sSize (holeP p i) k = sSize p k := by unfold holeP; exact sSize_ss_ne _ _ _ _ _ (by omega) hk
        omega

theorem hole_good {p : PBytes} (h : GoodP p) {i : Nat} (hi : i < cnt p) : GoodP (holeP p i) := by
  have hfit := h.fit
  have hlow := h.low
  have hp := h.len
  have hl : 26 + 4 * i + 4 ≤ p.length := by omega
  have hc : cnt (holeP p i) = cnt p := cnt_ss _ _ _ _ hl
  have hlo : lowP (holeP p i) = lowP p := lowP_ss _ _ _ _ hl
  have h13 : (holeP p i)[13]? = some 0 := by
    have hw : win (holeP p i) 13 1 = win p 13 1 := win_ss _ _ _ _ _ _ hl (by omega)
    have e : ∀ q : PBytes, q[13]? = (win q 13 1)[0]? := by intro q; simp [win]
    rw [e, hw, ← e]
    exact h.none
  have hf : ∀ j, j ≠ i → sFrom (holeP p i) j = sFrom p j ∧ sSize (holeP p i) j = sSize p j := fun j hj => ⟨sFrom_ss_ne _ _ _ _ _ hl hj, sSize_ss_ne _ _ _ _ _ hl hj⟩
  have hfi : sFrom (holeP p i) i = lowP p ∧ sSize (holeP p i) i = 0 := ⟨sFrom_ss _ _ _ _ hl (by omega), sSize_ss _ _ _ _ hl (by omega)⟩
  refine ⟨by unfold holeP; rw [ss_length _ _ _ _ hl, hp], h13, by rw [hc, hlo]; exact hfit, by rw [hlo]; exact hlow, fun j hj => ?_, fun a b hab hb x ⟨h1, h2⟩ => ?_⟩
  · rw [hc] at hj
    rw [hlo]
    by_cases hji : j = i
    · subst hji
      rw [hfi.1, hfi.2]
      omega
    · rw [(hf j hji).1, (hf j hji).2]
      exact h.cell j hj
  · rw [hc] at hb
    unfold inC at h1 h2
    by_cases hai : a = i
    · subst hai; rw [hfi.1, hfi.2] at h1; omega
    · by_cases hbi : b = i
      · subst hbi; rw [hfi.1, hfi.2] at h2; omega
      · rw [(hf a hai).1, (hf a hai).2] at h1
        rw [(hf b hbi).1, (hf b hbi).2] at h2
        exact h.apart a b hab hb x ⟨h1, h2⟩

theorem freeP_hole {p : PBytes} (h : GoodP p) {i : Nat} (hi : i < cnt p) : freeP (holeP p i) = freeP p + sSize p i := by
  have hfit := h.fit
  have hlow := h.low
  have hp := h.len
  have hc : cnt (holeP p i) = cnt p := cnt_ss _ _ _ _ (by omega)
  have := (szs_hole hp (by omega : 26 + 4 * i + 4 ≤ 512) (cnt p)).2 hi
  unfold freeP
  rw [hc]
  omega
end Mun
end

section
/- Plain mathematics: bits that are turned in a row of bytes. -/
namespace Mun

def flipBit (l : List UInt8) (j : Nat) : List UInt8 := l.set (j / 8) (l.getD (j / 8) 0 ^^^ UInt8.ofNat (2 ^ (j % 8)))

theorem flipBit_length (l : List UInt8) (j : Nat) : (flipBit l j).length = l.length := by simp [flipBit]

theorem pow8_getLsbD (a b : Nat) (ha : a < 8) (hb : b < 8) : (UInt8.ofNat (2 ^ a)).toBitVec.getLsbD b = decide (a = b) := by
  have : a = 0 ∨ a = 1 ∨ a = 2 ∨ a = 3 ∨ a = 4 ∨ a = 5 ∨ a = 6 ∨ a = 7 := by omega
  have : b = 0 ∨ b = 1 ∨ b = 2 ∨ b = 3 ∨ b = 4 ∨ b = 5 ∨ b = 6 ∨ b = 7 := by omega
  rcases ‹a = 0 ∨ _› with rfl | rfl | rfl | rfl | rfl | rfl | rfl | rfl <;> rcases ‹b = 0 ∨ _› with rfl | rfl | rfl | rfl | rfl | rfl | rfl | rfl <;> decide

theorem bitAt_flipBit (l : List UInt8) (j i : Nat) (hj : j < 8 * l.length) : bitAt (flipBit l j) i = (bitAt l i ^^ decide (i = j)) := by
  unfold bitAt flipBit
  have hq : j / 8 < l.length := by omega
  rw [List.getD_eq_getElem?_getD, List.getElem?_set, List.getD_eq_getElem?_getD]
  by_cases h : j / 8 = i / 8
  · rw [if_pos h, if_pos hq]
    simp only [Option.getD_some]
    rw [UInt8.toBitVec_xor, BitVec.getLsbD_xor, pow8_getLsbD _ _ (by omega) (by omega), h, ← List.getD_eq_getElem?_getD]
    congr 1
    rw [Bool.eq_iff_iff]
    simp only [decide_eq_true_eq]
    omega
  · rw [if_neg h]
    have : ¬ i = j := by rintro rfl; exact h rfl
    simp [this]

/-- so many bits of a row are laid over the bits from k on: where the row has a bit, the bit is turned -/
def flips (l : List UInt8) (k row : Nat) : Nat → List UInt8
  | 0 => l
  | i + 1 => if k + i < 8 * l.length ∧ row.testBit i = true then flipBit (flips l k row i) (k + i) else flips l k row i

theorem flips_length (l : List UInt8) (k row i : Nat) : (flips l k row i).length = l.length := by
  induction i with
  | zero => rfl
  | succ i ih => simp only [flips]; split <;> simp [flipBit_length, ih]

theorem flips_out (l : List UInt8) (k row i j : Nat) (h : j < k ∨ k + i ≤ j) : bitAt (flips l k row i) j = bitAt l j := by
  induction i with
  | zero => rfl
  | succ i ih =>
    simp only [flips]
    split
    · rw [bitAt_flipBit _ _ _ (by rw [flips_length]; omega), ih (by omega)]
      have : ¬ j = k + i := by omega
      simp [this]
    · exact ih (by omega)

theorem flips_told (l : List UInt8) (k row i : Nat) (hi : i ≤ 32) : crcOf l = crcOf (flips l k row i) ↔ l = flips l k row i :=
  crcOf_window (flips_length l k row i).symm k (fun j hj => (flips_out l k row i j (by omega)).symm)

theorem flips_stop (l : List UInt8) (k row i n : Nat) (h : 8 * l.length ≤ k + i) : flips l k row (i + n) = flips l k row i := by
  induction n with
  | zero => rfl
  | succ n ih =>
    rw [← Nat.add_assoc]
    simp only [flips]
    rw [if_neg (by omega), ih]

end Mun
end

section
/- Plain: the sum reckoned in steps that the kernel can take. -/
set_option linter.unusedVariables false
namespace Mun

def stepN (r : Nat) : Nat := if r % 2 = 1 then (r / 2) ^^^ 0xEDB88320 else r / 2
def iterN : Nat → Nat → Nat
  | 0, r => r
  | n + 1, 0 => 0
  | n + 1, r + 1 => iterN n (stepN (r + 1))
def evalN : List UInt8 → Nat → Nat
  | [], r => r
  | b :: l, r => match iterN 8 (r ^^^ b.toNat) with
    | 0 => evalN l 0
    | q + 1 => evalN l (q + 1)

theorem stepN_eq (r : BitVec 32) : (crcBit r).toNat = stepN r.toNat := by
  unfold crcBit stepN
  have h : r.getLsbD 0 = decide (r.toNat % 2 = 1) := by
    rw [BitVec.getLsbD, Nat.testBit_zero]
  rw [h]
  by_cases hb : r.toNat % 2 = 1
  · simp only [hb, decide_true, if_true]
    rw [BitVec.toNat_xor, BitVec.toNat_ushiftRight, Nat.shiftRight_eq_div_pow]
    rfl
  · simp only [hb, decide_false, if_false, Bool.false_eq_true]
    rw [BitVec.toNat_ushiftRight, Nat.shiftRight_eq_div_pow]
theorem iterN_eq : ∀ (n : Nat) (r : BitVec 32), (crcIter n r).toNat = iterN n r.toNat
  | 0, r => rfl
  | n + 1, r => by
    have h1 : crcIter (n + 1) r = crcIter n (crcBit r) := rfl
    rw [h1, iterN_eq n, stepN_eq]
    cases hr : r.toNat with
    | zero =>
      have : ∀ n, iterN n (stepN 0) = 0 := by
        intro n
        show iterN n 0 = 0
        cases n <;> rfl
      rw [this]; rfl
    | succ k => rfl
theorem evalN_eq : ∀ (l : List UInt8) (r : BitVec 32), (crcReg r l).toNat = evalN l r.toNat
  | [], r => rfl
  | b :: l, r => by
    have h1 : crcReg r (b :: l) = crcReg (crcByte r b) l := rfl
    have h2 : (crcByte r b).toNat = iterN 8 (r.toNat ^^^ b.toNat) := by
      unfold crcByte
      rw [iterN_eq, BitVec.toNat_xor]
      have h3 : (b.toBitVec.setWidth 32).toNat = b.toNat := by
        rw [BitVec.toNat_setWidth]
        have := b.toNat_lt
        show b.toNat % 2 ^ 32 = b.toNat
        omega
      rw [h3]
    rw [h1, evalN_eq l, h2]
    show _ = evalN (b :: l) r.toNat
    show _ = match iterN 8 (r.toNat ^^^ b.toNat) with
      | 0 => evalN l 0
      | q + 1 => evalN l (q + 1)
    cases iterN 8 (r.toNat ^^^ b.toNat) <;> rfl
theorem crc_ne_zero {l : List UInt8} (h : evalN l 4294967295 ≠ 4294967295) : (crcOf l).toNat ≠ 0 := by
  intro h0
  apply h
  have h1 : crcOf l = 0#32 := BitVec.eq_of_toNat_eq h0
  unfold crcOf crcMore at h1
  have h2 : crcReg (0#32 ^^^ 0xffffffff#32) l = 0xffffffff#32 := by
    have := congrArg (· ^^^ 0xffffffff#32) h1
    simp only [BitVec.xor_assoc, BitVec.xor_self, BitVec.xor_zero, BitVec.zero_xor] at this
    rw [BitVec.zero_xor]
    exact this
  have h3 := evalN_eq l (0#32 ^^^ 0xffffffff#32)
  rw [h2] at h3
  exact h3.symm
end Mun
end

section
/- Plain: pages whose head alone differs; sealed pages. No program in sight. -/
set_option linter.unusedVariables false
namespace Mun

theorem win_sub (p : PBytes) (A N a n : Nat) (h1 : A ≤ a) (h2 : a + n ≤ A + N) : win p a n = win (win p A N) (a - A) n := by
  unfold win
  rw [List.drop_take, List.drop_drop, List.take_take]
  congr 1
  · omega
  · congr 1; omega
theorem win_get (q : PBytes) (a : Nat) : q[a]? = (win q a 1)[0]? := by simp [win]

/-- the same but for numbers in the head that tell nothing of the cells -/
structure Same (p q : PBytes) : Prop where
  len : q.length = 512
  mid : win q 12 6 = win p 12 6
  body : win q 26 486 = win p 26 486
theorem Same.win {p q : PBytes} (h : Same p q) (a n : Nat) (ha : 26 ≤ a ∧ a + n ≤ 512 ∨ 12 ≤ a ∧ a + n ≤ 18) : win q a n = win p a n := by
  rcases ha with ha | ha
  · rw [win_sub q 26 486 a n ha.1 (by omega), win_sub p 26 486 a n ha.1 (by omega), h.body]
  · rw [win_sub q 12 6 a n ha.1 (by omega), win_sub p 12 6 a n ha.1 (by omega), h.mid]
theorem Same.cnt {p q : PBytes} (h : Same p q) : cnt q = cnt p := gt_of_win (h.win 14 2 (by omega))
theorem Same.low {p q : PBytes} (h : Same p q) : lowP q = lowP p := gt_of_win (h.win 16 2 (by omega))
theorem Same.slot {p q : PBytes} (h : Same p q) (i : Nat) (hi : 26 + 4 * i + 4 ≤ 512) : sFrom q i = sFrom p i ∧ sSize q i = sSize p i := ⟨gt_of_win (h.win _ 2 (by omega)), gt_of_win (h.win _ 2 (by omega))⟩
theorem Same.good {p q : PBytes} (h : Same p q) (hg : GoodP p) : GoodP q := by
  have hfit := hg.fit
  have hlow := hg.low
  refine ⟨h.len, by rw [win_get, h.win 13 1 (by omega), ← win_get]; exact hg.none, by rw [h.cnt, h.low]; exact hfit, by rw [h.low]; exact hlow, fun i hi => ?_, fun a b hab hb x ⟨h1, h2⟩ => ?_⟩
  · rw [h.cnt] at hi
    have hs := h.slot i (by omega)
    rw [hs.1, hs.2, h.low]
    exact hg.cell i hi
  · rw [h.cnt] at hb
    have ha := h.slot a (by omega)
    have hbb := h.slot b (by omega)
    unfold inC at h1 h2
    rw [ha.1, ha.2] at h1
    rw [hbb.1, hbb.2] at h2
    exact hg.apart a b hab hb x ⟨h1, h2⟩
theorem Same.cell {p q : PBytes} (h : Same p q) (hg : GoodP p) (i : Nat) (hi : i < Mun.cnt p) : cellP q i = cellP p i := by
  have hfit := hg.fit
  have hlow := hg.low
  have hc := hg.cell i hi
  have hs := h.slot i (by omega)
  rw [cellP_win, cellP_win, hs.1, hs.2]
  exact h.win _ _ (by omega)
theorem Same.szs {p q : PBytes} (h : Same p q) (k : Nat) (hk : 26 + 4 * k ≤ 512) : szs q k = szs p k := szs_congr (fun j hj => (h.slot j (by omega)).2)
theorem Same.free {p q : PBytes} (h : Same p q) (hg : GoodP p) : freeP q = freeP p := by
  have hfit := hg.fit
  have hlow := hg.low
  unfold freeP
  rw [h.cnt, h.szs _ (by omega)]

/-- a page of nothing -/
def newP (k : Nat) : PBytes := pt ((zer 512).set 12 (UInt8.ofNat k)) 16 2 512
def lsnP (p : PBytes) (n : Nat) : PBytes := pt p 4 8 n
def sealP (p : PBytes) (n : Nat) : PBytes := pt (lsnP p n) 0 4 (crcOf ((lsnP p n).drop 4)).toNat
def setP (p : PBytes) (l x : Nat) : PBytes := pt (pt p 18 4 l) 22 4 x

theorem seal_len {p : PBytes} (hp : p.length = 512) (n : Nat) : (sealP p n).length = 512 := by
  unfold sealP lsnP
  rw [pt_length _ _ _ _ (by rw [pt_length _ _ _ _ (by omega)]; omega), pt_length _ _ _ _ (by omega), hp]
theorem seal_win {p : PBytes} (hp : p.length = 512) (n a m : Nat) (ha : 12 ≤ a) : win (sealP p n) a m = win p a m := by
  unfold sealP lsnP
  rw [win_pt _ _ _ _ _ _ (by rw [pt_length _ _ _ _ (by omega)]; omega) (by omega), win_pt _ _ _ _ _ _ (by omega) (by omega)]
theorem seal_same {p : PBytes} (hp : p.length = 512) (n : Nat) : Same p (sealP p n) := ⟨seal_len hp n, seal_win hp n _ _ (by omega), seal_win hp n _ _ (by omega)⟩
theorem set_same {p : PBytes} (hp : p.length = 512) (l x : Nat) : Same p (setP p l x) := by
  have h1 : (pt p 18 4 l).length = 512 := by rw [pt_length _ _ _ _ (by omega), hp]
  unfold setP
  refine ⟨by rw [pt_length _ _ _ _ (by omega), h1], ?_, ?_⟩
  · rw [win_pt _ _ _ _ _ _ (by omega) (by omega), win_pt _ _ _ _ _ _ (by omega) (by omega)]
  · rw [win_pt _ _ _ _ _ _ (by omega) (by omega), win_pt _ _ _ _ _ _ (by omega) (by omega)]
theorem Same.trans {p q r : PBytes} (h : Same p q) (k : Same q r) : Same p r := ⟨k.len, k.mid.trans h.mid, k.body.trans h.body⟩

theorem gt_seal_lsn {p : PBytes} (hp : p.length = 512) (n : Nat) (hn : n < 18446744073709551616) : gt (sealP p n) 4 8 = n := by
  unfold sealP lsnP
  rw [gt_pt_apart _ _ _ _ _ _ (by rw [pt_length _ _ _ _ (by omega)]; omega) (by omega), gt_pt_same _ _ _ _ (by omega)]
  omega
theorem gt_seal {p : PBytes} (hp : p.length = 512) (n a m : Nat) (ha : 12 ≤ a) : gt (sealP p n) a m = gt p a m := gt_of_win (seal_win hp n a m ha)
theorem gt_set_link {p : PBytes} (hp : p.length = 512) (l x : Nat) (hl : l < 4294967296) : gt (setP p l x) 18 4 = l := by
  unfold setP
  rw [gt_pt_apart _ _ _ _ _ _ (by rw [pt_length _ _ _ _ (by omega)]; omega) (by omega), gt_pt_same _ _ _ _ (by omega)]
  omega
theorem gt_set_extra {p : PBytes} (hp : p.length = 512) (l x : Nat) (hx : x < 4294967296) : gt (setP p l x) 22 4 = x := by
  unfold setP
  rw [gt_pt_same _ _ _ _ (by rw [pt_length _ _ _ _ (by omega)]; omega)]
  omega
theorem gt_set {p : PBytes} (hp : p.length = 512) (l x a m : Nat) (ha : a + m ≤ 18) : gt (setP p l x) a m = gt p a m := by
  unfold setP
  rw [gt_pt_apart _ _ _ _ _ _ (by rw [pt_length _ _ _ _ (by omega)]; omega) (by omega), gt_pt_apart _ _ _ _ _ _ (by omega) (by omega)]

open Classical in
/-- what is wrong with a page that was read -/
noncomputable def checkP (p : PBytes) : Int := if p = zer 512 then 0 else if ¬ GoodP p then 4 else if gt p 0 4 ≠ (crcOf (p.drop 4)).toNat then 8 else 0

theorem seal_drop {p : PBytes} (hp : p.length = 512) (n : Nat) : (sealP p n).drop 4 = (lsnP p n).drop 4 := by
  have hl : (lsnP p n).length = 512 := by unfold lsnP; rw [pt_length _ _ _ _ (by omega), hp]
  unfold sealP pt
  exact putAt_drop_after _ _ _ _ (by rw [leBytes_length]; omega) (by rw [leBytes_length]; omega)
theorem seal_sum {p : PBytes} (hp : p.length = 512) (n : Nat) : gt (sealP p n) 0 4 = (crcOf ((sealP p n).drop 4)).toNat := by
  have hl : (lsnP p n).length = 512 := by unfold lsnP; rw [pt_length _ _ _ _ (by omega), hp]
  rw [seal_drop hp]
  unfold sealP
  rw [gt_pt_same _ _ _ _ (by omega)]
  have := (crcOf ((lsnP p n).drop 4)).isLt
  omega
theorem check_seal {p : PBytes} (hg : GoodP p) (n : Nat) : checkP (sealP p n) = 0 := by
  have h1 := (seal_same hg.len n).good hg
  have h2 := seal_sum hg.len n
  unfold checkP
  by_cases hz : sealP p n = zer 512
  · rw [if_pos hz]
  · rw [if_neg hz, if_neg (by simpa using h1), if_neg (by simpa using h2)]

theorem win_set (l : PBytes) (i : Nat) (b : UInt8) (a n : Nat) (h : i < a ∨ a + n ≤ i) : win (l.set i b) a n = win l a n := by
  apply List.ext_getElem?
  intro j
  unfold win
  rw [List.getElem?_take, List.getElem?_take]
  split
  · rw [List.getElem?_drop, List.getElem?_drop, List.getElem?_set, if_neg (by omega)]
  · rfl
theorem bitAt_drop (l : PBytes) (j : Nat) : bitAt (l.drop 4) j = bitAt l (j + 32) := by
  unfold bitAt
  rw [List.getD_eq_getElem?_getD, List.getD_eq_getElem?_getD, List.getElem?_drop, show (j + 32) / 8 = 4 + j / 8 by omega, show (j + 32) % 8 = j % 8 by omega]
theorem bitAt_zer (n j : Nat) : bitAt (zer n) j = false := by
  unfold bitAt zer
  have : (List.replicate n (0 : UInt8)).getD (j / 8) 0 = 0 := by
    rw [List.getD_eq_getElem?_getD, List.getElem?_replicate]
    split <;> rfl
  rw [this]
  simp

/-- the sums of pages of which one bit of low alone is set -/
theorem low_sums : ∀ k, k < 16 → (crcOf ((flipBit (zer 512) (128 + k)).drop 4)).toNat ≠ 0 := by
  intro k hk
  apply crc_ne_zero
  revert k
  decide +kernel

theorem check_flip {p : PBytes} (hg : GoodP p) (n k : Nat) (hk : k < 4096) : checkP (flipBit (sealP p n) k) ≠ 0 := by
  have hgq := (seal_same hg.len n).good hg
  have hsum := seal_sum hg.len n
  obtain ⟨q, hq⟩ : ∃ q, sealP p n = q := ⟨_, rfl⟩
  rw [hq] at hgq hsum ⊢
  have hql := hgq.len
  have hbit := fun i => bitAt_flipBit q k i (by rw [hql]; exact hk)
  have hne : flipBit q k ≠ q := by
    intro he
    have := hbit k
    rw [he] at this
    simp at this
  unfold checkP
  by_cases hz : flipBit q k = zer 512
  · exfalso
    have hqe : q = flipBit (zer 512) k := by
      refine eq_of_bitAt (by rw [flipBit_length, hql, zer_length]) (fun j _ => ?_)
      have h1 := hbit j
      rw [hz, bitAt_zer] at h1
      rw [bitAt_flipBit _ _ _ (by rw [zer_length]; exact hk), bitAt_zer]
      cases hb : bitAt q j <;> simp_all
    have hlow : 26 ≤ lowP q := by have := hgq.fit; omega
    by_cases hr : 128 ≤ k ∧ k < 144
    · obtain ⟨r, hr2⟩ : ∃ r, k = 128 + r := ⟨k - 128, by omega⟩
      have h1 := low_sums r (by omega)
      rw [← hr2, ← hqe, ← hsum] at h1
      apply h1
      rw [hqe]
      have h2 : win (flipBit (zer 512) k) 0 4 = win (zer 512) 0 4 := win_set _ _ _ _ _ (by omega)
      rw [gt_of_win h2]
      decide +kernel
    · have h2 : win (flipBit (zer 512) k) 16 2 = win (zer 512) 16 2 := win_set _ _ _ _ _ (by omega)
      have h3 : lowP q = gt (zer 512) 16 2 := by rw [hqe]; exact gt_of_win h2
      have h4 : gt (zer 512) 16 2 = 0 := by decide +kernel
      omega
  · rw [if_neg hz]
    by_cases hg2 : GoodP (flipBit q k)
    · rw [if_neg (by simpa using hg2)]
      by_cases hs : gt (flipBit q k) 0 4 = (crcOf ((flipBit q k).drop 4)).toNat
      · exfalso
        apply hne
        by_cases hk32 : k < 32
        · have hd : (flipBit q k).drop 4 = q.drop 4 := by
            apply List.ext_getElem?
            intro j
            unfold flipBit
            rw [List.getElem?_drop, List.getElem?_drop, List.getElem?_set, if_neg (by omega)]
          rw [hd, ← hsum] at hs
          have hw : win (flipBit q k) 0 4 = win q 0 4 := by
            have h1 := leBytes_leNat (win (flipBit q k) 0 4)
            have h2 := leBytes_leNat (win q 0 4)
            rw [win_length _ _ _ (by rw [flipBit_length]; omega)] at h1
            rw [win_length _ _ _ (by omega)] at h2
            rw [← h1, ← h2]
            exact congrArg _ hs
          have e : ∀ l : PBytes, l = win l 0 4 ++ l.drop 4 := fun l => by unfold win; rw [List.drop_zero, List.take_append_drop]
          rw [e (flipBit q k), hw, hd, ← e]
        · have hw : win (flipBit q k) 0 4 = win q 0 4 := win_set _ _ _ _ _ (by omega)
          rw [gt_of_win hw, hsum] at hs
          have hcrc : crcOf (q.drop 4) = crcOf ((flipBit q k).drop 4) := BitVec.eq_of_toNat_eq hs
          have hd := (crcOf_window (a := q.drop 4) (b := (flipBit q k).drop 4) (by rw [List.length_drop, List.length_drop, flipBit_length]) (k - 32) (fun j hj => by
            rw [bitAt_drop, bitAt_drop, hbit]
            have : decide (j + 32 = k) = false := by simp; omega
            rw [this]; simp)).1 hcrc
          have e : ∀ l : PBytes, l = win l 0 4 ++ l.drop 4 := fun l => by unfold win; rw [List.drop_zero, List.take_append_drop]
          rw [e (flipBit q k), hw, ← hd, ← e]
      · rw [if_pos hs]
        decide
    · rw [if_pos hg2]
      decide

theorem new_len (k : Nat) : (newP k).length = 512 := by
  unfold newP
  rw [pt_length _ _ _ _ (by rw [List.length_set, zer_length]; decide), List.length_set, zer_length]
theorem new_cnt (k : Nat) : cnt (newP k) = 0 := by
  have h : win (newP k) 14 2 = win (zer 512) 14 2 := by
    unfold newP
    rw [win_pt _ _ _ _ _ _ (by rw [List.length_set, zer_length]; decide) (by omega), win_set _ _ _ _ _ (by omega)]
  show gt _ 14 2 = 0
  rw [gt_of_win h]
  decide +kernel
theorem new_low (k : Nat) : lowP (newP k) = 512 := by
  show gt (newP k) 16 2 = 512
  unfold newP
  rw [gt_pt2 _ _ _ (by rw [List.length_set, zer_length]; decide) (by decide)]
theorem new_good (k : Nat) : GoodP (newP k) := by
  refine ⟨new_len k, ?_, by rw [new_cnt, new_low]; decide, by rw [new_low]; decide, fun i hi => by rw [new_cnt] at hi; omega, fun a b _ hb => by rw [new_cnt] at hb; omega⟩
  have h : win (newP k) 13 1 = win (zer 512) 13 1 := by
    unfold newP
    rw [win_pt _ _ _ _ _ _ (by rw [List.length_set, zer_length]; decide) (by omega), win_set _ _ _ _ _ (by omega)]
  rw [win_get, h, ← win_get]
  decide +kernel
theorem new_free (k : Nat) : freeP (newP k) = 486 := by
  unfold freeP
  rw [new_cnt]
  rfl
end Mun
end

section
/- Contracts of New, Count, Free, clone, Compact, Set, Seal. -/
set_option maxRecDepth 100000
set_option linter.unusedVariables false
set_option linter.unusedSimpArgs false
namespace Mun
open Go Go.RowKit
open Go.Proofs

/-- a page is told, in new memory -/
def PageOut (w : World) (p : PBytes) (e : Ending) (w' : World) : Prop := ∃ g, e = .returned (.tuple #[.slice (some ⟨g, 0, none⟩) 512 512, .int .i64 0]) ∧ PgAt w' g p ∧ w.heap.size ≤ g ∧ Below w.heap.size w w'
def PageNo (w : World) (k : Int) (e : Ending) (w' : World) : Prop := e = .returned (.tuple #[.slice none 0 0, .int .i64 k]) ∧ Below w.heap.size w w'

theorem Bx.fin {w w2 w' : World} {b g : Nat} {p : PBytes} (h : Bx w2 w' b g p) (hB : Below w.heap.size w w2) (hg : w.heap.size ≤ g) : Below w.heap.size w w' :=
  hB.trans (h.chg.below hB.size (fun k hk hk2 => by have : k = g := hk2; omega))

theorem PgAt.rdPart {F : Foot} {w : World} {g : Nat} {p : PBytes} (h : PgAt w g p) (hF : ¬ F g) (lo hi : Nat) (h1 : lo ≤ hi) (h2 : hi ≤ 512) (h3 : lo < 512) : RdB F w (.slice (some ⟨g, lo, none⟩) (hi - lo) (512 - lo)) ((p.drop lo).take (hi - lo)) := by
  have := RdB.part (h.rd hF) lo hi h1 (by rw [h.2]; exact h2)
  rw [if_neg (by omega)] at this
  simpa [addr_add] using this
theorem PgAt.rdFrom {F : Foot} {w : World} {g : Nat} {p : PBytes} (h : PgAt w g p) (hF : ¬ F g) (lo : Nat) (h3 : lo < 512) : RdB F w (.slice (some ⟨g, lo, none⟩) (512 - lo) (512 - lo)) (p.drop lo) := by
  have := h.rdPart hF lo 512 (by omega) (Nat.le_refl _) h3
  rw [List.take_of_length_le (by rw [List.length_drop, h.2]; exact Nat.le_refl _)] at this
  exact this

section
variable {F : Foot} (w : World) (v : Value) (p : List UInt8)

end

theorem PgAt.set {w : World} {g : Nat} {p : PBytes} (h : PgAt w g p) (i : Nat) (b : UInt8) (x : Int) (hx : x = b.toNat) : PgAt (w.setCell ⟨g, i, none⟩ (.int .u8 x)) g (p.set i b) := by
  subst hx
  refine ⟨?_, by rw [List.length_set]; exact h.2⟩
  have h1 := h.1
  simp [World.setCell, Array.getElem?_modify, h1, bobj, bv, List.map_set]

end Mun
end

section
/- Contracts of Seal, Head, Check. -/
set_option maxRecDepth 100000
set_option linter.unusedVariables false
set_option linter.unusedSimpArgs false
namespace Mun
open Go Go.RowKit
open Go.Proofs

theorem seal_no {F : Foot} (w : World) (v : Value) (p : List UInt8) (l : Int) (hv : RdB F w v p) (hg : ¬ GoodP p) : Calls Tryz.prog 59 #[v, .int .u64 l] w (PageNo w 4) := by
  have hgo := copied_no w v p hv hg
  obtain ⟨a, n, c, rfl, HN, -, -⟩ := hv.formN
  have HG := Lib.hid hgo
  clear hgo hv hg HN
  go_enter Tryz.func59, Tryz.ntmps59
  go_wp2_with fail
  refine HG.out.mono ?_
  rintro e w2 ⟨rfl, hb⟩
  have HB := Lib.hid hb
  clear hb
  go_wp2
  go_ret2
  exact ⟨rfl, HB.out.alloc HB.out.size _⟩

set_option maxHeartbeats 1000000 in
theorem seal_yes {F : Foot} (w : World) (v : Value) (p : List UInt8) (l : Nat) (hv : RdB F w v p) (hg : GoodP p) : Calls Tryz.prog 59 #[v, .int .u64 l] w (PageOut w (sealP p l)) := by
  have hgo := copied_yes w v p hv hg
  obtain ⟨a, n, c, rfl, HN, -, -⟩ := hv.formN
  have HG := Lib.hid hgo
  have HSP : Hid (sealP p l = pt (lsnP p l) 0 4 (crcOf ((lsnP p l).drop 4)).toNat) := by show _ = _; rfl
  obtain ⟨q, hq⟩ : ∃ q, lsnP p l = q := ⟨_, rfl⟩
  rw [hq] at HSP
  have HQ := Lib.hid hq
  have hsb : (crcOf (q.drop 4)).toNat < 4294967296 := (crcOf (q.drop 4)).isLt
  obtain ⟨s, hs⟩ : ∃ s, (crcOf (q.drop 4)).toNat = s := ⟨_, rfl⟩
  rw [hs] at HSP hsb
  have HS := Lib.hid hs
  have hwr : IntKind.u64.wrap (s : Int) = (s : Int) := by rw [IntKind.wrap_u64]; omega
  clear hgo hv hg HN hq hs
  go_enter Tryz.func59, Tryz.ntmps59
  go_wp2_with fail
  refine HG.out.mono ?_
  rintro e w2 ⟨g, rfl, hpg, hgs, hb⟩
  have hbx := Bx.start hpg
  have hx := hbx.box
  have HB := Lib.hid (And.intro hbx (And.intro hgs hb))
  clear hpg hgs hb hbx
  go_wp2_with fail
  refine (put_any _ g _ 4 8 4 8 l rfl rfl HB.out.1.pg (by decide) (by decide) (by decide)).mono ?_
  rintro e w3 ⟨rfl, hp3, hc3⟩
  have hbx3 := HB.out.1.step hp3 hc3
  rw [show pt p 4 8 l = q from HQ.out] at hbx3
  have hx3 := hbx3.box
  have hS0 : w3.drew.cell? ⟨w2.heap.size, 0, none⟩ = some (.slice (some ⟨g, 0, none⟩) 512 512) := hx3
  obtain ⟨a3, hsl, ha3⟩ := slice_from g 4 4 rfl (by decide)
  obtain rfl := ha3 (by decide)
  have hof := of_any (F := fun _ => False) w3.drew _ (q.drop 4) (s : Int) (by rw [HS.out]) (PgAt.rdFrom (w := w3.drew) ((hbx3.drew 1).pg) (fun h => h) 4 (by decide))
  have HOF := Lib.hid hof
  have HB3 := Lib.hid hbx3
  clear hp3 hc3 hbx3 hx hof ha3
  go_wp2
  go_region_held_law (fun W => W.cell? ⟨w2.heap.size, 0, none⟩ = some (.slice (some ⟨g, 0, none⟩) 512 512))
    (first | exact hS2 | exact hS0)
    (first
    | ((go_simp; go_at_call 85; refine HOF.out.mono ?_; rintro e W1 ⟨rfl, rfl⟩))
    | ((go_simp; go_at_call 92
        refine (put_any _ g _ 0 4 0 4 s rfl rfl (HB3.out.drew 1).pg (by decide) (by decide) (by decide)).mono ?_
        rintro e W2 ⟨rfl, hp4, hc4⟩
        have hbx4 := (HB3.out.drew 1).step hp4 hc4
        have hS2 := hbx4.box
        have HB4 := Lib.hid hbx4
        clear hp4 hc4 hbx4)))
  go_wp2
  go_ret2
  rw [HSP.out]
  exact ⟨g, rfl, HB4.out.pg, HB.out.2.1, HB4.out.fin HB.out.2.2 HB.out.2.1⟩

end Mun
end
