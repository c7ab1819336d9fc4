/- Plain: pages whose head alone differs; sealed pages. No program in sight. -/
import Derived.Test.YtjfepmohoijalaaPageO
import Derived.Test.YtjfepmohoijalaaFlip
import Derived.Test.YtjfepmohoijalaaCrcE
set_option linter.unusedVariables false
namespace Mun

theorem win_sub (p : PBytes) (A N a n : Nat) (h1 : A ≤ a) (h2 : a + n ≤ A + N) : win p a n = win (win p A N) (a - A) n := by
  unfold win
  rw [List.drop_take, List.drop_drop, List.take_take]
  congr 1
  · omega
  · congr 1; omega
theorem win_get (q : PBytes) (a : Nat) : q[a]? = (win q a 1)[0]? := by simp [win]

/-- the same but for numbers in the head that tell nothing of the cells -/
structure Same (p q : PBytes) : Prop where
  len : q.length = 512
  mid : win q 12 6 = win p 12 6
  body : win q 26 486 = win p 26 486
theorem Same.win {p q : PBytes} (h : Same p q) (a n : Nat) (ha : 26 ≤ a ∧ a + n ≤ 512 ∨ 12 ≤ a ∧ a + n ≤ 18) : win q a n = win p a n := by
  rcases ha with ha | ha
  · rw [win_sub q 26 486 a n ha.1 (by omega), win_sub p 26 486 a n ha.1 (by omega), h.body]
  · rw [win_sub q 12 6 a n ha.1 (by omega), win_sub p 12 6 a n ha.1 (by omega), h.mid]
theorem Same.cnt {p q : PBytes} (h : Same p q) : cnt q = cnt p := gt_of_win (h.win 14 2 (by omega))
theorem Same.low {p q : PBytes} (h : Same p q) : lowP q = lowP p := gt_of_win (h.win 16 2 (by omega))
theorem Same.slot {p q : PBytes} (h : Same p q) (i : Nat) (hi : 26 + 4 * i + 4 ≤ 512) : sFrom q i = sFrom p i ∧ sSize q i = sSize p i := ⟨gt_of_win (h.win _ 2 (by omega)), gt_of_win (h.win _ 2 (by omega))⟩
theorem Same.good {p q : PBytes} (h : Same p q) (hg : GoodP p) : GoodP q := by
  have hfit := hg.fit
  have hlow := hg.low
  refine ⟨h.len, by rw [win_get, h.win 13 1 (by omega), ← win_get]; exact hg.none, by rw [h.cnt, h.low]; exact hfit, by rw [h.low]; exact hlow, fun i hi => ?_, fun a b hab hb x ⟨h1, h2⟩ => ?_⟩
  · rw [h.cnt] at hi
    have hs := h.slot i (by omega)
    rw [hs.1, hs.2, h.low]
    exact hg.cell i hi
  · rw [h.cnt] at hb
    have ha := h.slot a (by omega)
    have hbb := h.slot b (by omega)
    unfold inC at h1 h2
    rw [ha.1, ha.2] at h1
    rw [hbb.1, hbb.2] at h2
    exact hg.apart a b hab hb x ⟨h1, h2⟩
theorem Same.cell {p q : PBytes} (h : Same p q) (hg : GoodP p) (i : Nat) (hi : i < Mun.cnt p) : cellP q i = cellP p i := by
  have hfit := hg.fit
  have hlow := hg.low
  have hc := hg.cell i hi
  have hs := h.slot i (by omega)
  rw [cellP_win, cellP_win, hs.1, hs.2]
  exact h.win _ _ (by omega)
theorem Same.szs {p q : PBytes} (h : Same p q) (k : Nat) (hk : 26 + 4 * k ≤ 512) : szs q k = szs p k := szs_congr (fun j hj => (h.slot j (by omega)).2)
theorem Same.free {p q : PBytes} (h : Same p q) (hg : GoodP p) : freeP q = freeP p := by
  have hfit := hg.fit
  have hlow := hg.low
  unfold freeP
  rw [h.cnt, h.szs _ (by omega)]

/-- a page of nothing -/
def newP (k : Nat) : PBytes := pt ((zer 512).set 12 (UInt8.ofNat k)) 16 2 512
def lsnP (p : PBytes) (n : Nat) : PBytes := pt p 4 8 n
def sealP (p : PBytes) (n : Nat) : PBytes := pt (lsnP p n) 0 4 (crcOf ((lsnP p n).drop 4)).toNat
def setP (p : PBytes) (l x : Nat) : PBytes := pt (pt p 18 4 l) 22 4 x

theorem seal_len {p : PBytes} (hp : p.length = 512) (n : Nat) : (sealP p n).length = 512 := by
  unfold sealP lsnP
  rw [pt_length _ _ _ _ (by rw [pt_length _ _ _ _ (by omega)]; omega), pt_length _ _ _ _ (by omega), hp]
theorem seal_win {p : PBytes} (hp : p.length = 512) (n a m : Nat) (ha : 12 ≤ a) : win (sealP p n) a m = win p a m := by
  unfold sealP lsnP
  rw [win_pt _ _ _ _ _ _ (by rw [pt_length _ _ _ _ (by omega)]; omega) (by omega), win_pt _ _ _ _ _ _ (by omega) (by omega)]
theorem seal_same {p : PBytes} (hp : p.length = 512) (n : Nat) : Same p (sealP p n) := ⟨seal_len hp n, seal_win hp n _ _ (by omega), seal_win hp n _ _ (by omega)⟩
theorem set_same {p : PBytes} (hp : p.length = 512) (l x : Nat) : Same p (setP p l x) := by
  have h1 : (pt p 18 4 l).length = 512 := by rw [pt_length _ _ _ _ (by omega), hp]
  unfold setP
  refine ⟨by rw [pt_length _ _ _ _ (by omega), h1], ?_, ?_⟩
  · rw [win_pt _ _ _ _ _ _ (by omega) (by omega), win_pt _ _ _ _ _ _ (by omega) (by omega)]
  · rw [win_pt _ _ _ _ _ _ (by omega) (by omega), win_pt _ _ _ _ _ _ (by omega) (by omega)]
theorem Same.trans {p q r : PBytes} (h : Same p q) (k : Same q r) : Same p r := ⟨k.len, k.mid.trans h.mid, k.body.trans h.body⟩

theorem gt_seal_lsn {p : PBytes} (hp : p.length = 512) (n : Nat) (hn : n < 18446744073709551616) : gt (sealP p n) 4 8 = n := by
  unfold sealP lsnP
  rw [gt_pt_apart _ _ _ _ _ _ (by rw [pt_length _ _ _ _ (by omega)]; omega) (by omega), gt_pt_same _ _ _ _ (by omega)]
  omega
theorem gt_seal {p : PBytes} (hp : p.length = 512) (n a m : Nat) (ha : 12 ≤ a) : gt (sealP p n) a m = gt p a m := gt_of_win (seal_win hp n a m ha)
theorem gt_set_link {p : PBytes} (hp : p.length = 512) (l x : Nat) (hl : l < 4294967296) : gt (setP p l x) 18 4 = l := by
  unfold setP
  rw [gt_pt_apart _ _ _ _ _ _ (by rw [pt_length _ _ _ _ (by omega)]; omega) (by omega), gt_pt_same _ _ _ _ (by omega)]
  omega
theorem gt_set_extra {p : PBytes} (hp : p.length = 512) (l x : Nat) (hx : x < 4294967296) : gt (setP p l x) 22 4 = x := by
  unfold setP
  rw [gt_pt_same _ _ _ _ (by rw [pt_length _ _ _ _ (by omega)]; omega)]
  omega
theorem gt_set {p : PBytes} (hp : p.length = 512) (l x a m : Nat) (ha : a + m ≤ 18) : gt (setP p l x) a m = gt p a m := by
  unfold setP
  rw [gt_pt_apart _ _ _ _ _ _ (by rw [pt_length _ _ _ _ (by omega)]; omega) (by omega), gt_pt_apart _ _ _ _ _ _ (by omega) (by omega)]

open Classical in
/-- what is wrong with a page that was read -/
noncomputable def checkP (p : PBytes) : Int := if p = zer 512 then 0 else if ¬ GoodP p then 4 else if gt p 0 4 ≠ (crcOf (p.drop 4)).toNat then 8 else 0

theorem seal_drop {p : PBytes} (hp : p.length = 512) (n : Nat) : (sealP p n).drop 4 = (lsnP p n).drop 4 := by
  have hl : (lsnP p n).length = 512 := by unfold lsnP; rw [pt_length _ _ _ _ (by omega), hp]
  unfold sealP pt
  exact putAt_drop_after _ _ _ _ (by rw [leBytes_length]; omega) (by rw [leBytes_length]; omega)
theorem seal_sum {p : PBytes} (hp : p.length = 512) (n : Nat) : gt (sealP p n) 0 4 = (crcOf ((sealP p n).drop 4)).toNat := by
  have hl : (lsnP p n).length = 512 := by unfold lsnP; rw [pt_length _ _ _ _ (by omega), hp]
  rw [seal_drop hp]
  unfold sealP
  rw [gt_pt_same _ _ _ _ (by omega)]
  have := (crcOf ((lsnP p n).drop 4)).isLt
  omega
theorem check_seal {p : PBytes} (hg : GoodP p) (n : Nat) : checkP (sealP p n) = 0 := by
  have h1 := (seal_same hg.len n).good hg
  have h2 := seal_sum hg.len n
  unfold checkP
  by_cases hz : sealP p n = zer 512
  · rw [if_pos hz]
  · rw [if_neg hz, if_neg (by simpa using h1), if_neg (by simpa using h2)]

theorem win_set (l : PBytes) (i : Nat) (b : UInt8) (a n : Nat) (h : i < a ∨ a + n ≤ i) : win (l.set i b) a n = win l a n := by
  apply List.ext_getElem?
  intro j
  unfold win
  rw [List.getElem?_take, List.getElem?_take]
  split
  · rw [List.getElem?_drop, List.getElem?_drop, List.getElem?_set, if_neg (by omega)]
  · rfl
theorem bitAt_drop (l : PBytes) (j : Nat) : bitAt (l.drop 4) j = bitAt l (j + 32) := by
  unfold bitAt
  rw [List.getD_eq_getElem?_getD, List.getD_eq_getElem?_getD, List.getElem?_drop, show (j + 32) / 8 = 4 + j / 8 by omega, show (j + 32) % 8 = j % 8 by omega]
theorem bitAt_zer (n j : Nat) : bitAt (zer n) j = false := by
  unfold bitAt zer
  have : (List.replicate n (0 : UInt8)).getD (j / 8) 0 = 0 := by
    rw [List.getD_eq_getElem?_getD, List.getElem?_replicate]
    split <;> rfl
  rw [this]
  simp

/-- the sums of pages of which one bit of low alone is set -/
theorem low_sums : ∀ k, k < 16 → (crcOf ((flipBit (zer 512) (128 + k)).drop 4)).toNat ≠ 0 := by
  intro k hk
  apply crc_ne_zero
  revert k
  decide +kernel

theorem check_flip {p : PBytes} (hg : GoodP p) (n k : Nat) (hk : k < 4096) : checkP (flipBit (sealP p n) k) ≠ 0 := by
  have hgq := (seal_same hg.len n).good hg
  have hsum := seal_sum hg.len n
  obtain ⟨q, hq⟩ : ∃ q, sealP p n = q := ⟨_, rfl⟩
  rw [hq] at hgq hsum ⊢
  have hql := hgq.len
  have hbit := fun i => bitAt_flipBit q k i (by rw [hql]; exact hk)
  have hne : flipBit q k ≠ q := by
    intro he
    have := hbit k
    rw [he] at this
    simp at this
  unfold checkP
  by_cases hz : flipBit q k = zer 512
  · exfalso
    have hqe : q = flipBit (zer 512) k := by
      refine eq_of_bitAt (by rw [flipBit_length, hql, zer_length]) (fun j _ => ?_)
      have h1 := hbit j
      rw [hz, bitAt_zer] at h1
      rw [bitAt_flipBit _ _ _ (by rw [zer_length]; exact hk), bitAt_zer]
      cases hb : bitAt q j <;> simp_all
    have hlow : 26 ≤ lowP q := by have := hgq.fit; omega
    by_cases hr : 128 ≤ k ∧ k < 144
    · obtain ⟨r, hr2⟩ : ∃ r, k = 128 + r := ⟨k - 128, by omega⟩
      have h1 := low_sums r (by omega)
      rw [← hr2, ← hqe, ← hsum] at h1
      apply h1
      rw [hqe]
      have h2 : win (flipBit (zer 512) k) 0 4 = win (zer 512) 0 4 := win_set _ _ _ _ _ (by omega)
      rw [gt_of_win h2]
      decide +kernel
    · have h2 : win (flipBit (zer 512) k) 16 2 = win (zer 512) 16 2 := win_set _ _ _ _ _ (by omega)
      have h3 : lowP q = gt (zer 512) 16 2 := by rw [hqe]; exact gt_of_win h2
      have h4 : gt (zer 512) 16 2 = 0 := by decide +kernel
      omega
  · rw [if_neg hz]
    by_cases hg2 : GoodP (flipBit q k)
    · rw [if_neg (by simpa using hg2)]
      by_cases hs : gt (flipBit q k) 0 4 = (crcOf ((flipBit q k).drop 4)).toNat
      · exfalso
        apply hne
        by_cases hk32 : k < 32
        · have hd : (flipBit q k).drop 4 = q.drop 4 := by
            apply List.ext_getElem?
            intro j
            unfold flipBit
            rw [List.getElem?_drop, List.getElem?_drop, List.getElem?_set, if_neg (by omega)]
          rw [hd, ← hsum] at hs
          have hw : win (flipBit q k) 0 4 = win q 0 4 := by
            have h1 := leBytes_leNat (win (flipBit q k) 0 4)
            have h2 := leBytes_leNat (win q 0 4)
            rw [win_length _ _ _ (by rw [flipBit_length]; omega)] at h1
            rw [win_length _ _ _ (by omega)] at h2
            rw [← h1, ← h2]
            exact congrArg _ hs
          have e : ∀ l : PBytes, l = win l 0 4 ++ l.drop 4 := fun l => by unfold win; rw [List.drop_zero, List.take_append_drop]
          rw [e (flipBit q k), hw, hd, ← e]
        · have hw : win (flipBit q k) 0 4 = win q 0 4 := win_set _ _ _ _ _ (by omega)
          rw [gt_of_win hw, hsum] at hs
          have hcrc : crcOf (q.drop 4) = crcOf ((flipBit q k).drop 4) := BitVec.eq_of_toNat_eq hs
          have hd := (crcOf_window (a := q.drop 4) (b := (flipBit q k).drop 4) (by rw [List.length_drop, List.length_drop, flipBit_length]) (k - 32) (fun j hj => by
            rw [bitAt_drop, bitAt_drop, hbit]
            have : decide (j + 32 = k) = false := by simp; omega
            rw [this]; simp)).1 hcrc
          have e : ∀ l : PBytes, l = win l 0 4 ++ l.drop 4 := fun l => by unfold win; rw [List.drop_zero, List.take_append_drop]
          rw [e (flipBit q k), hw, ← hd, ← e]
      · rw [if_pos hs]
        decide
    · rw [if_pos hg2]
      decide

theorem new_len (k : Nat) : (newP k).length = 512 := by
  unfold newP
  rw [pt_length _ _ _ _ (by rw [List.length_set, zer_length]; decide), List.length_set, zer_length]
theorem new_cnt (k : Nat) : cnt (newP k) = 0 := by
  have h : win (newP k) 14 2 = win (zer 512) 14 2 := by
    unfold newP
    rw [win_pt _ _ _ _ _ _ (by rw [List.length_set, zer_length]; decide) (by omega), win_set _ _ _ _ _ (by omega)]
  show gt _ 14 2 = 0
  rw [gt_of_win h]
  decide +kernel
theorem new_low (k : Nat) : lowP (newP k) = 512 := by
  show gt (newP k) 16 2 = 512
  unfold newP
  rw [gt_pt2 _ _ _ (by rw [List.length_set, zer_length]; decide) (by decide)]
theorem new_good (k : Nat) : GoodP (newP k) := by
  refine ⟨new_len k, ?_, by rw [new_cnt, new_low]; decide, by rw [new_low]; decide, fun i hi => by rw [new_cnt] at hi; omega, fun a b _ hb => by rw [new_cnt] at hb; omega⟩
  have h : win (newP k) 13 1 = win (zer 512) 13 1 := by
    unfold newP
    rw [win_pt _ _ _ _ _ _ (by rw [List.length_set, zer_length]; decide) (by omega), win_set _ _ _ _ _ (by omega)]
  rw [win_get, h, ← win_get]
  decide +kernel
theorem new_free (k : Nat) : freeP (newP k) = 486 := by
  unfold freeP
  rw [new_cnt]
  rfl
end Mun
