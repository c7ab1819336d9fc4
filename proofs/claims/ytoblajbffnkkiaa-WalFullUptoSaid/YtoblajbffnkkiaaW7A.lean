/- Contracts of the reference of chapter 7: digits, chunks, whether a record is good. -/
import Derived.Test.YtoblajbffnkkiaaRecD
set_option maxRecDepth 100000
set_option linter.unusedVariables false
set_option linter.unusedSimpArgs false
namespace Mun
open Go Go.RowKit
open Go.Proofs

theorem and127_64 (k : Nat) (h : k < 18446744073709551616) : bits .and .u64 (k : Int) 127 = ((k % 128 : Nat) : Int) := by
  have h1 := u64_and_nat k 127 h (by omega)
  rw [show ((127 : Nat) : Int) = 127 from rfl] at h1
  rw [h1, show (127 : Nat) = 2 ^ 7 - 1 from rfl, Nat.and_two_pow_sub_one_eq_mod]
theorem or128y (y : Nat) (h : y < 128) : bits .or .u8 (y : Int) 128 = ((UInt8.ofNat (y + 128)).toNat : Int) := by
  have key : ∀ a : Nat, a < 128 → bits .or .u8 (a : Int) 128 = ((a + 128 : Nat) : Int) := by decide +kernel
  rw [key y h, UInt8.toNat_ofNat']
  omega

set_option maxHeartbeats 400000 in
/-- a number's digits behind a row of the call's own -/
theorem r7varint (w : World) (base : Nat) (v : Value) (xs : List UInt8) (N : Nat) (hN : N < 18446744073709551616) (ho : OwnB w base 5 v xs) (hbase : base ≤ w.heap.size) (hx : xs.length ≤ 140737488355000) :
    Calls Try.prog 69 #[v, .int .u64 N] w (BO w base v (xs ++ vi N)) := by
  go_enter Try.func69, Try.ntmps69
  go_wp2
  go_loopw [0, 1] (fun u n wr => ∃ (k : Nat) (ys : List UInt8), n = .int .u64 k ∧ k ≤ N ∧ ys ++ vi k = xs ++ vi N ∧ OwnB wr base 5 u ys ∧ Chg (bf v) (bf u) w wr) (fun _ n _ => (intOf n).toNat)
  case atStart => exact ⟨N, xs, rfl, Nat.le_refl _, rfl, ho, Chg.refl _ _⟩
  case round =>
    obtain ⟨k, ys, rfl, hk, he, hown, hc⟩ := hrel
    have hys : ys.length ≤ 140737488355100 := by
      have h1 := congrArg List.length he
      have h2 := vi_length64 N hN
      simp only [List.length_append] at h1
      omega
    have hB : base ≤ wr.heap.size := by have := hc.size; omega
    have t0 : (0 : Int) ≤ (k : Int) := by omega
    have t1 : (k : Int) ≤ 18446744073709551615 := by omega
    by_cases hlt : (k : Int) < 128
    · obtain ⟨g, cap, w', hr, h1, h2, h3, h4, h5⟩ := append_byte (ty := 23) (UInt8.ofNat k) (k : Int) (by rw [UInt8.toNat_ofNat']; omega) hown (by omega) hB
      have hC := hc.trans (chg_byte h2 h5 h1.ownlt.2)
      have HL : Hid (ys.length + 1 = (xs ++ vi N).length) := by rw [← he, vi_lt (by omega), List.length_append]; rfl
      have HO : Hid (OwnB w' base 5 (.slice (some ⟨g, 0, none⟩) (ys.length + 1) cap) (xs ++ vi N)) := by rw [← he, vi_lt (by omega)]; exact h1
      have HR := Lib.hid hr
      clear h1 h2 h4 h5 hr hown hc ho he
      go_wp2_with (at_builtin; refine wpList_append_eq rfl rfl HR.out rfl rfl ?_)
      go_ret
      exact ⟨_, _, _, rfl, HL, HO.out, hC, h3⟩
    · have hand := and127_64 k (by omega)
      obtain ⟨y, hy⟩ : ∃ y, k % 128 = y := ⟨_, rfl⟩
      have hb := or128y y (by omega)
      rw [hy] at hand
      have y0 : (0 : Int) ≤ (y : Int) := by omega
      have y1 : (y : Int) < 128 := by omega
      obtain ⟨g, cap, w', hr, h1, h2, h3, h4, h5⟩ := append_byte (ty := 23) (UInt8.ofNat (y + 128)) (bits .or .u8 (y : Int) 128) hb hown (by omega) hB
      have hC := hc.trans (chg_byte h2 h5 h1.ownlt.2)
      have HR := Lib.hid hr
      have HE : Hid ((ys ++ [UInt8.ofNat (y + 128)]) ++ vi (k / 128) = xs ++ vi N) := by rw [← he, vi_ge (n := k) (by omega), hy, List.append_assoc]; rfl
      have HO := Lib.hid h1
      clear h1 h2 h4 h5 hr hown hc ho he hb hy
      go_wp2_with (at_builtin; refine wpList_append_eq rfl rfl HR.out rfl rfl ?_)
      go_roundw
      case rel => exact ⟨k / 128, _, by go_num, by omega, HE.out, HO.out, by rw [← B1_bf]; exact hC⟩
      case measure => simp [intOf]; omega
set_option maxHeartbeats 400000 in
/-- a chunk behind a row of the call's own -/
theorem r7chunk {F : Foot} (w : World) (base : Nat) (v : Value) (xs : List UInt8) (s : Value) (b : List UInt8) (hb : b.length ≤ 140737488355000) (ho : OwnB w base 5 v xs) (hbase : base ≤ w.heap.size) (hx : xs.length + b.length ≤ 140737488350000)
    (hs : RdB F w s b) (hF : ∀ k, base ≤ k → F k) :
    Calls Try.prog 68 #[v, s] w (BO w base v (xs ++ txt b)) := by
  obtain ⟨a, n, c, rfl, HN, hnc, hcm⟩ := hs.formN
  have hv := r7varint w base v xs n (by rw [HN.out]; omega) ho hbase (by omega)
  have hs2 : ∀ (w1 : World) (g : Nat), Chg (bf v) (B1 g) w w1 → base ≤ g → RdB (B1 g) w1 (.slice a n c) b := fun w1 g hc hg =>
    RdB.chg (RdV.mono hs (fun k hk hb => hF k (ownB_from ho k hb))) hc
  have HS := Lib.hid hs2
  have hn : (n : Int) ≤ 9223372036854775807 := by unfold maxLen at hcm; omega
  have h10 := vi_length64 n (by rw [HN.out]; omega)
  have hxb : xs.length + n ≤ 140737488350000 := by rw [HN.out]; exact hx
  clear hs2 hs ho hF hx hcm hnc hb
  go_enter Try.func68, Try.ntmps68
  go_wp2_with fail
  refine hv.mono ?_
  rintro e w1 ⟨g, m, cp, rfl, HM, hown, hc1, hg⟩
  have hs1 := HS.out w1 g hc1 hg
  have hml : m = (xs ++ vi n).length := HM.out
  obtain ⟨v2, w2, hr, h1, h2, h3, h4⟩ := append_bytes (ty := 23) hown hs1 (by rw [← HN.out]; simp only [List.length_append]; omega) (by have := hc1.size; omega)
  have hp : 0 < ((xs ++ vi n) ++ b).length := by have := vi_pos n; simp only [List.length_append]; omega
  obtain ⟨g2, cp2, rfl, hg2, hlt2, _⟩ := h1.at_ hp
  have hor : (Value.slice (some ⟨g, 0, none⟩) m cp).ownBlock = some g2 ∨ w1.heap.size ≤ g2 := by
    rcases h3 with h3 | h3
    · exact .inl h3.symm
    · simp only [Value.ownBlock, Option.some.injEq] at h3; exact .inr (by omega)
  have hC := hc1.trans (by rw [B1_bf g m cp]; exact chg_rows h2 hor hlt2)
  have HL : Hid (((xs ++ vi n) ++ b).length = (xs ++ txt b).length) := by unfold txt; rw [← HN.out, List.append_assoc]; rfl
  generalize ((xs ++ vi n) ++ b).length = m2 at h1 hr HL
  have HO : Hid (OwnB w2 base 5 (.slice (some ⟨g2, 0, none⟩) m2 cp2) (xs ++ txt b)) := by
    unfold txt
    rw [← HN.out, ← List.append_assoc]; exact h1
  have HR := Lib.hid hr
  clear h1 h2 h3 h4 hr hown hc1 hs1 hml hor
  go_wp2_with (at_builtin; refine wpList_append_eq rfl rfl HR.out rfl rfl ?_)
  go_ret
  exact ⟨_, _, _, rfl, HL, HO.out, hC, hg2⟩

end Mun
