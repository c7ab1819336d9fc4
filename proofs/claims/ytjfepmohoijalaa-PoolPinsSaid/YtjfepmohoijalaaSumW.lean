/- Contracts of the functions of sum and munimentref1. -/
import Derived.Test.YtjfepmohoijalaaBase
import Derived.Test.YtjfepmohoijalaaCrc
import Derived.Test.YtjfepmohoijalaaNum
set_option maxRecDepth 100000
set_option linter.unusedVariables false
namespace Mun
open Go Go.RowKit
open Go.Proofs

theorem ret_int {k : IntKind} {a b : Int} (h : a = b) : Ending.returned (.int k a) = .returned (.int k b) := by rw [h]

theorem wrap_u64_nat (n : Nat) (h : n < 18446744073709551616) : IntKind.u64.wrap (n : Int) = (n : Int) := by
  have := IntKind.wrap_u64 (n : Int)
  rw [this]; omega

theorem word_step (a b : Nat) (k : Nat) (hk : k < 8) (ha : a < 2 ^ (8 * k)) (hb : b < 256) :
    bits .or .u64 (a : Int) (IntKind.u64.wrap (IntKind.u64.wrap (b : Int) * 2 ^ (8 * k))) = ((a + 2 ^ (8 * k) * b : Nat) : Int) := by
  have h1 : 2 ^ (8 * k) ≤ 2 ^ 56 := Nat.pow_le_pow_right (by omega) (by omega)
  have h2 : b * 2 ^ (8 * k) < 18446744073709551616 := by
    have : b * 2 ^ (8 * k) ≤ 255 * 2 ^ 56 := Nat.mul_le_mul (by omega) h1
    omega
  rw [wrap_u64_nat b (by omega)]
  have e : ((b : Int) * 2 ^ (8 * k)) = ((b * 2 ^ (8 * k) : Nat) : Int) := by push_cast; rfl
  rw [e, wrap_u64_nat _ h2, u64_or_nat a _ (by omega) h2, or_shift _ _ _ ha, Nat.mul_comm b]

set_option maxHeartbeats 400000 in
theorem word_any {F : Foot} (w : World) (v : Value) (l : List UInt8) (hv : RdB F w v l) (h8 : l.length ≤ 8) :
    Calls Try.prog 29 #[v] w fun e w' => e = .returned (.int .u64 (leNat l)) ∧ w = w' := by
  obtain ⟨a, c, rfl, hlc, hcm⟩ := hv.form
  have hm : (l.length : Int) ≤ 8 := by omega
  go_enter Try.func29, Try.ntmps29
  go_wp2
  go_loop [3, 8] (fun n i => ∃ k : Nat, k ≤ l.length ∧ i = .int .i64 k ∧ n = .int .u64 (leNat (l.take k))) (fun _ i => l.length - (intOf i).toNat)
  case atStart => exact ⟨0, Nat.zero_le _, rfl, rfl⟩
  case round =>
    obtain ⟨k, hk, rfl, rfl⟩ := hrel
    by_cases hlt : k < l.length
    · obtain ⟨g, off, c', hv', h1, h2, h3, h4, h5⟩ := hv.at_ (by omega)
      injection hv' with e1 e2 e3
      subst e1 e3
      have hck := h5 k hlt
      clear h5 h1 h2 h4
      go_wp2
      go_round
      case rel =>
        refine ⟨k + 1, by omega, by go_num, ?_⟩
        rw [take_snoc l k hlt, leNat_snoc]
        have hl : (l.take k).length = k := by simp; omega
        rw [hl, word_step _ _ k (by omega) _ (l[k].toNat_lt)]
        have := leNat_lt (l.take k)
        rw [hl, show (256 : Nat) = 2 ^ 8 from rfl, ← Nat.pow_mul] at this
        exact this
      case measure => simp [intOf]; omega
    · go_wp2
      go_ret
      exact ⟨ret_int (by rw [List.take_of_length_le (by omega)]), rfl⟩

theorem xor_u32 (a b : BitVec 32) : bits .xor .u32 (a.toNat : Int) (b.toNat : Int) = ((a ^^^ b).toNat : Int) := by
  rw [u32_xor_nat _ _ a.isLt b.isLt, BitVec.toNat_xor]


theorem xor_u32_byte (a : BitVec 32) (b : UInt8) : bits .xor .u32 (a.toNat : Int) (b.toNat : Int) = ((a ^^^ b.toBitVec.setWidth 32).toNat : Int) := by
  have h : (b.toBitVec.setWidth 32).toNat = b.toNat := by
    rw [BitVec.toNat_setWidth]
    have := b.toNat_lt
    show b.toNat % 2 ^ 32 = b.toNat
    omega
  rw [← xor_u32, h]

theorem and1_u32 (x : BitVec 32) : bits .and .u32 (x.toNat : Int) 1 = (x.toNat : Int) % 2 := by
  rw [show (1 : Int) = ((1 : Nat) : Int) from rfl, u32_and_nat _ _ x.isLt (by omega), Nat.and_one_is_mod]; rfl

theorem crcIter_even (j : Nat) (x : BitVec 32) (h : (bits .and .u32 ((crcIter j x).toNat : Int) 1 == 1) = false) : ((crcIter j x).toNat : Int) / 2 = ((crcIter (j + 1) x).toNat : Int) := by
  rw [crcIter_succ']
  generalize crcIter j x = r at h ⊢
  rw [and1_u32] at h
  have h0 : r.getLsbD 0 = false := by
    rw [BitVec.getLsbD, Nat.testBit_zero]
    simp at h ⊢
    omega
  unfold crcBit
  rw [h0]
  simp [Nat.shiftRight_eq_div_pow]

theorem crcIter_odd (j : Nat) (x : BitVec 32) (h : (bits .and .u32 ((crcIter j x).toNat : Int) 1 == 1) = true) : bits .xor .u32 (((crcIter j x).toNat : Int) / 2) 3988292384 = ((crcIter (j + 1) x).toNat : Int) := by
  rw [crcIter_succ']
  generalize crcIter j x = r at h ⊢
  rw [and1_u32] at h
  have h0 : r.getLsbD 0 = true := by
    rw [BitVec.getLsbD, Nat.testBit_zero]
    simp at h ⊢
    omega
  unfold crcBit
  rw [h0, if_pos rfl, ← xor_u32]
  simp [Nat.shiftRight_eq_div_pow]

set_option maxHeartbeats 400000 in
theorem more_any {F : Foot} (w : World) (z : Int) (s : BitVec 32) (v : Value) (l : List UInt8) (hz : z = s.toNat) (hv : RdB F w v l) :
    Calls Try.prog 53 #[.int .u32 z, v] w fun e w' => e = .returned (.int .u32 ((crcMore s l).toNat)) ∧ w = w' := by
  obtain ⟨a, c, rfl, hlc, hcm⟩ := hv.form
  have hm : (l.length : Int) ≤ 9223372036854775807 := by unfold maxLen at hcm; omega
  have H0 : Hid (bits .xor .u32 z 4294967295 = ((s ^^^ 0xffffffff#32).toNat : Int)) := by rw [hz]; exact xor_u32 s 0xffffffff#32
  clear hz hcm hlc
  go_enter Try.func53, Try.ntmps53
  go_wp2
  go_loop [5, 12] (fun r i => ∃ k : Nat, k ≤ l.length ∧ i = .int .i64 k ∧ r = .int .u32 ((crcReg (s ^^^ 0xffffffff#32) (l.take k)).toNat)) (fun _ i => l.length - (intOf i).toNat)
  case atStart => exact ⟨0, Nat.zero_le _, rfl, by rw [H0.out]; rfl⟩
  case round =>
    obtain ⟨k, hk, rfl, rfl⟩ := hrel
    by_cases hlt : k < l.length
    · obtain ⟨g, off, c', hv', h1, h2, h3, h4, h5⟩ := hv.at_ (by omega)
      injection hv' with e1 e2 e3
      subst e1 e3
      have hck := h5 k hlt
      have hb : (l[k].toNat : Int) < 256 := by have := l[k].toNat_lt; omega
      have Hs : Hid (crcReg (s ^^^ 0xffffffff#32) (l.take (k + 1)) = crcIter 8 (crcReg (s ^^^ 0xffffffff#32) (l.take k) ^^^ l[k].toBitVec.setWidth 32)) := by
        rw [take_snoc l k hlt, crcReg_append]; rfl
      clear h5 h1 h2 h4
      generalize crcReg (s ^^^ 0xffffffff#32) (l.take k) = r at Hs
      have Hx := Lib.hid (xor_u32_byte r l[k])
      go_wp2
      go_loop [5, 20] (fun q i => ∃ j : Nat, j ≤ 8 ∧ i = .int .i64 j ∧ q = .int .u32 ((crcIter j (r ^^^ l[k].toBitVec.setWidth 32)).toNat)) (fun _ i => 8 - (intOf i).toNat)
      case atStart => exact ⟨0, Nat.zero_le _, rfl, by rw [Hx.out]; rfl⟩
      case round =>
        obtain ⟨j, hj, rfl, rfl⟩ := hrel
        by_cases hj8 : j < 8
        · have Ho1 := Lib.hid (crcIter_odd j (r ^^^ l[k].toBitVec.setWidth 32))
          have Ho2 := Lib.hid (crcIter_even j (r ^^^ l[k].toBitVec.setWidth 32))
          generalize (crcIter j (r ^^^ l[k].toBitVec.setWidth 32)).toNat = q at Ho1 Ho2
          by_cases hodd : (bits .and .u32 (q : Int) 1 == 1) = true
          · have Ho := Lib.hid (Ho1.out hodd)
            go_wp2
            go_round
            case rel => exact ⟨j + 1, by omega, by go_num, by rw [Ho.out]⟩
            case measure => simp [intOf]; omega
          · simp only [Bool.not_eq_true] at hodd
            have Ho := Lib.hid (Ho2.out hodd)
            go_wp2
            go_round
            case rel => exact ⟨j + 1, by omega, by go_num, by rw [Ho.out]⟩
            case measure => simp [intOf]; omega
        · obtain rfl : j = 8 := by omega
          go_wp2
          go_round
          case rel => exact ⟨k + 1, by omega, by go_num, by rw [Hs.out]⟩
          case measure => simp [intOf]; omega
    · obtain rfl : k = l.length := by omega
      have Hf := Lib.hid (xor_u32 (crcReg (s ^^^ 0xffffffff#32) (l.take l.length)) 0xffffffff#32)
      go_wp2
      go_ret
      refine ⟨ret_int ?_, rfl⟩
      have := Hf.out
      simp only [List.take_length] at this ⊢
      exact this
end Mun
