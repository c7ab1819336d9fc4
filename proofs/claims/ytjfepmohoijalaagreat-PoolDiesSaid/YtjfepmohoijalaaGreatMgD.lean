/- Texts of mine, one behind the other: Crc, Num, SumW, P1, PageM, P2, P3, P4. -/
import Derived.Test.YtjfepmohoijalaaGreatMgA
import Derived.Deep.RegionHeld
import Derived.Deep.RegionHeld3
import Derived.Laws.CopyRow
import Derived.Deep.RegionHeldLaw
import Derived.StillTailTactics
import Derived.Lib.SliceRun
section
/- Plain mathematics of the checksum: a register of 32 bits, pushed by one bit, by a byte, by a row of bytes. No program in sight. -/
namespace Mun

/-- the register is pushed by one bit 0 -/
def crcBit (r : BitVec 32) : BitVec 32 := if r.getLsbD 0 then (r >>> 1) ^^^ 0xEDB88320#32 else r >>> 1

def crcIter : Nat → BitVec 32 → BitVec 32
  | 0, r => r
  | n + 1, r => crcIter n (crcBit r)

def crcByte (r : BitVec 32) (b : UInt8) : BitVec 32 := crcIter 8 (r ^^^ b.toBitVec.setWidth 32)

def crcReg (r : BitVec 32) (l : List UInt8) : BitVec 32 := l.foldl crcByte r

def crcMore (s : BitVec 32) (l : List UInt8) : BitVec 32 := crcReg (s ^^^ 0xffffffff#32) l ^^^ 0xffffffff#32

def crcOf (l : List UInt8) : BitVec 32 := crcMore 0#32 l

theorem crcIter_succ' (n : Nat) (r : BitVec 32) : crcIter (n + 1) r = crcBit (crcIter n r) := by
  induction n generalizing r with
  | zero => rfl
  | succ n ih => rw [crcIter, ih]; rfl

/-- a row of bits, one behind the other -/
def crcBits (r : BitVec 32) (l : List Bool) : BitVec 32 := l.foldl (fun r b => crcBit (r ^^^ (if b then 1#32 else 0#32))) r

/-- bits packed, the first the lowest -/
def packBits : List Bool → BitVec 32
  | [] => 0#32
  | b :: l => (packBits l <<< 1) ^^^ (if b then 1#32 else 0#32)

/-- the bits of a byte, the lowest first -/
def byteBits (b : UInt8) : List Bool := (List.range 8).map fun i => b.toBitVec.getLsbD i

def bitsOf (l : List UInt8) : List Bool := l.flatMap byteBits

/-- the bit number j of a row of bytes -/
def bitAt (l : List UInt8) (j : Nat) : Bool := (l.getD (j / 8) 0).toBitVec.getLsbD (j % 8)

theorem crcReg_append (r : BitVec 32) (a b : List UInt8) : crcReg r (a ++ b) = crcReg (crcReg r a) b := by simp [crcReg]

theorem crcMore_append (s : BitVec 32) (a b : List UInt8) : crcMore s (a ++ b) = crcMore (crcMore s a) b := by
  unfold crcMore
  rw [crcReg_append, BitVec.xor_assoc, BitVec.xor_self, BitVec.xor_zero]

end Mun
end

section
/- Plain mathematics of numbers as bytes, the lowest first. -/
namespace Mun

/-- the number of a row of bytes, the lowest first -/
def leNat : List UInt8 → Nat
  | [] => 0
  | b :: r => b.toNat + 256 * leNat r

/-- so many bytes of a number, the lowest first -/
def leBytes : Nat → Nat → List UInt8
  | 0, _ => []
  | k + 1, n => UInt8.ofNat n :: leBytes k (n / 256)

theorem leBytes_length (k n : Nat) : (leBytes k n).length = k := by
  induction k generalizing n with
  | zero => rfl
  | succ k ih => simp [leBytes, ih]

theorem leNat_lt (l : List UInt8) : leNat l < 256 ^ l.length := by
  induction l with
  | nil => simp [leNat]
  | cons b r ih =>
    have hb := b.toNat_lt
    simp only [leNat, List.length_cons, Nat.pow_succ]
    omega

theorem leNat_append (a b : List UInt8) : leNat (a ++ b) = leNat a + 256 ^ a.length * leNat b := by
  induction a with
  | nil => simp [leNat]
  | cons x a ih =>
    simp only [List.cons_append, leNat, ih, List.length_cons, Nat.pow_succ]
    rw [Nat.mul_add, ← Nat.add_assoc, Nat.mul_comm (256 ^ a.length) 256, Nat.mul_assoc]

theorem leNat_leBytes (k n : Nat) : leNat (leBytes k n) = n % 256 ^ k := by
  induction k generalizing n with
  | zero => simp [leBytes, leNat, Nat.mod_one]
  | succ k ih =>
    simp only [leBytes, leNat, ih, UInt8.toNat_ofNat']
    rw [show 256 ^ (k + 1) = 256 * 256 ^ k by rw [Nat.pow_succ, Nat.mul_comm], Nat.mod_mul]

theorem leBytes_snoc (k n : Nat) : leBytes (k + 1) n = leBytes k n ++ [UInt8.ofNat (n / 256 ^ k)] := by
  induction k generalizing n with
  | zero => simp [leBytes]
  | succ k ih =>
    rw [leBytes, ih (n / 256)]
    simp only [leBytes, List.cons_append]
    rw [Nat.div_div_eq_div_mul, Nat.pow_succ, Nat.mul_comm (256 ^ k)]

/-- or of what lies below and what lies above -/
theorem or_shift (a b k : Nat) (h : a < 2 ^ k) : a ||| b * 2 ^ k = a + b * 2 ^ k := by
  rw [Nat.mul_comm, Nat.or_comm, ← Nat.two_pow_add_eq_or_of_lt h, Nat.add_comm]

theorem leNat_snoc (l : List UInt8) (b : UInt8) : leNat (l ++ [b]) = leNat l + 2 ^ (8 * l.length) * b.toNat := by
  rw [leNat_append, show (256 : Nat) = 2 ^ 8 from rfl, ← Nat.pow_mul]
  simp [leNat]

theorem take_snoc {α : Type} (l : List α) (k : Nat) (h : k < l.length) : l.take (k + 1) = l.take k ++ [l[k]] := by
  rw [List.take_succ_eq_append_getElem h]


theorem byte_cast (n k : Nat) : ((n : Int) / 2 ^ (8 * k) % 256) = ((UInt8.ofNat (n / 256 ^ k)).toNat : Int) := by
  have h : (256 : Nat) ^ k = 2 ^ (8 * k) := by rw [Nat.pow_mul]
  rw [UInt8.toNat_ofNat', h]
  generalize hp : (2 : Nat) ^ (8 * k) = p
  have hp' : (2 : Int) ^ (8 * k) = (p : Int) := by rw [← hp]; push_cast; rfl
  rw [hp']
  omega


/-- bytes laid over others -/
def putAt (l : List UInt8) (A : Nat) (bs : List UInt8) : List UInt8 := l.take A ++ (bs ++ l.drop (A + bs.length))

theorem putAt_length (l : List UInt8) (A : Nat) (bs : List UInt8) (h : A + bs.length ≤ l.length) : (putAt l A bs).length = l.length := by
  simp only [putAt, List.length_append, List.length_take, List.length_drop]; omega

theorem putAt_nil (l : List UInt8) (A : Nat) : putAt l A [] = l := by simp [putAt]

theorem putAt_getElem? (l : List UInt8) (A : Nat) (bs : List UInt8) (h : A + bs.length ≤ l.length) (i : Nat) :
    (putAt l A bs)[i]? = if A ≤ i ∧ i < A + bs.length then bs[i - A]? else l[i]? := by
  have hA : (l.take A).length = A := by rw [List.length_take]; omega
  by_cases h1 : i < A
  · rw [if_neg (by omega), putAt, List.getElem?_append_left (by omega), List.getElem?_take_of_lt h1]
  · rw [putAt, List.getElem?_append_right (by omega), hA]
    by_cases h2 : i < A + bs.length
    · rw [if_pos (by omega), List.getElem?_append_left (by omega)]
    · rw [if_neg (by omega), List.getElem?_append_right (by omega), List.getElem?_drop]
      congr 1
      omega

theorem putAt_take_drop (l : List UInt8) (A : Nat) (bs : List UInt8) (h : A + bs.length ≤ l.length) : ((putAt l A bs).drop A).take bs.length = bs := by
  have hA : (l.take A).length = A := by rw [List.length_take]; omega
  have e : (putAt l A bs).drop A = bs ++ l.drop (A + bs.length) := by
    have := List.drop_left (l₁ := l.take A) (l₂ := bs ++ l.drop (A + bs.length))
    rw [hA] at this
    exact this
  rw [e]
  exact List.take_left

end Mun
end

section
/- Contracts of the functions of sum and munimentref1. -/
set_option maxRecDepth 100000
set_option linter.unusedVariables false
namespace Mun
open Go Go.RowKit
open Go.Proofs

theorem ret_int {k : IntKind} {a b : Int} (h : a = b) : Ending.returned (.int k a) = .returned (.int k b) := by rw [h]

theorem wrap_u64_nat (n : Nat) (h : n < 18446744073709551616) : IntKind.u64.wrap (n : Int) = (n : Int) := by
  have := IntKind.wrap_u64 (n : Int)
  rw [this]; omega

theorem word_step (a b : Nat) (k : Nat) (hk : k < 8) (ha : a < 2 ^ (8 * k)) (hb : b < 256) :
    bits .or .u64 (a : Int) (IntKind.u64.wrap (IntKind.u64.wrap (b : Int) * 2 ^ (8 * k))) = ((a + 2 ^ (8 * k) * b : Nat) : Int) := by
  have h1 : 2 ^ (8 * k) ≤ 2 ^ 56 := Nat.pow_le_pow_right (by omega) (by omega)
  have h2 : b * 2 ^ (8 * k) < 18446744073709551616 := by
    have : b * 2 ^ (8 * k) ≤ 255 * 2 ^ 56 := Nat.mul_le_mul (by omega) h1
    omega
  rw [wrap_u64_nat b (by omega)]
  have e : ((b : Int) * 2 ^ (8 * k)) = ((b * 2 ^ (8 * k) : Nat) : Int) := by push_cast; rfl
  rw [e, wrap_u64_nat _ h2, u64_or_nat a _ (by omega) h2, or_shift _ _ _ ha, Nat.mul_comm b]

set_option maxHeartbeats 400000 in
theorem word_any {F : Foot} (w : World) (v : Value) (l : List UInt8) (hv : RdB F w v l) (h8 : l.length ≤ 8) :
    Calls Tryz.prog 69 #[v] w fun e w' => e = .returned (.int .u64 (leNat l)) ∧ w = w' := by
  obtain ⟨a, c, rfl, hlc, hcm⟩ := hv.form
  have hm : (l.length : Int) ≤ 8 := by omega
  go_enter Tryz.func69, Tryz.ntmps69
  go_wp2
  go_loop [3, 8] (fun n i => ∃ k : Nat, k ≤ l.length ∧ i = .int .i64 k ∧ n = .int .u64 (leNat (l.take k))) (fun _ i => l.length - (intOf i).toNat)
  case atStart => exact ⟨0, Nat.zero_le _, rfl, rfl⟩
  case round =>
    obtain ⟨k, hk, rfl, rfl⟩ := hrel
    by_cases hlt : k < l.length
    · obtain ⟨g, off, c', hv', h1, h2, h3, h4, h5⟩ := hv.at_ (by omega)
      injection hv' with e1 e2 e3
      subst e1 e3
      have hck := h5 k hlt
      clear h5 h1 h2 h4
      go_wp2
      go_round
      case rel =>
        refine ⟨k + 1, by omega, by go_num, ?_⟩
        rw [take_snoc l k hlt, leNat_snoc]
        have hl : (l.take k).length = k := by simp; omega
        rw [hl, word_step _ _ k (by omega) _ (l[k].toNat_lt)]
        have := leNat_lt (l.take k)
        rw [hl, show (256 : Nat) = 2 ^ 8 from rfl, ← Nat.pow_mul] at this
        exact this
      case measure => simp [intOf]; omega
    · go_wp2
      go_ret
      exact ⟨ret_int (by rw [List.take_of_length_le (by omega)]), rfl⟩

theorem xor_u32 (a b : BitVec 32) : bits .xor .u32 (a.toNat : Int) (b.toNat : Int) = ((a ^^^ b).toNat : Int) := by
  rw [u32_xor_nat _ _ a.isLt b.isLt, BitVec.toNat_xor]


theorem xor_u32_byte (a : BitVec 32) (b : UInt8) : bits .xor .u32 (a.toNat : Int) (b.toNat : Int) = ((a ^^^ b.toBitVec.setWidth 32).toNat : Int) := by
  have h : (b.toBitVec.setWidth 32).toNat = b.toNat := by
    rw [BitVec.toNat_setWidth]
    have := b.toNat_lt
    show b.toNat % 2 ^ 32 = b.toNat
    omega
  rw [← xor_u32, h]

theorem and1_u32 (x : BitVec 32) : bits .and .u32 (x.toNat : Int) 1 = (x.toNat : Int) % 2 := by
  rw [show (1 : Int) = ((1 : Nat) : Int) from rfl, u32_and_nat _ _ x.isLt (by omega), Nat.and_one_is_mod]; rfl

theorem crcIter_even (j : Nat) (x : BitVec 32) (h : (bits .and .u32 ((crcIter j x).toNat : Int) 1 == 1) = false) : ((crcIter j x).toNat : Int) / 2 = ((crcIter (j + 1) x).toNat : Int) := by
  rw [crcIter_succ']
  generalize crcIter j x = r at h ⊢
  rw [and1_u32] at h
  have h0 : r.getLsbD 0 = false := by
    rw [BitVec.getLsbD, Nat.testBit_zero]
    simp at h ⊢
    omega
  unfold crcBit
  rw [h0]
  simp [Nat.shiftRight_eq_div_pow]

theorem crcIter_odd (j : Nat) (x : BitVec 32) (h : (bits .and .u32 ((crcIter j x).toNat : Int) 1 == 1) = true) : bits .xor .u32 (((crcIter j x).toNat : Int) / 2) 3988292384 = ((crcIter (j + 1) x).toNat : Int) := by
  rw [crcIter_succ']
  generalize crcIter j x = r at h ⊢
  rw [and1_u32] at h
  have h0 : r.getLsbD 0 = true := by
    rw [BitVec.getLsbD, Nat.testBit_zero]
    simp at h ⊢
    omega
  unfold crcBit
  rw [h0, if_pos rfl, ← xor_u32]
  simp [Nat.shiftRight_eq_div_pow]

set_option maxHeartbeats 400000 in
theorem more_any {F : Foot} (w : World) (z : Int) (s : BitVec 32) (v : Value) (l : List UInt8) (hz : z = s.toNat) (hv : RdB F w v l) :
    Calls Tryz.prog 103 #[.int .u32 z, v] w fun e w' => e = .returned (.int .u32 ((crcMore s l).toNat)) ∧ w = w' := by
  obtain ⟨a, c, rfl, hlc, hcm⟩ := hv.form
  have hm : (l.length : Int) ≤ 9223372036854775807 := by unfold maxLen at hcm; omega
  have H0 : Hid (bits .xor .u32 z 4294967295 = ((s ^^^ 0xffffffff#32).toNat : Int)) := by rw [hz]; exact xor_u32 s 0xffffffff#32
  clear hz hcm hlc
  go_enter Tryz.func103, Tryz.ntmps103
  go_wp2
  go_loop [5, 12] (fun r i => ∃ k : Nat, k ≤ l.length ∧ i = .int .i64 k ∧ r = .int .u32 ((crcReg (s ^^^ 0xffffffff#32) (l.take k)).toNat)) (fun _ i => l.length - (intOf i).toNat)
  case atStart => exact ⟨0, Nat.zero_le _, rfl, by rw [H0.out]; rfl⟩
  case round =>
    obtain ⟨k, hk, rfl, rfl⟩ := hrel
    by_cases hlt : k < l.length
    · obtain ⟨g, off, c', hv', h1, h2, h3, h4, h5⟩ := hv.at_ (by omega)
      injection hv' with e1 e2 e3
      subst e1 e3
      have hck := h5 k hlt
      have hb : (l[k].toNat : Int) < 256 := by have := l[k].toNat_lt; omega
      have Hs : Hid (crcReg (s ^^^ 0xffffffff#32) (l.take (k + 1)) = crcIter 8 (crcReg (s ^^^ 0xffffffff#32) (l.take k) ^^^ l[k].toBitVec.setWidth 32)) := by
        rw [take_snoc l k hlt, crcReg_append]; rfl
      clear h5 h1 h2 h4
      generalize crcReg (s ^^^ 0xffffffff#32) (l.take k) = r at Hs
      have Hx := Lib.hid (xor_u32_byte r l[k])
      go_wp2
      go_loop [5, 20] (fun q i => ∃ j : Nat, j ≤ 8 ∧ i = .int .i64 j ∧ q = .int .u32 ((crcIter j (r ^^^ l[k].toBitVec.setWidth 32)).toNat)) (fun _ i => 8 - (intOf i).toNat)
      case atStart => exact ⟨0, Nat.zero_le _, rfl, by rw [Hx.out]; rfl⟩
      case round =>
        obtain ⟨j, hj, rfl, rfl⟩ := hrel
        by_cases hj8 : j < 8
        · have Ho1 := Lib.hid (crcIter_odd j (r ^^^ l[k].toBitVec.setWidth 32))
          have Ho2 := Lib.hid (crcIter_even j (r ^^^ l[k].toBitVec.setWidth 32))
          generalize (crcIter j (r ^^^ l[k].toBitVec.setWidth 32)).toNat = q at Ho1 Ho2
          by_cases hodd : (bits .and .u32 (q : Int) 1 == 1) = true
          · have Ho := Lib.hid (Ho1.out hodd)
            go_wp2
            go_round
            case rel => exact ⟨j + 1, by omega, by go_num, by rw [Ho.out]⟩
            case measure => simp [intOf]; omega
          · simp only [Bool.not_eq_true] at hodd
            have Ho := Lib.hid (Ho2.out hodd)
            go_wp2
            go_round
            case rel => exact ⟨j + 1, by omega, by go_num, by rw [Ho.out]⟩
            case measure => simp [intOf]; omega
        · obtain rfl : j = 8 := by omega
          go_wp2
          go_round
          case rel => exact ⟨k + 1, by omega, by go_num, by rw [Hs.out]⟩
          case measure => simp [intOf]; omega
    · obtain rfl : k = l.length := by omega
      have Hf := Lib.hid (xor_u32 (crcReg (s ^^^ 0xffffffff#32) (l.take l.length)) 0xffffffff#32)
      go_wp2
      go_ret
      refine ⟨ret_int ?_, rfl⟩
      have := Hf.out
      simp only [List.take_length] at this ⊢
      exact this
end Mun
end

section
/- Contracts of what pages need of sum and munimentref1. -/
set_option maxRecDepth 100000
set_option linter.unusedVariables false
namespace Mun
open Go Go.RowKit
open Go.Proofs

theorem of_any {F : Foot} (w : World) (v : Value) (l : List UInt8) (z : Int) (hz : ((crcOf l).toNat : Int) = z) (hv : RdB F w v l) :
    Calls Tryz.prog 85 #[v] w fun e w' => e = .returned (.int .u32 z) ∧ w = w' := by
  subst hz
  go_enter Tryz.func85, Tryz.ntmps85
  go_wp2_with (go_at_call 103; refine (more_any _ _ 0#32 _ l rfl hv).mono ?_; rintro e w' ⟨rfl, rfl⟩)
  go_ret
  exact ⟨rfl, rfl⟩

theorem refget_step (a : Nat) (b : UInt8) (k : Nat) (hk : k < 8) (ha : a < 256 ^ k) :
    bits .or .u64 (IntKind.u64.wrap ((a : Int) * 256)) (b.toNat : Int) = ((b.toNat + 256 * a : Nat) : Int) := by
  have h1 : 256 ^ k ≤ 256 ^ 7 := Nat.pow_le_pow_right (by omega) (by omega)
  have hb := b.toNat_lt
  have e : ((a : Int) * 256) = ((a * 2 ^ 8 : Nat) : Int) := by omega
  rw [e, wrap_u64_nat _ (by omega), u64_or_nat _ _ (by omega) (by omega), Nat.or_comm, or_shift _ _ 8 (by omega)]
  congr 1
  omega

theorem leNat_drop (l : List UInt8) (j : Nat) (h : j < l.length) : leNat (l.drop j) = l[j].toNat + 256 * leNat (l.drop (j + 1)) := by
  rw [List.drop_eq_getElem_cons h]; rfl

set_option maxHeartbeats 400000 in
theorem refget_any {F : Foot} (w : World) (v : Value) (l : List UInt8) (at_ sz : Int) (A K : Nat) (z : Int) (hA : at_ = A) (hK : sz = K) (hz : ((leNat ((l.drop A).take K) : Nat) : Int) = z) (hv : RdB F w v l) (hl : A + K ≤ l.length) (h8 : K ≤ 8) :
    Calls Tryz.prog 99 #[v, .int .i64 at_, .int .i64 sz] w fun e w' => e = .returned (.int .u64 z) ∧ w = w' := by
  subst hz
  subst hA
  subst hK
  obtain ⟨a, c, rfl, hlc, hcm⟩ := hv.form
  have hm : (l.length : Int) ≤ 9223372036854775807 := by unfold maxLen at hcm; omega
  have hlen : ((l.drop A).take K).length = K := by rw [List.length_take, List.length_drop]; omega
  have HL := Lib.hid hlen
  clear hlen
  go_enter Tryz.func99, Tryz.ntmps99
  go_wp2
  go_loop [7, 8] (fun n i => ∃ j : Nat, j ≤ K ∧ i = .int .i64 ((j : Int) - 1) ∧ n = .int .u64 (leNat (((l.drop A).take K).drop j))) (fun _ i => (intOf i + 1).toNat)
  case atStart => exact ⟨K, Nat.le_refl _, rfl, by rw [List.drop_of_length_le (by rw [HL.out]; exact Nat.le_refl _)]; rfl⟩
  case round =>
    obtain ⟨j, hj, rfl, rfl⟩ := hrel
    by_cases h0 : j = 0
    · subst h0
      go_wp2
      go_ret
      exact ⟨rfl, rfl⟩
    · obtain ⟨i, rfl⟩ : ∃ i, j = i + 1 := ⟨j - 1, by omega⟩
      obtain ⟨g, off, c', hv', h1, h2, h3, h4, h5⟩ := hv.at_ (by omega)
      injection hv' with e1 e2 e3
      subst e1 e3
      have hck := h5 (A + i) (by omega)
      have hb : (l[A + i].toNat : Int) < 256 := by have := l[A + i].toNat_lt; omega
      have hs : Hid (leNat (((l.drop A).take K).drop i) = l[A + i].toNat + 256 * leNat (((l.drop A).take K).drop (i + 1))) := by
        have := leNat_drop ((l.drop A).take K) i (by rw [HL.out]; omega)
        rw [List.getElem_take, List.getElem_drop] at this
        exact this
      have hlt := leNat_lt (((l.drop A).take K).drop (i + 1))
      rw [List.length_drop, HL.out] at hlt
      have Hw := Lib.hid (refget_step _ l[A + i] _ (by omega) hlt)
      clear h5 h1 h2 h4 hlt
      generalize leNat (((l.drop A).take K).drop (i + 1)) = q at hs Hw
      have e0 : ((i + 1 : Nat) : Int) - 1 = (i : Int) := by omega
      rw [e0]
      clear e0
      go_wp2
      go_round
      case rel =>
        refine ⟨i, by omega, rfl, ?_⟩
        rw [hs.out, Hw.out]
      case measure => simp [intOf]

set_option maxHeartbeats 400000 in
theorem refput_any (w : World) (n : Nat) (sz : Int) (K : Nat) (hK : sz = K) (_hn : n < 18446744073709551616) (h8 : K ≤ 8) :
    Calls Tryz.prog 93 #[.int .u64 n, .int .i64 sz] w fun e w' => ∃ v, e = .returned v ∧ OwnB w' w.heap.size 5 v (leBytes K n) ∧ Below w.heap.size w w' := by
  subst hK
  go_enter Tryz.func93, Tryz.ntmps93
  go_wp2
  go_loopw [5, 6] (fun v i wr => ∃ k : Nat, k ≤ K ∧ i = .int .i64 (k : Int) ∧ OwnB wr w.heap.size 5 v (leBytes k n) ∧ Below w.heap.size w wr) (fun _ i _ => K - (intOf i).toNat)
  case atStart => exact ⟨0, Nat.zero_le _, rfl, World.ownsRow_nil _ _ _ _, Below.refl _ _⟩
  case round =>
    obtain ⟨k, hk, rfl, hown, hb⟩ := hrel
    by_cases hlt : k < K
    · have hx : RdB (fun _ => False) (wr.alloc (bobj [UInt8.ofNat (n / 256 ^ k)])) (.slice (some ⟨wr.heap.size, 0, none⟩) 1 1) [UInt8.ofNat (n / 256 ^ k)] := bobj_rd wr [_] 1 rfl (by simp [maxLen]) (fun h => h)
      have hB : w.heap.size ≤ (wr.alloc (bobj [UInt8.ofNat (n / 256 ^ k)])).heap.size := by have := hb.size; simp; omega
      obtain ⟨v', w', hr, h1, h2, h3, h4⟩ := append_bytes (ty := 41) (World.ownsRow.alloc hown _) hx (by rw [leBytes_length]; simp; omega) hB
      have hb' : Below w.heap.size w w' := (hb.alloc hb.size _).grown h2 hB (fun k hk => (hown.lt k hk).1)
      rw [← bobj_one wr _ ((n : Int) / 2 ^ (8 * k) % 256) (byte_cast n k)] at hr
      have H1 := Lib.hid h1
      have HR := Lib.hid hr
      clear h1 h2 h3 h4 hx hr hown hb hB
      go_wp2_with (at_builtin; refine wpList_append_eq rfl rfl HR.out rfl rfl ?_)
      go_roundw
      case rel => exact ⟨k + 1, by omega, by go_num, by rw [leBytes_snoc]; exact H1.out, hb'⟩
      case measure => simp [intOf]; omega
    · go_wp2_with fail
      go_ret
      obtain rfl : k = K := by omega
      exact ⟨_, rfl, hown, hb⟩


set_option maxHeartbeats 400000 in
theorem refmore_any {F : Foot} (w : World) (z : Int) (s : BitVec 32) (v : Value) (l : List UInt8) (hz : z = s.toNat) (hv : RdB F w v l) :
    Calls Tryz.prog 94 #[.int .u32 z, v] w fun e w' => e = .returned (.int .u32 ((crcMore s l).toNat)) ∧ w = w' := by
  obtain ⟨a, c, rfl, hlc, hcm⟩ := hv.form
  have hm : (l.length : Int) ≤ 9223372036854775807 := by unfold maxLen at hcm; omega
  have H0 : Hid (bits .xor .u32 z 4294967295 = ((s ^^^ 0xffffffff#32).toNat : Int)) := by rw [hz]; exact xor_u32 s 0xffffffff#32
  clear hz hcm hlc
  go_enter Tryz.func94, Tryz.ntmps94
  go_wp2
  go_loop [5, 6] (fun r i => ∃ k : Nat, k ≤ l.length ∧ i = .int .i64 k ∧ r = .int .u32 ((crcReg (s ^^^ 0xffffffff#32) (l.take k)).toNat)) (fun _ i => l.length - (intOf i).toNat)
  case atStart => exact ⟨0, Nat.zero_le _, rfl, by rw [H0.out]; rfl⟩
  case round =>
    obtain ⟨k, hk, rfl, rfl⟩ := hrel
    by_cases hlt : k < l.length
    · obtain ⟨g, off, c', hv', h1, h2, h3, h4, h5⟩ := hv.at_ (by omega)
      injection hv' with e1 e2 e3
      subst e1 e3
      have hck := h5 k hlt
      have hb : (l[k].toNat : Int) < 256 := by have := l[k].toNat_lt; omega
      have Hs : Hid (crcReg (s ^^^ 0xffffffff#32) (l.take (k + 1)) = crcIter 8 (crcReg (s ^^^ 0xffffffff#32) (l.take k) ^^^ l[k].toBitVec.setWidth 32)) := by
        rw [take_snoc l k hlt, crcReg_append]; rfl
      clear h5 h1 h2 h4
      generalize crcReg (s ^^^ 0xffffffff#32) (l.take k) = r at Hs
      have Hx := Lib.hid (xor_u32_byte r l[k])
      go_wp2
      go_loop [5, 7] (fun q i => ∃ j : Nat, j ≤ 8 ∧ i = .int .i64 j ∧ q = .int .u32 ((crcIter j (r ^^^ l[k].toBitVec.setWidth 32)).toNat)) (fun _ i => 8 - (intOf i).toNat)
      case atStart => exact ⟨0, Nat.zero_le _, rfl, by rw [Hx.out]; rfl⟩
      case round =>
        obtain ⟨j, hj, rfl, rfl⟩ := hrel
        by_cases hj8 : j < 8
        · have Ho1 := Lib.hid (crcIter_odd j (r ^^^ l[k].toBitVec.setWidth 32))
          have Ho2 := Lib.hid (crcIter_even j (r ^^^ l[k].toBitVec.setWidth 32))
          generalize (crcIter j (r ^^^ l[k].toBitVec.setWidth 32)).toNat = q at Ho1 Ho2
          by_cases hodd : (bits .and .u32 (q : Int) 1 == 1) = true
          · have Ho := Lib.hid (Ho1.out hodd)
            go_wp2
            go_round
            case rel => exact ⟨j + 1, by omega, by go_num, by rw [Ho.out]⟩
            case measure => simp [intOf]; omega
          · simp only [Bool.not_eq_true] at hodd
            have Ho := Lib.hid (Ho2.out hodd)
            go_wp2
            go_round
            case rel => exact ⟨j + 1, by omega, by go_num, by rw [Ho.out]⟩
            case measure => simp [intOf]; omega
        · obtain rfl : j = 8 := by omega
          go_wp2
          go_round
          case rel => exact ⟨k + 1, by omega, by go_num, by rw [Hs.out]⟩
          case measure => simp [intOf]; omega
    · obtain rfl : k = l.length := by omega
      have Hf := Lib.hid (xor_u32 (crcReg (s ^^^ 0xffffffff#32) (l.take l.length)) 0xffffffff#32)
      go_wp2
      go_ret
      refine ⟨ret_int ?_, rfl⟩
      have := Hf.out
      simp only [List.take_length] at this ⊢
      exact this

theorem refof_any {F : Foot} (w : World) (v : Value) (l : List UInt8) (hv : RdB F w v l) :
    Calls Tryz.prog 62 #[v] w fun e w' => e = .returned (.int .u32 ((crcOf l).toNat)) ∧ w = w' := by
  go_enter Tryz.func62, Tryz.ntmps62
  go_wp2_with (go_at_call 94; refine (refmore_any _ _ 0#32 _ l rfl hv).mono ?_; rintro e w' ⟨rfl, rfl⟩)
  go_ret
  exact ⟨rfl, rfl⟩

set_option maxHeartbeats 400000 in
/-- a number's bytes behind a row of the call's own -/
theorem lay_any (w : World) (base : Nat) (v : Value) (xs : List UInt8) (n : Nat) (sz : Int) (K : Nat) (hK : sz = K) (h8 : K ≤ 8) (ho : OwnB w base 5 v xs) (hbase : base ≤ w.heap.size) (hx : xs.length ≤ 140737488355000) :
    Calls Tryz.prog 89 #[v, .int .i64 sz, .int .u64 n] w fun e w' => ∃ v', e = .returned v' ∧ OwnB w' base 5 v' (xs ++ leBytes K n) ∧ Below base w w' := by
  subst hK
  go_enter Tryz.func89, Tryz.ntmps89
  go_wp2
  go_loopw [0, 9] (fun v i wr => ∃ k : Nat, k ≤ K ∧ i = .int .i64 (k : Int) ∧ OwnB wr base 5 v (xs ++ leBytes k n) ∧ Below base w wr) (fun _ i _ => K - (intOf i).toNat)
  case atStart => exact ⟨0, Nat.zero_le _, rfl, by simpa [leBytes] using ho, Below.refl _ _⟩
  case round =>
    obtain ⟨k, hk, rfl, hown, hb⟩ := hrel
    by_cases hlt : k < K
    · have hx2 : RdB (fun _ => False) (wr.alloc (bobj [UInt8.ofNat (n / 256 ^ k)])) (.slice (some ⟨wr.heap.size, 0, none⟩) 1 1) [UInt8.ofNat (n / 256 ^ k)] := bobj_rd wr [_] 1 rfl (by simp [maxLen]) (fun h => h)
      have hB : base ≤ (wr.alloc (bobj [UInt8.ofNat (n / 256 ^ k)])).heap.size := by have := hb.size; simp; omega
      obtain ⟨v', w', hr, h1, h2, h3, h4⟩ := append_bytes (ty := 41) (World.ownsRow.alloc hown _) hx2 (by rw [List.length_append, leBytes_length]; simp; omega) hB
      have hb' : Below base w w' := (hb.alloc (by have := hb.size; omega) _).grown h2 hB (fun k hk => (hown.lt k hk).1)
      rw [← bobj_one wr _ ((n : Int) / 2 ^ (8 * k) % 256) (byte_cast n k)] at hr
      have H1 := Lib.hid h1
      have HR := Lib.hid hr
      clear h1 h2 h3 h4 hx2 hr hown hb hB
      go_wp2_with (at_builtin; refine wpList_append_eq rfl rfl HR.out rfl rfl ?_)
      go_roundw
      case rel => exact ⟨k + 1, by omega, by go_num, by rw [leBytes_snoc, ← List.append_assoc]; exact H1.out, hb'⟩
      case measure => simp [intOf]; omega
    · go_wp2_with fail
      go_ret
      obtain rfl : k = K := by omega
      exact ⟨_, rfl, hown, hb⟩
end Mun
end

section
/- Plain: pages as bytes. No program in sight. -/
set_option linter.unusedVariables false
namespace Mun

abbrev PBytes := List UInt8

/-- a number that stands in a page -/
def gt (p : PBytes) (a n : Nat) : Nat := leNat ((p.drop a).take n)
/-- a number laid in -/
def pt (p : PBytes) (a n x : Nat) : PBytes := putAt p a (leBytes n x)

def cnt (p : PBytes) : Nat := gt p 14 2
def lowP (p : PBytes) : Nat := gt p 16 2
def sFrom (p : PBytes) (i : Nat) : Nat := gt p (26 + 4 * i) 2
def sSize (p : PBytes) (i : Nat) : Nat := gt p (26 + 4 * i + 2) 2
def cellP (p : PBytes) (i : Nat) : PBytes := (p.drop (sFrom p i)).take (sSize p i)

theorem gt_lt (p : PBytes) (a n : Nat) : gt p a n < 256 ^ n := by
  unfold gt
  have h := leNat_lt ((p.drop a).take n)
  have h2 : ((p.drop a).take n).length ≤ n := List.length_take_le _ _
  exact Nat.lt_of_lt_of_le h (Nat.pow_le_pow_right (by decide) h2)
theorem gt2_lt (p : PBytes) (a : Nat) : gt p a 2 < 65536 := gt_lt p a 2
theorem gt4_lt (p : PBytes) (a : Nat) : gt p a 4 < 4294967296 := gt_lt p a 4
theorem pt_length (p : PBytes) (a n x : Nat) (h : a + n ≤ p.length) : (pt p a n x).length = p.length := putAt_length _ _ _ (by rw [leBytes_length]; exact h)

theorem putAt_drop_after (l : PBytes) (A : Nat) (bs : PBytes) (a : Nat) (h : A + bs.length ≤ a) (hl : A + bs.length ≤ l.length) : (putAt l A bs).drop a = l.drop a := by
  apply List.ext_getElem?
  intro i
  rw [List.getElem?_drop, List.getElem?_drop, putAt_getElem? _ _ _ hl, if_neg (by omega)]

theorem putAt_window_apart (l : PBytes) (A : Nat) (bs : PBytes) (a n : Nat) (hl : A + bs.length ≤ l.length) (h : a + n ≤ A ∨ A + bs.length ≤ a) : ((putAt l A bs).drop a).take n = (l.drop a).take n := by
  apply List.ext_getElem?
  intro i
  rw [List.getElem?_take, List.getElem?_take]
  split
  · rw [List.getElem?_drop, List.getElem?_drop, putAt_getElem? _ _ _ hl, if_neg (by omega)]
  · rfl

/-- what was laid elsewhere leaves a number -/
theorem gt_putAt_apart (p : PBytes) (A : Nat) (bs : PBytes) (a n : Nat) (hl : A + bs.length ≤ p.length) (h : a + n ≤ A ∨ A + bs.length ≤ a) : gt (putAt p A bs) a n = gt p a n := by
  unfold gt
  rw [putAt_window_apart p A bs a n hl h]
theorem gt_pt_apart (p : PBytes) (A k x a n : Nat) (hl : A + k ≤ p.length) (h : a + n ≤ A ∨ A + k ≤ a) : gt (pt p A k x) a n = gt p a n :=
  gt_putAt_apart p A _ a n (by rw [leBytes_length]; exact hl) (by rw [leBytes_length]; exact h)
theorem gt_pt_same (p : PBytes) (A k x : Nat) (hl : A + k ≤ p.length) : gt (pt p A k x) A k = x % 256 ^ k := by
  unfold gt pt
  have := putAt_take_drop p A (leBytes k x) (by rw [leBytes_length]; exact hl)
  rw [leBytes_length] at this
  rw [this, leNat_leBytes]
/-- the bytes of the first cells -/
def szs (p : PBytes) : Nat → Nat
  | 0 => 0
  | k + 1 => szs p k + sSize p k
/-- bytes that no cell and no slot has -/
def freeP (p : PBytes) : Int := 486 - 4 * (cnt p : Int) - (szs p (cnt p) : Int)

/-- a slot set -/
def ss (p : PBytes) (i f z : Nat) : PBytes := pt (pt p (26 + 4 * i) 2 f) (26 + 4 * i + 2) 2 z
/-- a cell's bytes laid right below low, its slot set -/
def belowP (p : PBytes) (i : Nat) (c : PBytes) : PBytes := ss (pt (putAt p (lowP p - c.length) c) 16 2 (lowP p - c.length)) i (lowP p - c.length) c.length

/-- laid out anew, the first k cells -/
def anewS (p : PBytes) : Nat → PBytes
  | 0 => p
  | k + 1 => ss (putAt (anewS p k) (512 - szs p (k + 1)) (cellP p k)) k (512 - szs p (k + 1)) (sSize p k)
def zer (n : Nat) : PBytes := List.replicate n 0
def anewP (p : PBytes) : PBytes := pt (putAt (anewS p (cnt p)) (26 + 4 * cnt p) (zer (512 - szs p (cnt p) - (26 + 4 * cnt p)))) 16 2 (512 - szs p (cnt p))

/-- x lies in cell j -/
def inC (p : PBytes) (j x : Nat) : Prop := sFrom p j ≤ x ∧ x < sFrom p j + sSize p j
/-- a good page -/
structure GoodP (p : PBytes) : Prop where
  len : p.length = 512
  none : p[13]? = some 0
  fit : 26 + 4 * cnt p ≤ lowP p
  low : lowP p ≤ 512
  cell : ∀ i, i < cnt p → lowP p ≤ sFrom p i ∧ sFrom p i + sSize p i ≤ 512
  apart : ∀ i j, i < j → j < cnt p → ∀ x, ¬ (inC p i x ∧ inC p j x)
open Classical in
noncomputable def goodB (p : PBytes) : Bool := decide (GoodP p)
theorem goodB_true {p : PBytes} (h : GoodP p) : goodB p = true := by unfold goodB; simpa using h
theorem goodB_false {p : PBytes} (h : ¬ GoodP p) : goodB p = false := by unfold goodB; simpa using h
end Mun
end

section
/- Contracts of what reads a page: get, count, low, slot. -/
set_option maxRecDepth 100000
set_option linter.unusedVariables false
namespace Mun
open Go Go.RowKit
open Go.Proofs

theorem slice3_bytes {F : Foot} {w : World} {a : Option Addr} {n c : Nat} {l : List UInt8} (h : RdB F w (.slice a n c) l) (lo hi : Nat) (L H : Int) (hL : L = lo) (hH : H = hi) (h1 : lo ≤ hi) (h2 : hi ≤ l.length) :
    ∃ a1, (∀ W, (Instr.sliceAt 41 (.slice a n c) (some (.int .i64 L)) (some (.int .i64 H)) (some (.int .i64 H))).run Tryz.prog W = .ok (.slice a1 (hi - lo) (hi - lo)) W) ∧
      RdB F w (.slice a1 (hi - lo) (hi - lo)) ((l.drop lo).take (hi - lo)) := by
  subst hL
  subst hH
  obtain ⟨h0, a', c', hv, hc1, hc2, hnil, h4⟩ := h
  injection hv with e1 e2 e3
  subst e1 e2 e3
  refine ⟨if hi = lo then a else a.map (·.add lo), fun W => ?_, ?_⟩
  · obtain ⟨i, hi', hz, hs1, hs2⟩ := info_of info_u8
    have he : Tryz.prog.elem 41 = 5 := by kernel_rfl
    have ht : Tryz.prog.underlying 41 = some (.slice (Tryz.prog.elem 41)) := by rw [he]; exact Tryz.underlying41
    rw [run_sliceAt_slice _ _ _ _ _ _ ht, run_slice_lhm _ _ _ _ _ ht _ _ _ _ _ _ (by omega) (by omega) (by omega) (by omega), he]
    simp [Go.sizeOf, typeInfo, hi', hs1, sliced]
  · have hlen : ((l.drop lo).take (hi - lo)).length = hi - lo := by rw [List.length_take, List.length_drop]; omega
    refine ⟨by rw [hlen, bv_length, hlen]; omega, _, _, by rw [hlen], by omega, by omega, ?_, ?_⟩
    · intro hn
      split at hn
      · omega
      · cases a with
        | none => have := hnil rfl; omega
        | some _ => simp at hn
    · intro hp
      rw [hlen] at hp
      obtain ⟨g, off, cur, e, fr, ha, hg, hh, hx⟩ := h4 (by omega)
      subst ha
      refine ⟨g, off + lo, cur, e, fr, ?_, hg, hh, ?_⟩
      · rw [if_neg (by omega)]
        simp only [Option.map_some, addr_add]
      · have e1 : bv ((l.drop lo).take (hi - lo)) = ((bv l).drop lo).take (hi - lo) := by simp [bv, List.map_take, List.map_drop]
        rw [hlen, e1, ← hx, List.drop_take, List.take_take, List.drop_drop]
        congr 1
        omega

theorem boxS_keep {b : Nat} {v : Value} {w1 W W' : World} (h : W.cell? ⟨b, 0, none⟩ = some v ∧ Below w1.heap.size w1 W) (hb : Below W.heap.size W W') :
    W'.cell? ⟨b, 0, none⟩ = some v ∧ Below w1.heap.size w1 W' := by
  refine ⟨?_, h.2.trans (hb.mono h.2.size)⟩
  obtain ⟨hs, cur, e, fr, hh, hc⟩ := cell_block h.1
  have hlt := (Array.getElem?_eq_some_iff.1 hh).1
  rw [← h.1]
  exact hb.cell (p := ⟨b, 0, none⟩) hlt

theorem get_any {F : Foot} (w : World) (v : Value) (l : List UInt8) (a k : Int) (A K : Nat) (hA : a = A) (hK : k = K) (hv : RdB F w v l) (h : A + K ≤ l.length) (h4 : K ≤ 4) (hl : l.length ≤ 1000000) :
    Calls Tryz.prog 84 #[.agg #[v], .int .i64 a, .int .i64 k] w fun e w' => e = .returned (.int .i64 (gt l A K)) ∧ Below w.heap.size w w' := by
  subst hA
  subst hK
  obtain ⟨va, vc, rfl, hlc, hcm⟩ := hv.form
  obtain ⟨a1, hsl, hrd⟩ := slice3_bytes hv A (A + K) A (A + K : Int) rfl (by omega) (by omega) h
  rw [show A + K - A = K from by omega] at hsl hrd
  have hb : gt l A K < 4294967296 := by
    have h1 := gt_lt l A K
    have h2 : 256 ^ K ≤ 256 ^ 4 := Nat.pow_le_pow_right (by decide) h4
    omega
  have hword := word_any ((w.alloc (.cells #[.slice va l.length vc] 149))) _ _ (RdB.alloc hrd _) (by rw [List.length_take, List.length_drop]; omega)
  obtain ⟨z, hz⟩ : ∃ z, gt l A K = z := ⟨_, rfl⟩
  rw [show leNat ((l.drop A).take K) = z from hz] at hword
  rw [hz] at hb ⊢
  have hzi : (z : Int) < 4294967296 := by omega
  have hA0 : (0 : Int) ≤ (A : Int) := by omega
  have hK0 : (0 : Int) ≤ (K : Int) := by omega
  have hAK : (A : Int) + (K : Int) ≤ 1000000 := by omega
  have hcap : (A : Int) + (K : Int) ≤ (vc : Int) := by omega
  have HW := Lib.hid hword
  clear hv hrd hb hz hlc hcm hword
  go_enter Tryz.func84, Tryz.ntmps84
  go_wp2_with fail
  refine HW.out.mono ?_
  rintro e w' ⟨rfl, rfl⟩
  go_wp2
  go_ret
  exact ⟨rfl, (Below.refl _ _).alloc (Nat.le_refl _) _⟩

section
variable {F : Foot} (w : World) (v : Value) (p : List UInt8)

theorem count_any (hv : RdB F w v p) (hp : p.length = 512) : Calls Tryz.prog 111 #[.agg #[v]] w fun e w' => e = .returned (.int .i64 (cnt p)) ∧ Below w.heap.size w w' := by
  have hg := get_any (w.alloc (.cells #[v] 149)) v p 14 2 14 2 rfl rfl (hv.alloc _) (by omega) (by decide) (by omega)
  obtain ⟨va, vc, rfl, hlc, hcm⟩ := hv.form
  rw [hp] at hg
  have HG := Lib.hid hg
  clear hg hv hlc hcm
  rw [hp]
  go_enter Tryz.func111, Tryz.ntmps111
  go_wp2_with fail
  refine HG.out.mono ?_
  rintro e w' ⟨rfl, hb⟩
  have HB := Lib.hid hb
  clear hb
  go_wp2
  go_ret
  exact ⟨rfl, ((Below.refl _ _).alloc (Nat.le_refl _) _).trans (HB.out.mono (by simp))⟩

theorem low_any (hv : RdB F w v p) (hp : p.length = 512) : Calls Tryz.prog 112 #[.agg #[v]] w fun e w' => e = .returned (.int .i64 (lowP p)) ∧ Below w.heap.size w w' := by
  have hg := get_any (w.alloc (.cells #[v] 149)) v p 16 2 16 2 rfl rfl (hv.alloc _) (by omega) (by decide) (by omega)
  obtain ⟨va, vc, rfl, hlc, hcm⟩ := hv.form
  rw [hp] at hg
  have HG := Lib.hid hg
  clear hg hv hlc hcm
  rw [hp]
  go_enter Tryz.func112, Tryz.ntmps112
  go_wp2_with fail
  refine HG.out.mono ?_
  rintro e w' ⟨rfl, hb⟩
  have HB := Lib.hid hb
  clear hb
  go_wp2
  go_ret
  exact ⟨rfl, ((Below.refl _ _).alloc (Nat.le_refl _) _).trans (HB.out.mono (by simp))⟩

set_option maxHeartbeats 800000 in
theorem slot_any (i : Nat) (hv : RdB F w v p) (hp : p.length = 512) (hi : 26 + 4 * i + 4 ≤ 512) : Calls Tryz.prog 113 #[.agg #[v], .int .i64 i] w fun e w' => e = .returned (.tuple #[.int .i64 (sFrom p i), .int .i64 (sSize p i)]) ∧ Below w.heap.size w w' := by
  have hbox : (w.alloc (.cells #[v] 149)).drew.cell? ⟨w.heap.size, 0, none⟩ = some v := by
    have := cell_of_row (w.alloc (.cells #[v] 149)) w.heap.size 0 _ _ _ (heap_alloc_new w _)
    exact this
  have hB0 : Below (w.alloc (.cells #[v] 149)).heap.size (w.alloc (.cells #[v] 149)) (w.alloc (.cells #[v] 149)).drew := below_drewN (Below.refl _ _) 1
  have hg1 : ∀ W, Below (w.alloc (.cells #[v] 149)).heap.size (w.alloc (.cells #[v] 149)) W → Calls Tryz.prog 84 #[.agg #[v], .int .i64 (26 + 4 * (i : Int)), .int .i64 2] W fun e w' => e = .returned (.int .i64 (sFrom p i)) ∧ Below W.heap.size W w' :=
    fun W hW => get_any W v p (26 + 4 * (i : Int)) 2 (26 + 4 * i) 2 (by push_cast; rfl) rfl ((hv.alloc _).below hW) (by omega) (by decide) (by omega)
  have hg2 : ∀ W, Below (w.alloc (.cells #[v] 149)).heap.size (w.alloc (.cells #[v] 149)) W → Calls Tryz.prog 84 #[.agg #[v], .int .i64 (26 + 4 * (i : Int) + 2), .int .i64 2] W fun e w' => e = .returned (.int .i64 (sSize p i)) ∧ Below W.heap.size W w' :=
    fun W hW => get_any W v p (26 + 4 * (i : Int) + 2) 2 (26 + 4 * i + 2) 2 (by push_cast; rfl) rfl ((hv.alloc _).below hW) (by omega) (by decide) (by omega)
  obtain ⟨va, vc, rfl, hlc, hcm⟩ := hv.form
  rw [hp] at hg1 hg2 hbox hB0 ⊢
  obtain ⟨w1, hw1⟩ : ∃ w1, w.alloc (.cells #[.slice va 512 vc] 149) = w1 := ⟨_, rfl⟩
  rw [hw1] at hg1 hg2 hbox hB0
  have hs1 : w1.heap.size = w.heap.size + 1 := by rw [← hw1, World.size_alloc]
  have hS0 := And.intro hbox hB0
  have HG1 := Lib.hid hg1
  have HG2 := Lib.hid hg2
  have HFIN : Hid (∀ W', Below w1.heap.size w1 W' → Below w.heap.size w W') := by
    show ∀ _, _
    intro W' h
    have : Below w.heap.size w w1 := by rw [← hw1]; exact (Below.refl _ _).alloc (Nat.le_refl _) _
    exact this.trans (h.mono (by omega))
  have hib : (i : Int) ≤ 121 := by omega
  clear hg1 hg2 hv hlc hcm hbox hB0 hs1
  go_enter Tryz.func113, Tryz.ntmps113
  go_wp2
  have hwrap : IntKind.i64.wrap (26 + 4 * (i : Int) + 2) = 26 + 4 * (i : Int) + 2 := by rw [IntKind.wrap_i64]; omega
  go_region_held3 (fun W => W.cell? ⟨w.heap.size, 0, none⟩ = some (.slice va 512 vc) ∧ Below w1.heap.size w1 W)
    (first | exact hS2 | exact hS1 | exact hS0)
    (first
    | ((go_at_call 84; refine (HG1.out _ hS0.2).mono ?_; rintro e W1 ⟨rfl, hb1⟩; have hS1 := boxS_keep hS0 hb1; clear HG1))
    | ((go_at_call 84; refine (HG2.out _ hS1.2).mono ?_; rintro e W2 ⟨rfl, hb2⟩; have hS2 := boxS_keep hS1 hb2; clear HG2)))
  go_wp2
  go_ret2
  exact ⟨rfl, HFIN.out _ hS2.2⟩

end
end Mun
end

section
/- Contracts of what writes into a page of the call's own: put, setSlot, below. -/
set_option maxRecDepth 100000
set_option linter.unusedVariables false
namespace Mun
open Go Go.RowKit
open Go.Proofs

/-- block g holds the bytes p, 512 of them -/
def PgAt (w : World) (g : Nat) (p : List UInt8) : Prop := w.heap[g]? = some (bobj p) ∧ p.length = 512
abbrev PV (g : Nat) : Value := .slice (some ⟨g, 0, none⟩) 512 512
abbrev G1 (g : Nat) : Foot := fun k => k = g

theorem PgAt.lt {w : World} {g : Nat} {p : List UInt8} (h : PgAt w g p) : g < w.heap.size := (Array.getElem?_eq_some_iff.1 h.1).1
theorem PgAt.below {w w' : World} {g : Nat} {p : List UInt8} (h : PgAt w g p) (hb : Below w.heap.size w w') : PgAt w' g p := ⟨(hb.block g h.lt).trans h.1, h.2⟩
theorem PgAt.rd {F : Foot} {w : World} {g : Nat} {p : List UInt8} (h : PgAt w g p) (hF : ¬ F g) : RdB F w (PV g) p := by
  refine ⟨by simp [bv], some ⟨g, 0, none⟩, 512, by rw [h.2], by rw [h.2]; exact Nat.le_refl _, by decide, by simp, fun _ => ⟨g, 0, _, _, _, rfl, hF, h.1, ?_⟩⟩
  simp only [List.drop_zero]
  rw [List.take_of_length_le (by simp [bv])]
theorem PgAt.new (w : World) (p : List UInt8) (hp : p.length = 512) : PgAt (w.alloc (bobj p)) w.heap.size p := ⟨heap_alloc_new w _, hp⟩

theorem bytes_info' : (Tryz.prog.info? 5).map (·.size) = some 1 := by kernel_rfl

/-- a slice of a page of the call's own -/
theorem slice_own (g lo hi : Nat) (L H : Int) (hL : L = lo) (hH : H = hi) (h1 : lo ≤ hi) (h2 : hi ≤ 512) (hlo : lo < 512) (W : World) :
    (Instr.sliceAt 41 (.slice (some ⟨g, 0, none⟩) 512 512) (some (.int .i64 L)) (some (.int .i64 H)) none).run Tryz.prog W = .ok (.slice (some ⟨g, lo, none⟩) (hi - lo) (512 - lo)) W := by
  subst hL
  subst hH
  obtain ⟨i, hi', hz, hs1, hs2⟩ := info_of info_u8
  have he : Tryz.prog.elem 41 = 5 := by kernel_rfl
  have ht : Tryz.prog.underlying 41 = some (.slice (Tryz.prog.elem 41)) := by rw [he]; exact Tryz.underlying41
  rw [run_sliceAt_slice _ _ _ _ _ _ ht, run_slice_lh _ _ _ _ _ ht _ _ _ _ (by omega) (by omega) (by omega), he]
  have hne : ¬ (512 = lo) := by omega
  simp [Go.sizeOf, typeInfo, hi', hs1, sliced, hne, addr_add]

/-- bytes copied into the midst of a page -/
theorem copy_mid {F : Foot} {ty : TypeId} (W : World) (g A n c : Nat) (p ys : List UInt8) (src : Value) (hg : PgAt W g p) (hs : RdB F W src ys) (hn : ys.length ≤ n) (hA : A + ys.length ≤ 512) (dst : Value)
    (hd : (0 < ys.length → dst = .slice (some ⟨g, A, none⟩) n c) ∧ (∃ a, dst = .slice a n c)) :
    ∃ W' r, (Builtin.copy_ #[41, 41] ty #[dst, src]).run Tryz.prog W = .ok (goInt r) W' ∧ PgAt W' g (putAt p A ys) ∧ Chg (G1 g) (G1 g) W W' := by
  have hpl : (putAt p A ys).length = 512 := by rw [putAt_length _ _ _ (by rw [hg.2]; exact hA)]; exact hg.2
  by_cases h0 : ys.length = 0
  · obtain rfl : ys = [] := List.eq_nil_of_length_eq_zero h0
    obtain ⟨a, c2, rfl, -⟩ := hs.form
    obtain ⟨a2, rfl⟩ := hd.2
    refine ⟨W, 0, run_copy_none (P := Tryz.prog) _ _ _ ty _ _ _ _ _ _ _ Tryz.underlying41 bytes_info' (by simp), ?_, Chg.refl _ _⟩
    rw [putAt_nil]
    exact hg
  · obtain ⟨g2, off, c2, rfl, _, _, _, _, hc⟩ := RdV.at_ hs (by omega)
    rw [hd.1 (by omega)]
    have hr := run_copy_row (P := Tryz.prog) W 41 41 ty 5 g A n c ⟨g2, off, none⟩ ys.length c2 (bv p).toArray 5 (bv ys) Tryz.underlying41 bytes_info'
      hg.1 (by rw [bv_length]; exact (Nat.min_eq_left hn).symm) (fun j u hu => by rw [addr_add]; exact hc j u hu) (by simp [bv]; rw [hg.2]; exact hA) (bv_oneCell ys)
    refine ⟨_, _, hr, ⟨?_, hpl⟩, ⟨rfl, rfl, rfl, by simp, fun k _ hk => setRow_other _ _ _ _ (fun e => hk e), fun k hk => .inl hk⟩⟩
    have := setRow_heap W g (bv p).toArray (List.take A (bv p).toArray.toList ++ bv ys ++ List.drop (A + (bv ys).length) (bv p).toArray.toList).toArray 5 (0, 0) hg.1
    rw [this]
    simp [bobj, bv, putAt, List.map_take, List.map_drop]

/-- a copy whose run is known, at a step of a region that draws its order -/
theorem step_copy_eq {P : Program} {ops : Array Oper} {o : Oper} {a : Act} {w : World} {K : Act → World → Prop} {Q : Exit → Act → World → Prop} {E : Prop} (hgd : o.guard = none) {s x : Operand} {t u : TypeId}
    (ho : o.op = .call { callee := .builtin .copy, args := #[s, x], argTypes := #[t, u] }) {v sv v' : Value} {w' : World}
    (hr : (Builtin.copy_ #[t, u] o.type #[v, sv]).run P w = .ok v' w') (hs : a.eval s = v) (hx : a.eval x = sv) (h : K (a.put o.dst v') w') :
    if Region.wanted o (yielded ops a.tmps) = true then Oper.wp P o a w K Q else E := by
  have hw : Region.wanted o (yielded ops a.tmps) = true := by simp [Region.wanted, hgd]
  rw [if_pos hw]
  unfold Oper.wp
  simp [execOp, ho, resolve, invoke, builtin, hs, hx, hr, Result.andThen]
  exact h
theorem step_append_eq {P : Program} {ops : Array Oper} {o : Oper} {a : Act} {w : World} {K : Act → World → Prop} {Q : Exit → Act → World → Prop} {E : Prop} (hgd : o.guard = none) {s x : Operand} {t : TypeId}
    (ho : o.op = .call { callee := .builtin .append, args := #[s, x], argTypes := #[t, t] }) {v sv v' : Value} {w' : World}
    (hr : (Builtin.append_ #[t, t] o.type #[v, sv]).run P w = .ok v' w') (hs : a.eval s = v) (hx : a.eval x = sv) (h : K (a.put o.dst v') w') :
    if Region.wanted o (yielded ops a.tmps) = true then Oper.wp P o a w K Q else E := by
  have hw : Region.wanted o (yielded ops a.tmps) = true := by simp [Region.wanted, hgd]
  rw [if_pos hw]
  unfold Oper.wp
  simp [execOp, ho, resolve, invoke, builtin, hs, hx, hr, Result.andThen]
  exact h

theorem box_chg {F F' : Foot} {b : Nat} {v : Value} {W W' : World} (h : W.cell? ⟨b, 0, none⟩ = some v) (hc : Chg F F' W W') (hF : ¬ F b) : W'.cell? ⟨b, 0, none⟩ = some v := by
  obtain ⟨hs, cur, e, fr, hh, hcc⟩ := cell_block h
  have hlt := (Array.getElem?_eq_some_iff.1 hh).1
  have := (hc.block b hlt hF).trans hh
  rw [cell_of_row W' b 0 cur e fr this]
  exact hcc

set_option maxHeartbeats 800000 in
theorem put_any (w : World) (g : Nat) (p : List UInt8) (a k : Int) (A K n : Nat) (hA : a = A) (hK : k = K) (hg : PgAt w g p) (h : A + K ≤ 512) (hK0 : 0 < K) (hK8 : K ≤ 8) :
    Calls Tryz.prog 92 #[.agg #[PV g], .int .i64 a, .int .i64 k, .int .u64 n] w fun e w' => e = .returned (.tuple #[]) ∧ PgAt w' g (pt p A K n) ∧ Chg (G1 g) (G1 g) w w' := by
  subst hA
  subst hK
  have hbox : (w.alloc (.cells #[.slice (some ⟨g, 0, none⟩) 512 512] 149)).drew.cell? ⟨w.heap.size, 0, none⟩ = some (.slice (some ⟨g, 0, none⟩) 512 512) :=
    cell_of_row (w.alloc (.cells #[.slice (some ⟨g, 0, none⟩) 512 512] 149)) w.heap.size 0 _ _ _ (heap_alloc_new w _)
  obtain ⟨w1, hw1⟩ : ∃ w1, w.alloc (.cells #[.slice (some ⟨g, 0, none⟩) 512 512] 149) = w1 := ⟨_, rfl⟩
  rw [hw1] at hbox
  have hB1 : Below w.heap.size w w1 := by rw [← hw1]; exact (Below.refl _ _).alloc (Nat.le_refl _) _
  have hsz : w.heap.size < w1.heap.size := by rw [← hw1, World.size_alloc]; omega
  have hg1 : PgAt w1.drew g p := ⟨(hg.below hB1).1, hg.2⟩
  have hS0 : w1.drew.cell? ⟨w.heap.size, 0, none⟩ = some (.slice (some ⟨g, 0, none⟩) 512 512) := hbox
  have hlay := lay_any w1.drew w1.drew.heap.size (.slice none 0 0) [] n (K : Int) K rfl hK8 (OwnB.nil _ _ _) (Nat.le_refl _) (by simp)
  rw [List.nil_append] at hlay
  have hslo := slice_own g A (A + K) (A : Int) ((A : Int) + (K : Int)) rfl (by push_cast; rfl) (by omega) h (by omega)
  rw [show A + K - A = K from by omega] at hslo
  have HL := Lib.hid hlay
  have HG := Lib.hid (And.intro hg1 (And.intro hB1 (And.intro hsz hg.lt)))
  have hA0 : (0 : Int) ≤ (A : Int) := by omega
  have hAK : (A : Int) + (K : Int) ≤ 512 := by omega
  have hAle : (A : Int) ≤ (A : Int) + (K : Int) := by omega
  have hwr : IntKind.i64.wrap ((A : Int) + (K : Int)) = (A : Int) + (K : Int) := by rw [IntKind.wrap_i64]; omega
  have HK := Lib.hid (And.intro h (And.intro hK0 hK8))
  clear hbox hB1 hg1 hlay h hK0 hK8 hsz hg
  go_enter Tryz.func92, Tryz.ntmps92
  go_wp2
  go_region_held_law (fun W => W.cell? ⟨w.heap.size, 0, none⟩ = some (.slice (some ⟨g, 0, none⟩) 512 512))
    (first | exact hS2 | exact hS1 | exact hS0)
    (first
      | ((refine step_copy_eq rfl rfl HCR.out rfl rfl ?_; clear HCR))
      | ((go_simp
          go_at_call 89
          refine HL.out.mono ?_
          rintro e W1 ⟨v', rfl, ho1, hb1⟩
          have hS1 := (boxS_keep ⟨hS0, Below.refl _ _⟩ hb1).1
          have hrd : RdB (fun _ => False) W1 v' (leBytes K n) := OwnB.rd ho1 (fun _ _ h => h)
          obtain ⟨W2, r2, hcr, hpg2, hch2⟩ := copy_mid (ty := 3) W1 g A K (512 - A) p (leBytes K n) v' ((HG.out.1).below hb1) hrd (by rw [leBytes_length]; exact Nat.le_refl _) (by rw [leBytes_length]; exact HK.out.1) (.slice (some ⟨g, A, none⟩) K (512 - A)) ⟨fun _ => rfl, _, rfl⟩
          have hS2 := box_chg hS1 hch2 (show ¬ (w.heap.size = g) by have := HG.out.2.2.2; omega)
          have HCR := Lib.hid hcr
          have HP2 := Lib.hid (And.intro hpg2 (And.intro hch2 hb1))
          obtain ⟨va, vn, vc, hvf, hvn, hvn2, hvn3⟩ := hrd.formN
          subst hvf
          clear hrd hcr hpg2 hch2 ho1 hb1 hvn hvn2 hvn3)))
  simp only [Act.put, List.getElem_toArray, List.getElem_cons_succ, List.getElem_cons_zero, List.setIfInBounds_toArray, List.set_cons_zero, List.set_cons_succ]
  go_end0
  have h1 := HP2.out
  have h2 := HG.out
  exact ⟨rfl, h1.1, (Chg.of_below h2.2.1 (G1 g)).trans ((Chg.of_below (below_drewN (Below.refl _ _) 1) _).trans ((Chg.of_below h1.2.2 _).trans h1.2.1))⟩
end Mun
end

section
/- Contracts of what writes into a page of the call's own: setSlot, below, anew. -/
set_option maxRecDepth 100000
set_option linter.unusedVariables false
set_option linter.unusedSimpArgs false
namespace Mun
open Go Go.RowKit
open Go.Proofs

/-- b.b[lo:] of a page -/
theorem slice_from (g lo : Nat) (L : Int) (hL : L = lo) (h : lo ≤ 512) :
    ∃ a, (∀ W, (Instr.sliceAt 41 (.slice (some ⟨g, 0, none⟩) 512 512) (some (.int .i64 L)) none none).run Tryz.prog W = .ok (.slice a (512 - lo) (512 - lo)) W) ∧ (lo < 512 → a = some ⟨g, lo, none⟩) := by
  subst hL
  refine ⟨if 512 = lo then some ⟨g, 0, none⟩ else some ⟨g, lo, none⟩, fun W => ?_, fun hlt => by rw [if_neg (by omega)]⟩
  obtain ⟨i, hi', hz, hs1, hs2⟩ := info_of info_u8
  have he : Tryz.prog.elem 41 = 5 := by kernel_rfl
  have ht : Tryz.prog.underlying 41 = some (.slice (Tryz.prog.elem 41)) := by rw [he]; exact Tryz.underlying41
  rw [run_sliceAt_slice _ _ _ _ _ _ ht, run_slice_l _ _ _ _ _ ht _ _ (by omega) (by omega), he]
  simp [Go.sizeOf, typeInfo, hi', hs1, sliced, addr_add]

/-- a page of the call's own, and the sheet that holds it in a cell -/
structure Bx (w0 w : World) (b g : Nat) (p : List UInt8) : Prop where
  pg : PgAt w g p
  box : w.cell? ⟨b, 0, none⟩ = some (.slice (some ⟨g, 0, none⟩) 512 512)
  ne : b ≠ g
  chg : Chg (G1 g) (G1 g) w0 w
theorem Bx.start {w : World} {g : Nat} {p : List UInt8} (hg : PgAt w g p) : Bx w (w.alloc (.cells #[.slice (some ⟨g, 0, none⟩) 512 512] 149)) w.heap.size g p :=
  ⟨hg.below ((Below.refl _ _).alloc (Nat.le_refl _) _), cell_of_row _ w.heap.size 0 _ _ _ (heap_alloc_new w _), by have := hg.lt; omega, Chg.of_below ((Below.refl _ _).alloc (Nat.le_refl _) _) _⟩
theorem Bx.step {w0 w w' : World} {b g : Nat} {p p' : List UInt8} (h : Bx w0 w b g p) (hp : PgAt w' g p') (hc : Chg (G1 g) (G1 g) w w') : Bx w0 w' b g p' :=
  ⟨hp, box_chg h.box hc h.ne, h.ne, h.chg.trans hc⟩
theorem Bx.below {w0 w w' : World} {b g : Nat} {p : List UInt8} (h : Bx w0 w b g p) (hb : Below w.heap.size w w') : Bx w0 w' b g p := h.step (h.pg.below hb) (Chg.of_below hb _)
theorem Bx.drew {w0 w : World} {b g : Nat} {p : List UInt8} (h : Bx w0 w b g p) (n : Nat) : Bx w0 (w.drewN n) b g p := h.below (below_drewN (Below.refl _ _) n)
theorem Bx.rd {w0 w : World} {b g : Nat} {p : List UInt8} (h : Bx w0 w b g p) {F : Foot} (hF : ¬ F g) : RdB F w (PV g) p := h.pg.rd hF

end Mun
end
