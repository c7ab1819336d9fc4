/- Contracts of what pages need of sum and munimentref1. -/
import Derived.Test.YtoblajbffnkkiaaSumW
import Derived.Test.YtoblajbffnkkiaaLaw
set_option maxRecDepth 100000
set_option linter.unusedVariables false
namespace Mun
open Go Go.RowKit
open Go.Proofs

theorem of_any {F : Foot} (w : World) (v : Value) (l : List UInt8) (z : Int) (hz : ((crcOf l).toNat : Int) = z) (hv : RdB F w v l) :
    Calls Try.prog 64 #[v] w fun e w' => e = .returned (.int .u32 z) ∧ w = w' := by
  subst hz
  go_enter Try.func64, Try.ntmps64
  go_wp2_with (go_at_call 63; refine (more_any _ _ 0#32 _ l rfl hv).mono ?_; rintro e w' ⟨rfl, rfl⟩)
  go_ret
  exact ⟨rfl, rfl⟩

theorem ret_bool {a b : Bool} (h : a = b) : Ending.returned (.bool a) = .returned (.bool b) := by rw [h]

theorem refget_step (a : Nat) (b : UInt8) (k : Nat) (hk : k < 8) (ha : a < 256 ^ k) :
    bits .or .u64 (IntKind.u64.wrap ((a : Int) * 256)) (b.toNat : Int) = ((b.toNat + 256 * a : Nat) : Int) := by
  have h1 : 256 ^ k ≤ 256 ^ 7 := Nat.pow_le_pow_right (by omega) (by omega)
  have hb := b.toNat_lt
  have e : ((a : Int) * 256) = ((a * 2 ^ 8 : Nat) : Int) := by omega
  rw [e, wrap_u64_nat _ (by omega), u64_or_nat _ _ (by omega) (by omega), Nat.or_comm, or_shift _ _ 8 (by omega)]
  congr 1
  omega

theorem leNat_drop (l : List UInt8) (j : Nat) (h : j < l.length) : leNat (l.drop j) = l[j].toNat + 256 * leNat (l.drop (j + 1)) := by
  rw [List.drop_eq_getElem_cons h]; rfl

set_option maxHeartbeats 400000 in
theorem refget_any {F : Foot} (w : World) (v : Value) (l : List UInt8) (at_ sz : Int) (A K : Nat) (z : Int) (hA : at_ = A) (hK : sz = K) (hz : ((leNat ((l.drop A).take K) : Nat) : Int) = z) (hv : RdB F w v l) (hl : A + K ≤ l.length) (h8 : K ≤ 8) :
    Calls Try.prog 71 #[v, .int .i64 at_, .int .i64 sz] w fun e w' => e = .returned (.int .u64 z) ∧ w = w' := by
  subst hz
  subst hA
  subst hK
  obtain ⟨a, c, rfl, hlc, hcm⟩ := hv.form
  have hm : (l.length : Int) ≤ 9223372036854775807 := by unfold maxLen at hcm; omega
  have hlen : ((l.drop A).take K).length = K := by rw [List.length_take, List.length_drop]; omega
  have HL := Lib.hid hlen
  clear hlen
  go_enter Try.func71, Try.ntmps71
  go_wp2
  go_loop [7, 8] (fun n i => ∃ j : Nat, j ≤ K ∧ i = .int .i64 ((j : Int) - 1) ∧ n = .int .u64 (leNat (((l.drop A).take K).drop j))) (fun _ i => (intOf i + 1).toNat)
  case atStart => exact ⟨K, Nat.le_refl _, rfl, by rw [List.drop_of_length_le (by rw [HL.out]; exact Nat.le_refl _)]; rfl⟩
  case round =>
    obtain ⟨j, hj, rfl, rfl⟩ := hrel
    by_cases h0 : j = 0
    · subst h0
      go_wp2
      go_ret
      exact ⟨rfl, rfl⟩
    · obtain ⟨i, rfl⟩ : ∃ i, j = i + 1 := ⟨j - 1, by omega⟩
      obtain ⟨g, off, c', hv', h1, h2, h3, h4, h5⟩ := hv.at_ (by omega)
      injection hv' with e1 e2 e3
      subst e1 e3
      have hck := h5 (A + i) (by omega)
      have hb : (l[A + i].toNat : Int) < 256 := by have := l[A + i].toNat_lt; omega
      have hs : Hid (leNat (((l.drop A).take K).drop i) = l[A + i].toNat + 256 * leNat (((l.drop A).take K).drop (i + 1))) := by
        have := leNat_drop ((l.drop A).take K) i (by rw [HL.out]; omega)
        rw [List.getElem_take, List.getElem_drop] at this
        exact this
      have hlt := leNat_lt (((l.drop A).take K).drop (i + 1))
      rw [List.length_drop, HL.out] at hlt
      have Hw := Lib.hid (refget_step _ l[A + i] _ (by omega) hlt)
      clear h5 h1 h2 h4 hlt
      generalize leNat (((l.drop A).take K).drop (i + 1)) = q at hs Hw
      have e0 : ((i + 1 : Nat) : Int) - 1 = (i : Int) := by omega
      rw [e0]
      clear e0
      go_wp2
      go_round
      case rel =>
        refine ⟨i, by omega, rfl, ?_⟩
        rw [hs.out, Hw.out]
      case measure => simp [intOf]

set_option maxHeartbeats 400000 in
theorem refput_any (w : World) (n : Nat) (sz : Int) (K : Nat) (hK : sz = K) (_hn : n < 18446744073709551616) (h8 : K ≤ 8) :
    Calls Try.prog 52 #[.int .u64 n, .int .i64 sz] w fun e w' => ∃ v, e = .returned v ∧ OwnB w' w.heap.size 5 v (leBytes K n) ∧ Below w.heap.size w w' := by
  subst hK
  go_enter Try.func52, Try.ntmps52
  go_wp2
  go_loopw [5, 6] (fun v i wr => ∃ k : Nat, k ≤ K ∧ i = .int .i64 (k : Int) ∧ OwnB wr w.heap.size 5 v (leBytes k n) ∧ Below w.heap.size w wr) (fun _ i _ => K - (intOf i).toNat)
  case atStart => exact ⟨0, Nat.zero_le _, rfl, World.ownsRow_nil _ _ _ _, Below.refl _ _⟩
  case round =>
    obtain ⟨k, hk, rfl, hown, hb⟩ := hrel
    by_cases hlt : k < K
    · have hx : RdB (fun _ => False) (wr.alloc (bobj [UInt8.ofNat (n / 256 ^ k)])) (.slice (some ⟨wr.heap.size, 0, none⟩) 1 1) [UInt8.ofNat (n / 256 ^ k)] := bobj_rd wr [_] 1 rfl (by simp [maxLen]) (fun h => h)
      have hB : w.heap.size ≤ (wr.alloc (bobj [UInt8.ofNat (n / 256 ^ k)])).heap.size := by have := hb.size; simp; omega
      obtain ⟨v', w', hr, h1, h2, h3, h4⟩ := append_bytes (ty := 23) (World.ownsRow.alloc hown _) hx (by rw [leBytes_length]; simp; omega) hB
      have hb' : Below w.heap.size w w' := (hb.alloc hb.size _).grown h2 hB (fun k hk => (hown.lt k hk).1)
      rw [← bobj_one wr _ ((n : Int) / 2 ^ (8 * k) % 256) (byte_cast n k)] at hr
      have H1 := Lib.hid h1
      have HR := Lib.hid hr
      clear h1 h2 h3 h4 hx hr hown hb hB
      go_wp2_with (at_builtin; refine wpList_append_eq rfl rfl HR.out rfl rfl ?_)
      go_roundw
      case rel => exact ⟨k + 1, by omega, by go_num, by rw [leBytes_snoc]; exact H1.out, hb'⟩
      case measure => simp [intOf]; omega
    · go_wp2_with fail
      go_ret
      obtain rfl : k = K := by omega
      exact ⟨_, rfl, hown, hb⟩


set_option maxHeartbeats 400000 in
theorem refmore_any {F : Foot} (w : World) (z : Int) (s : BitVec 32) (v : Value) (l : List UInt8) (hz : z = s.toNat) (hv : RdB F w v l) :
    Calls Try.prog 70 #[.int .u32 z, v] w fun e w' => e = .returned (.int .u32 ((crcMore s l).toNat)) ∧ w = w' := by
  obtain ⟨a, c, rfl, hlc, hcm⟩ := hv.form
  have hm : (l.length : Int) ≤ 9223372036854775807 := by unfold maxLen at hcm; omega
  have H0 : Hid (bits .xor .u32 z 4294967295 = ((s ^^^ 0xffffffff#32).toNat : Int)) := by rw [hz]; exact xor_u32 s 0xffffffff#32
  clear hz hcm hlc
  go_enter Try.func70, Try.ntmps70
  go_wp2
  go_loop [5, 6] (fun r i => ∃ k : Nat, k ≤ l.length ∧ i = .int .i64 k ∧ r = .int .u32 ((crcReg (s ^^^ 0xffffffff#32) (l.take k)).toNat)) (fun _ i => l.length - (intOf i).toNat)
  case atStart => exact ⟨0, Nat.zero_le _, rfl, by rw [H0.out]; rfl⟩
  case round =>
    obtain ⟨k, hk, rfl, rfl⟩ := hrel
    by_cases hlt : k < l.length
    · obtain ⟨g, off, c', hv', h1, h2, h3, h4, h5⟩ := hv.at_ (by omega)
      injection hv' with e1 e2 e3
      subst e1 e3
      have hck := h5 k hlt
      have hb : (l[k].toNat : Int) < 256 := by have := l[k].toNat_lt; omega
      have Hs : Hid (crcReg (s ^^^ 0xffffffff#32) (l.take (k + 1)) = crcIter 8 (crcReg (s ^^^ 0xffffffff#32) (l.take k) ^^^ l[k].toBitVec.setWidth 32)) := by
        rw [take_snoc l k hlt, crcReg_append]; rfl
      clear h5 h1 h2 h4
      generalize crcReg (s ^^^ 0xffffffff#32) (l.take k) = r at Hs
      have Hx := Lib.hid (xor_u32_byte r l[k])
      go_wp2
      go_loop [5, 7] (fun q i => ∃ j : Nat, j ≤ 8 ∧ i = .int .i64 j ∧ q = .int .u32 ((crcIter j (r ^^^ l[k].toBitVec.setWidth 32)).toNat)) (fun _ i => 8 - (intOf i).toNat)
      case atStart => exact ⟨0, Nat.zero_le _, rfl, by rw [Hx.out]; rfl⟩
      case round =>
        obtain ⟨j, hj, rfl, rfl⟩ := hrel
        by_cases hj8 : j < 8
        · have Ho1 := Lib.hid (crcIter_odd j (r ^^^ l[k].toBitVec.setWidth 32))
          have Ho2 := Lib.hid (crcIter_even j (r ^^^ l[k].toBitVec.setWidth 32))
          generalize (crcIter j (r ^^^ l[k].toBitVec.setWidth 32)).toNat = q at Ho1 Ho2
          by_cases hodd : (bits .and .u32 (q : Int) 1 == 1) = true
          · have Ho := Lib.hid (Ho1.out hodd)
            go_wp2
            go_round
            case rel => exact ⟨j + 1, by omega, by go_num, by rw [Ho.out]⟩
            case measure => simp [intOf]; omega
          · simp only [Bool.not_eq_true] at hodd
            have Ho := Lib.hid (Ho2.out hodd)
            go_wp2
            go_round
            case rel => exact ⟨j + 1, by omega, by go_num, by rw [Ho.out]⟩
            case measure => simp [intOf]; omega
        · obtain rfl : j = 8 := by omega
          go_wp2
          go_round
          case rel => exact ⟨k + 1, by omega, by go_num, by rw [Hs.out]⟩
          case measure => simp [intOf]; omega
    · obtain rfl : k = l.length := by omega
      have Hf := Lib.hid (xor_u32 (crcReg (s ^^^ 0xffffffff#32) (l.take l.length)) 0xffffffff#32)
      go_wp2
      go_ret
      refine ⟨ret_int ?_, rfl⟩
      have := Hf.out
      simp only [List.take_length] at this ⊢
      exact this

theorem refof_any {F : Foot} (w : World) (v : Value) (l : List UInt8) (hv : RdB F w v l) :
    Calls Try.prog 51 #[v] w fun e w' => e = .returned (.int .u32 ((crcOf l).toNat)) ∧ w = w' := by
  go_enter Try.func51, Try.ntmps51
  go_wp2_with (go_at_call 70; refine (refmore_any _ _ 0#32 _ l rfl hv).mono ?_; rintro e w' ⟨rfl, rfl⟩)
  go_ret
  exact ⟨rfl, rfl⟩

set_option maxHeartbeats 400000 in
/-- a number's bytes behind a row of the call's own -/
theorem lay_any (w : World) (base : Nat) (v : Value) (xs : List UInt8) (n : Nat) (sz : Int) (K : Nat) (hK : sz = K) (h8 : K ≤ 8) (ho : OwnB w base 5 v xs) (hbase : base ≤ w.heap.size) (hx : xs.length ≤ 140737488355000) :
    Calls Try.prog 35 #[v, .int .i64 sz, .int .u64 n] w fun e w' => ∃ v', e = .returned v' ∧ OwnB w' base 5 v' (xs ++ leBytes K n) ∧ Below base w w' := by
  subst hK
  go_enter Try.func35, Try.ntmps35
  go_wp2
  go_loopw [0, 9] (fun v i wr => ∃ k : Nat, k ≤ K ∧ i = .int .i64 (k : Int) ∧ OwnB wr base 5 v (xs ++ leBytes k n) ∧ Below base w wr) (fun _ i _ => K - (intOf i).toNat)
  case atStart => exact ⟨0, Nat.zero_le _, rfl, by simpa [leBytes] using ho, Below.refl _ _⟩
  case round =>
    obtain ⟨k, hk, rfl, hown, hb⟩ := hrel
    by_cases hlt : k < K
    · have hx2 : RdB (fun _ => False) (wr.alloc (bobj [UInt8.ofNat (n / 256 ^ k)])) (.slice (some ⟨wr.heap.size, 0, none⟩) 1 1) [UInt8.ofNat (n / 256 ^ k)] := bobj_rd wr [_] 1 rfl (by simp [maxLen]) (fun h => h)
      have hB : base ≤ (wr.alloc (bobj [UInt8.ofNat (n / 256 ^ k)])).heap.size := by have := hb.size; simp; omega
      obtain ⟨v', w', hr, h1, h2, h3, h4⟩ := append_bytes (ty := 23) (World.ownsRow.alloc hown _) hx2 (by rw [List.length_append, leBytes_length]; simp; omega) hB
      have hb' : Below base w w' := (hb.alloc (by have := hb.size; omega) _).grown h2 hB (fun k hk => (hown.lt k hk).1)
      rw [← bobj_one wr _ ((n : Int) / 2 ^ (8 * k) % 256) (byte_cast n k)] at hr
      have H1 := Lib.hid h1
      have HR := Lib.hid hr
      clear h1 h2 h3 h4 hx2 hr hown hb hB
      go_wp2_with (at_builtin; refine wpList_append_eq rfl rfl HR.out rfl rfl ?_)
      go_roundw
      case rel => exact ⟨k + 1, by omega, by go_num, by rw [leBytes_snoc, ← List.append_assoc]; exact H1.out, hb'⟩
      case measure => simp [intOf]; omega
    · go_wp2_with fail
      go_ret
      obtain rfl : k = K := by omega
      exact ⟨_, rfl, hown, hb⟩
end Mun
