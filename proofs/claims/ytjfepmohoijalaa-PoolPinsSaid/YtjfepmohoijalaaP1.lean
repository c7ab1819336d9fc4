/- Contracts of what pages need of sum and munimentref1. -/
import Derived.Test.YtjfepmohoijalaaSumW
import Derived.Test.YtjfepmohoijalaaLaw
set_option maxRecDepth 100000
set_option linter.unusedVariables false
namespace Mun
open Go Go.RowKit
open Go.Proofs

theorem of_any {F : Foot} (w : World) (v : Value) (l : List UInt8) (z : Int) (hz : ((crcOf l).toNat : Int) = z) (hv : RdB F w v l) :
    Calls Try.prog 43 #[v] w fun e w' => e = .returned (.int .u32 z) ∧ w = w' := by
  subst hz
  go_enter Try.func43, Try.ntmps43
  go_wp2_with (go_at_call 53; refine (more_any _ _ 0#32 _ l rfl hv).mono ?_; rintro e w' ⟨rfl, rfl⟩)
  go_ret
  exact ⟨rfl, rfl⟩

theorem ret_bool {a b : Bool} (h : a = b) : Ending.returned (.bool a) = .returned (.bool b) := by rw [h]

theorem refget_step (a : Nat) (b : UInt8) (k : Nat) (hk : k < 8) (ha : a < 256 ^ k) :
    bits .or .u64 (IntKind.u64.wrap ((a : Int) * 256)) (b.toNat : Int) = ((b.toNat + 256 * a : Nat) : Int) := by
  have h1 : 256 ^ k ≤ 256 ^ 7 := Nat.pow_le_pow_right (by omega) (by omega)
  have hb := b.toNat_lt
  have e : ((a : Int) * 256) = ((a * 2 ^ 8 : Nat) : Int) := by omega
  rw [e, wrap_u64_nat _ (by omega), u64_or_nat _ _ (by omega) (by omega), Nat.or_comm, or_shift _ _ 8 (by omega)]
  congr 1
  omega

theorem leNat_drop (l : List UInt8) (j : Nat) (h : j < l.length) : leNat (l.drop j) = l[j].toNat + 256 * leNat (l.drop (j + 1)) := by
  rw [List.drop_eq_getElem_cons h]; rfl

set_option maxHeartbeats 400000 in
theorem refput_any (w : World) (n : Nat) (sz : Int) (K : Nat) (hK : sz = K) (_hn : n < 18446744073709551616) (h8 : K ≤ 8) :
    Calls Try.prog 46 #[.int .u64 n, .int .i64 sz] w fun e w' => ∃ v, e = .returned v ∧ OwnB w' w.heap.size 5 v (leBytes K n) ∧ Below w.heap.size w w' := by
  subst hK
  go_enter Try.func46, Try.ntmps46
  go_wp2
  go_loopw [5, 6] (fun v i wr => ∃ k : Nat, k ≤ K ∧ i = .int .i64 (k : Int) ∧ OwnB wr w.heap.size 5 v (leBytes k n) ∧ Below w.heap.size w wr) (fun _ i _ => K - (intOf i).toNat)
  case atStart => exact ⟨0, Nat.zero_le _, rfl, World.ownsRow_nil _ _ _ _, Below.refl _ _⟩
  case round =>
    obtain ⟨k, hk, rfl, hown, hb⟩ := hrel
    by_cases hlt : k < K
    · have hx : RdB (fun _ => False) (wr.alloc (bobj [UInt8.ofNat (n / 256 ^ k)])) (.slice (some ⟨wr.heap.size, 0, none⟩) 1 1) [UInt8.ofNat (n / 256 ^ k)] := bobj_rd wr [_] 1 rfl (by simp [maxLen]) (fun h => h)
      have hB : w.heap.size ≤ (wr.alloc (bobj [UInt8.ofNat (n / 256 ^ k)])).heap.size := by have := hb.size; simp; omega
      obtain ⟨v', w', hr, h1, h2, h3, h4⟩ := append_bytes (ty := 31) (World.ownsRow.alloc hown _) hx (by rw [leBytes_length]; simp; omega) hB
      have hb' : Below w.heap.size w w' := (hb.alloc hb.size _).grown h2 hB (fun k hk => (hown.lt k hk).1)
      rw [← bobj_one wr _ ((n : Int) / 2 ^ (8 * k) % 256) (byte_cast n k)] at hr
      have H1 := Lib.hid h1
      have HR := Lib.hid hr
      clear h1 h2 h3 h4 hx hr hown hb hB
      go_wp2_with (at_builtin; refine wpList_append_eq rfl rfl HR.out rfl rfl ?_)
      go_roundw
      case rel => exact ⟨k + 1, by omega, by go_num, by rw [leBytes_snoc]; exact H1.out, hb'⟩
      case measure => simp [intOf]; omega
    · go_wp2_with fail
      go_ret
      obtain rfl : k = K := by omega
      exact ⟨_, rfl, hown, hb⟩


set_option maxHeartbeats 400000 in
/-- a number's bytes behind a row of the call's own -/
theorem lay_any (w : World) (base : Nat) (v : Value) (xs : List UInt8) (n : Nat) (sz : Int) (K : Nat) (hK : sz = K) (h8 : K ≤ 8) (ho : OwnB w base 5 v xs) (hbase : base ≤ w.heap.size) (hx : xs.length ≤ 140737488355000) :
    Calls Try.prog 54 #[v, .int .i64 sz, .int .u64 n] w fun e w' => ∃ v', e = .returned v' ∧ OwnB w' base 5 v' (xs ++ leBytes K n) ∧ Below base w w' := by
  subst hK
  go_enter Try.func54, Try.ntmps54
  go_wp2
  go_loopw [0, 9] (fun v i wr => ∃ k : Nat, k ≤ K ∧ i = .int .i64 (k : Int) ∧ OwnB wr base 5 v (xs ++ leBytes k n) ∧ Below base w wr) (fun _ i _ => K - (intOf i).toNat)
  case atStart => exact ⟨0, Nat.zero_le _, rfl, by simpa [leBytes] using ho, Below.refl _ _⟩
  case round =>
    obtain ⟨k, hk, rfl, hown, hb⟩ := hrel
    by_cases hlt : k < K
    · have hx2 : RdB (fun _ => False) (wr.alloc (bobj [UInt8.ofNat (n / 256 ^ k)])) (.slice (some ⟨wr.heap.size, 0, none⟩) 1 1) [UInt8.ofNat (n / 256 ^ k)] := bobj_rd wr [_] 1 rfl (by simp [maxLen]) (fun h => h)
      have hB : base ≤ (wr.alloc (bobj [UInt8.ofNat (n / 256 ^ k)])).heap.size := by have := hb.size; simp; omega
      obtain ⟨v', w', hr, h1, h2, h3, h4⟩ := append_bytes (ty := 31) (World.ownsRow.alloc hown _) hx2 (by rw [List.length_append, leBytes_length]; simp; omega) hB
      have hb' : Below base w w' := (hb.alloc (by have := hb.size; omega) _).grown h2 hB (fun k hk => (hown.lt k hk).1)
      rw [← bobj_one wr _ ((n : Int) / 2 ^ (8 * k) % 256) (byte_cast n k)] at hr
      have H1 := Lib.hid h1
      have HR := Lib.hid hr
      clear h1 h2 h3 h4 hx2 hr hown hb hB
      go_wp2_with (at_builtin; refine wpList_append_eq rfl rfl HR.out rfl rfl ?_)
      go_roundw
      case rel => exact ⟨k + 1, by omega, by go_num, by rw [leBytes_snoc, ← List.append_assoc]; exact H1.out, hb'⟩
      case measure => simp [intOf]; omega
    · go_wp2_with fail
      go_ret
      obtain rfl : k = K := by omega
      exact ⟨_, rfl, hown, hb⟩
end Mun
