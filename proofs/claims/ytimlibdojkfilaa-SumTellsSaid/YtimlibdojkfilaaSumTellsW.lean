import Derived.Test.YtimlibdojkfilaaSumU
import Derived.Test.YtimlibdojkfilaaFlip
set_option maxRecDepth 100000
set_option linter.unusedVariables false
namespace Mun
open Go Go.RowKit
open Go.Proofs

theorem below_alloc1 (w : World) (o : Obj) : Below w.heap.size w (w.alloc o) := (Below.refl _ _).alloc (Nat.le_refl _) o

theorem xor_u8_pow (b : UInt8) (s : Nat) (hs : s < 8) : bits .xor .u8 (b.toNat : Int) (2 ^ s % 256) = ((b ^^^ UInt8.ofNat (2 ^ s)).toNat : Int) := by
  have h : (2 ^ s : Nat) < 256 := by
    have : 2 ^ s ≤ 2 ^ 7 := Nat.pow_le_pow_right (by omega) (by omega)
    omega
  have e : ((2 : Int) ^ s % 256) = ((2 ^ s : Nat) : Int) := by
    have e1 : ((2 : Int) ^ s) = ((2 ^ s : Nat) : Int) := by push_cast; rfl
    rw [e1]; exact Int.emod_eq_of_lt (Int.natCast_nonneg _) (by exact_mod_cast h)
  rw [e, u8_xor_nat _ _ b.toNat_lt h, UInt8.toNat_xor, UInt8.toNat_ofNat', Nat.mod_eq_of_lt h]

theorem and1_row (row j : Nat) (hr : row < 4294967296) : bits .and .u32 ((row : Int) / 2 ^ j) 1 = ((row / 2 ^ j % 2 : Nat) : Int) := by
  have e : ((row : Int) / 2 ^ j) = ((row / 2 ^ j : Nat) : Int) := by push_cast; rfl
  have h : row / 2 ^ j < 4294967296 := Nat.lt_of_le_of_lt (Nat.div_le_self _ _) hr
  rw [e, show (1 : Int) = ((1 : Nat) : Int) from rfl, u32_and_nat _ _ h (by omega), Nat.and_one_is_mod]

theorem testBit_row (row j : Nat) (hr : row < 4294967296) : (bits .and .u32 ((row : Int) / 2 ^ j) 1 == 1) = row.testBit j := by
  rw [and1_row row j hr, Nat.testBit_eq_decide_div_mod_eq, Bool.eq_iff_iff, beq_iff_eq, decide_eq_true_eq]
  omega

theorem u32_beq (a b : BitVec 32) : ((a.toNat : Int) == (b.toNat : Int)) = decide (a = b) := by
  by_cases h : a = b
  · subst h; simp
  · rw [decide_eq_false h, beq_eq_false_iff_ne]
    intro h'
    exact h (BitVec.eq_of_toNat_eq (by omega))

set_option maxHeartbeats 2000000 in
theorem tells_main (w : World) (v : Value) (l : List UInt8) (bit : Int) (row : Nat) (hv : RdB NoF w v l) (hlen : l.length ≤ 140737488351232) (hr : row < 4294967296)
    (hl0 : 0 < l.length) (hr0 : 0 < row) (hb1 : -9223372036854775808 ≤ bit) (hb2 : bit ≤ 9223372036854775807) :
    Calls Try.prog 3 #[v, .int .i64 bit, .int .u32 row] w fun e w' => e = .returned (.bool true) ∧ Below w.heap.size w w' := by
  have HRW := Lib.hid hr
  clear hr
  obtain ⟨a, n, c, rfl, HN, hlc, hcm⟩ := hv.formN
  have hm : (n : Int) ≤ 140737488351232 := by rw [HN.out]; omega
  have hl1 : ((n : Int) == 0) = false := by have := HN.out; simp; omega
  have hrr : ((row : Int) == 0) = false := by simp; omega
  have hn0 : (0 : Int) < n := by rw [HN.out]; omega
  obtain ⟨m, hmd⟩ : ∃ m, bit.tmod (8 * (n : Int)) = m := ⟨_, rfl⟩
  have hm1 : m < 8 * n := by rw [← hmd]; exact Int.tmod_lt_of_pos _ (by omega)
  have hm2 : -(8 * n) < m := by
    rw [← hmd]
    have := Int.tmod_lt_of_pos (-bit) (b := 8 * (n : Int)) (by omega)
    rw [Int.neg_tmod] at this
    omega
  clear hl0 hr0
  have hcase : (∃ K : Nat, m = -(K : Int) ∧ m < 0) ∨ (∃ K : Nat, m = (K : Int) ∧ 0 ≤ m) := by
    by_cases h : m < 0
    · exact .inl ⟨(-m).toNat, by omega, h⟩
    · exact .inr ⟨m.toNat, by omega, by omega⟩
  rcases hcase with ⟨K, rfl, hK0⟩ | ⟨K, rfl, hK0⟩
  all_goals
    have hK8 : (K : Int) < 8 * n := by omega
    go_enter Try.func3, Try.ntmps3
    go_wp2_with (first
      | (go_at_call 7; refine (awake1 _).mono ?_; rintro e w2 ⟨rfl, hbw⟩
         obtain ⟨g, cap, w3, hr, ho, hB3, hgw⟩ := append_empty_bytes (ty := 22) (hv.below hbw) (by omega)
         rw [← HN.out] at ho hr
         have HO := Lib.hid ho
         have HR := Lib.hid hr
         clear ho hr)
      | (at_builtin; refine wpList_append_eq rfl rfl HR.out rfl rfl ?_))
    clear HR hmd
    go_loopw [9] (fun i wr => ∃ j : Nat, j ≤ 32 ∧ i = .int .i64 (j : Int) ∧ OwnB wr w2.heap.size 5 (.slice (some ⟨g, 0, none⟩) n cap) (flips l K row j) ∧ Below w2.heap.size w2 wr) (fun i _ => 32 - (intOf i).toNat)
    case atStart => exact ⟨0, by omega, rfl, HO.out, hB3⟩
    case round =>
      obtain ⟨j, hj, rfl, ho, hB⟩ := hrel
      by_cases hin : j < 32 ∧ K + j < 8 * n
      · obtain ⟨hj32, hKj⟩ := hin
        have hlen2 := flips_length l K row j
        have hin2 : (K + j) / 8 < (flips l K row j).length := by rw [hlen2, ← HN.out]; omega
        have hc := ho.cellAt ((K + j) / 8) hin2
        rw [show (flips l K row j)[(K + j) / 8] = (flips l K row j).getD ((K + j) / 8) 0 by rw [List.getD_eq_getElem?_getD, List.getElem?_eq_getElem hin2]; rfl] at hc
        have hf := ho.frozenAt (by omega) ((K + j) / 8)
        have Hin2 := Lib.hid hin2
        clear hlen2 hin2
        generalize hb0 : (flips l K row j).getD ((K + j) / 8) 0 = b0 at hc
        have HB0 := Lib.hid hb0
        clear hb0
        have hbb : (b0.toNat : Int) < 256 := by have := b0.toNat_lt; omega
        have Htb := Lib.hid (testBit_row row j HRW.out)
        by_cases ht : (bits .and .u32 ((row : Int) / 2 ^ j) 1 == 1) = true
        · have HX := Lib.hid (xor_u8_pow b0 ((K + j) % 8) (by omega))
          go_wp2
          go_roundw
          case rel =>
            refine ⟨j + 1, by omega, by go_num, ?_, hB.setCell hgw _⟩
            rw [HX.out]
            have e : flips l K row (j + 1) = (flips l K row j).set ((K + j) / 8) (b0 ^^^ UInt8.ofNat (2 ^ ((K + j) % 8))) := by
              rw [flips, if_pos ⟨by rw [← HN.out]; exact hKj, by rw [← Htb.out]; exact ht⟩, flipBit, HB0.out]
            rw [e]
            exact ho.set rfl Hin2.out _ _ rfl
          case measure => simp [intOf]; omega
        · simp only [Bool.not_eq_true] at ht
          go_wp2
          go_roundw
          case rel =>
            refine ⟨j + 1, by omega, by go_num, ?_, hB⟩
            rw [flips, if_neg (fun h => by rw [← Htb.out, ht] at h; exact absurd h.2 (by simp))]
            exact ho
          case measure => simp [intOf]; omega
      · have hva : RdB NoF wr (.slice a n c) l := (hv.below hbw).keep (w' := wr) (fun k hk _ => hB.block k hk) (fun _ _ h => h)
        have hvb := ho.rd (F := NoF) (fun _ _ => noF _)
        have hs1 : ∀ k, (convert 22 9 (.slice a n c)).run Try.prog (wr.drewN k) = .ok (.string (strOf l)) (wr.drewN k) := fun k => str_bytes (F := NoF) (w := wr.drewN k) hva
        have hs2 : ∀ k, (convert 22 9 (.slice (some ⟨g, 0, none⟩) n cap)).run Try.prog (wr.drewN k) = .ok (.string (strOf (flips l K row j))) (wr.drewN k) := fun k => str_bytes (F := NoF) (w := wr.drewN k) hvb
        have hfin : Hid (((((crcOf l).toNat : Int) == ((crcOf (flips l K row j)).toNat : Int)) == ((strOf l).toList == (strOf (flips l K row j)).toList)) = true) := by
          show _ = _
          rw [u32_beq, strOf_eq, beq_iff_eq, Bool.eq_iff_iff, decide_eq_true_eq, decide_eq_true_eq]
          exact flips_told l K row j hj
        have hdis : 32 ≤ j ∨ (j < 32 ∧ 8 * n ≤ K + j) := by omega
        clear hin
        rcases hdis with hd1 | ⟨hd1, hd2⟩
        all_goals
          go_wp2
          go_quiet ((first
            | (go_at_call 8; exact quiet_eq (of_any (F := NoF) _ _ l _ rfl (hva.drewN _)))
            | (go_at_call 8; exact quiet_eq (of_any (F := NoF) _ _ (flips l K row j) _ rfl (hvb.drewN _)))))
          go_wp2
          go_ret
          exact ⟨ret_bool hfin.out, below_drewN (hbw.trans (hB.mono hbw.size)) _⟩

theorem tells_none (w : World) (v : Value) (l : List UInt8) (bit : Int) (row : Nat) (hv : RdB NoF w v l) (h0 : l.length = 0 ∨ row = 0) :
    Calls Try.prog 3 #[v, .int .i64 bit, .int .u32 row] w fun e w' => e = .returned (.bool true) ∧ Below w.heap.size w w' := by
  obtain ⟨a, n, c, rfl, HN, hlc, hcm⟩ := hv.formN
  rcases h0 with h0 | h0
  · have hl1 : ((n : Int) == 0) = true := by have := HN.out; simp; omega
    clear h0 hv
    go_enter Try.func3, Try.ntmps3
    go_wp2_with (go_at_call 7; refine (awake1 _).mono ?_; rintro e w2 ⟨rfl, hbw⟩)
    go_ret
    exact ⟨rfl, by assumption⟩
  · have hl1 : ((row : Int) == 0) = true := by simp; omega
    clear h0 hv
    by_cases hn : ((n : Int) == 0) = true
    · go_enter Try.func3, Try.ntmps3
      go_wp2_with (go_at_call 7; refine (awake1 _).mono ?_; rintro e w2 ⟨rfl, hbw⟩)
      go_ret
      exact ⟨rfl, by assumption⟩
    · simp only [Bool.not_eq_true] at hn
      go_enter Try.func3, Try.ntmps3
      go_wp2_with (go_at_call 7; refine (awake1 _).mono ?_; rintro e w2 ⟨rfl, hbw⟩)
      go_ret
      exact ⟨rfl, by assumption⟩

theorem tells_all (w : World) (v : Value) (l : List UInt8) (bit : Int) (row : Nat) (hv : RdB NoF w v l) (hlen : l.length ≤ 140737488351232) (hr : row ≤ 4294967295)
    (hb1 : -9223372036854775808 ≤ bit) (hb2 : bit ≤ 9223372036854775807) :
    Calls Try.prog 3 #[v, .int .i64 bit, .int .u32 row] w fun e w' => e = .returned (.bool true) ∧ Below w.heap.size w w' := by
  by_cases h : l.length = 0 ∨ row = 0
  · exact tells_none w v l bit row hv h
  · exact tells_main w v l bit row hv hlen (by omega) (by omega) (by omega) hb1 hb2

end Mun
