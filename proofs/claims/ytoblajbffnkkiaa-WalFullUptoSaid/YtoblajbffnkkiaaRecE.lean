/- Contracts of what reads a body: a byte, a number, where it stands well. -/
import Derived.Test.YtoblajbffnkkiaaRecD
import Derived.Test.YtoblajbffnkkiaaDiskC
import Derived.OneCell
set_option maxRecDepth 100000
set_option linter.unusedVariables false
set_option linter.unusedSimpArgs false
namespace Mun
open Go Go.RowKit
open Go.Proofs

/-- a cursor: what is left of a body -/
structure CurAt (F : Foot) (w : World) (C : Nat) (v : Value) (l : List UInt8) : Prop where
  blk : w.heap[C]? = some (.cells #[v] 119 (0, 0))
  rd : RdB F w v l
  hC : F C

theorem CurAt.cell {F : Foot} {w : World} {C : Nat} {v : Value} {l : List UInt8} (h : CurAt F w C v l) : w.cell? ⟨C, 0, none⟩ = some v := cell_of_one h.blk
theorem CurAt.free {F : Foot} {w : World} {C : Nat} {v : Value} {l : List UInt8} (h : CurAt F w C v l) : w.frozen? ⟨C, 0, none⟩ = false := free_of_one h.blk
theorem CurAt.set {F : Foot} {w : World} {C : Nat} {v u : Value} {l l' : List UInt8} (h : CurAt F w C v l) (hr : RdB F w u l') : CurAt F (w.setCell ⟨C, 0, none⟩ u) C u l' :=
  ⟨one_setCell h.blk, hr.chg (chg_setCell w _ u h.hC), h.hC⟩
theorem CurAt.below {F : Foot} {w w' : World} {C : Nat} {v : Value} {l : List UInt8} (h : CurAt F w C v l) (hb : Below w.heap.size w w') : CurAt F w' C v l :=
  ⟨by rw [hb.block C (lt_of_block h.blk)]; exact h.blk, RdB.below h.rd hb, h.hC⟩
theorem CurAt.lt {F : Foot} {w : World} {C : Nat} {v : Value} {l : List UInt8} (h : CurAt F w C v l) : C < w.heap.size := lt_of_block h.blk

/-- what a step of the cursor leaves -/
def CPost (F : Foot) (w : World) (C : Nat) (l : List UInt8) (w' : World) : Prop := ∃ v', CurAt F w' C v' l ∧ Chg (B1 C) (B1 C) w w'

theorem must_yes (w : World) : Calls Try.prog 78 #[.bool true] w fun e w' => e = .returned (.tuple #[]) ∧ w = w' := by
  go_enter Try.func78, Try.ntmps78
  go_wp2
  go_end0
  exact ⟨rfl, rfl⟩

theorem byte_any {F : Foot} (w : World) (C : Nat) (v : Value) (b : UInt8) (l : List UInt8) (h : CurAt F w C v (b :: l)) :
    Calls Try.prog 74 #[.pointer (some ⟨C, 0, none⟩)] w fun e w' => e = .returned (.int .u8 b.toNat) ∧ CPost F w C l w' := by
  obtain ⟨g, off, c, rfl, h1, h2, h3, h4, h5⟩ := h.rd.at_ (by simp)
  have c0 := h.cell
  have f0 := h.free
  have b0 := h5 0 (by simp)
  simp only [Nat.add_zero, List.getElem_cons_zero] at b0
  obtain ⟨a1, c1, hr, hrd⟩ := slice_bytes_from h.rd 1 (by simp)
  rw [show (((1 : Nat)) : Int) = 1 from rfl] at hr
  have hset := h.set hrd
  simp only [List.drop_succ_cons, List.drop_zero] at hset
  have HS := Lib.hid hset
  obtain ⟨n, hn⟩ : ∃ n, (b :: l).length = n := ⟨_, rfl⟩
  have hpos : (0 : Int) < (n : Int) := by rw [← hn]; simp
  have hp0 : 0 < n := by omega
  rw [hn] at c0 hr HS
  have hm := must_yes w
  clear h h1 h2 h3 h4 h5 hrd hset hn
  go_enter Try.func74, Try.ntmps74
  go_wp2_with (go_at_call 78; refine hm.mono ?_; rintro e w' ⟨rfl, rfl⟩)
  go_ret
  exact ⟨rfl, _, HS.out, chg_setCell w _ _ rfl⟩

theorem and127 (b : Nat) (h : b < 256) : bits .and .u8 (b : Int) 127 = ((b % 128 : Nat) : Int) := by
  have key : ∀ a : Nat, a < 256 → bits .and .u8 (a : Int) 127 = ((a % 128 : Nat) : Int) := by decide +kernel
  exact key b h

/-- seven bits more -/
theorem num_step (a y k : Nat) (hk : k ≤ 9) (ha : a < 128 ^ k) (hy : y < 128) (hs : a + y * 128 ^ k < 18446744073709551616) :
    bits .or .u64 (a : Int) (IntKind.u64.wrap ((y : Int) * 2 ^ (7 * k))) = ((a + y * 128 ^ k : Nat) : Int) := by
  have e0 : (128 : Nat) ^ k = 2 ^ (7 * k) := by rw [show (128 : Nat) = 2 ^ 7 from rfl, ← Nat.pow_mul]
  rw [e0] at ha hs ⊢
  have e : ((y : Int) * 2 ^ (7 * k)) = ((y * 2 ^ (7 * k) : Nat) : Int) := by push_cast; rfl
  rw [e, wrap_u64_nat _ (by omega), u64_or_nat a _ (by omega) (by omega), or_shift _ _ _ ha]

set_option maxHeartbeats 1000000 in
/-- a number that was written is read -/
theorem number_any {F : Foot} (w : World) (C : Nat) (v : Value) (N : Nat) (l : List UInt8) (hN : N < 18446744073709551616) (h : CurAt F w C v (vi N ++ l)) :
    Calls Try.prog 75 #[.pointer (some ⟨C, 0, none⟩)] w fun e w' => e = .returned (.int .u64 N) ∧ CPost F w C l w' := by
  have HC := Lib.hid h
  have HN := Lib.hid hN
  clear h hN
  go_enter Try.func75, Try.ntmps75
  go_wp2
  go_loopw [2, 3] (fun n i wr => ∃ k : Nat, k ≤ 9 ∧ i = .int .i64 k ∧ n = .int .u64 ((N % 128 ^ k : Nat) : Int) ∧ (0 < k → 0 < N / 128 ^ k) ∧ CPost F w C (vi (N / 128 ^ k) ++ l) wr) (fun _ i _ => 10 - (intOf i).toNat)
  case atStart => exact ⟨0, Nat.zero_le _, rfl, by simp [Nat.mod_one], fun h => absurd h (Nat.lt_irrefl 0), v, by simpa using HC.out, Chg.refl _ _⟩
  case round =>
    obtain ⟨k, hk, rfl, rfl, hz, v1, hc1, hg1⟩ := hrel
    have HZ := Lib.hid hz
    have HG1 := Lib.hid hg1
    obtain ⟨M, hM⟩ : ∃ M, N / 128 ^ k = M := ⟨_, rfl⟩
    have hdm := Nat.div_add_mod N (128 ^ k)
    rw [hM] at hc1 hdm
    have hlt := Nat.mod_lt N (Nat.pow_pos (n := k) (show 0 < 128 by omega))
    obtain ⟨a, ha⟩ : ∃ a, N % 128 ^ k = a := ⟨_, rfl⟩
    rw [ha] at hdm hlt ⊢
    have hM9 : k = 9 → M ≤ 1 := by
      rintro rfl
      have := HN.out
      rw [show (128 : Nat) ^ 9 = 9223372036854775808 from rfl] at hdm
      omega
    have k0 : (0 : Int) ≤ (k : Int) := by omega
    have k9 : (k : Int) ≤ 9 := by omega
    by_cases hM1 : M < 128
    · rw [vi_lt hM1, List.singleton_append] at hc1
      have hb := byte_any wr C v1 _ _ hc1
      have hx : (UInt8.ofNat M).toNat = M := by rw [UInt8.toNat_ofNat']; omega
      rw [hx] at hb
      have hand := and127 M (by omega)
      rw [Nat.mod_eq_of_lt hM1] at hand
      have hsum : a + M * 128 ^ k = N := by rw [Nat.mul_comm, Nat.add_comm]; exact hdm
      have hst := num_step a M k hk hlt hM1 (by rw [hsum]; exact HN.out)
      rw [hsum] at hst
      clear hsum
      have HB := Lib.hid hb
      have HST := Lib.hid hst
      have m0 : (0 : Int) ≤ (M : Int) := by omega
      have m1 : (M : Int) < 128 := by omega
      have HZM : Hid (0 < k → 0 < M) := by rw [← hM]; exact HZ.out
      have hmst := fun w1 => must_yes w1
      have HMS := Lib.hid hmst
      have hm9 : k = 9 → (M : Int) ≤ 1 := fun h => by have := hM9 h; omega
      clear hb hst hx hc1 hdm hlt hz hg1 hM ha hmst hM9
      by_cases hM0 : M = 0
      · have hk0 : k = 0 := by
          rcases Nat.eq_zero_or_pos k with h | h
          · exact h
          · have := HZM.out h; omega
        have q1 : ¬ 0 < M := by omega
        have q2 : ((k : Int) == 0) = true := by rw [hk0]; rfl
        have h9' : (k : Int) < 9 := by omega
        clear hM0 hk0 hm9 hk
        · go_wp2_with (first | (go_at_call 74; refine HB.out.mono ?_; rintro e w2 ⟨rfl, v2, hc2, hg2⟩) | (go_at_call 78; refine (HMS.out _).mono ?_; rintro e w3 ⟨rfl, rfl⟩))
          go_ret
          exact ⟨ret_int HST.out, v2, hc2, HG1.out.trans hg2⟩
      · have q1 : 0 < M := by omega
        by_cases h9 : k = 9
        · have h9' : ¬ (k : Int) < 9 := by omega
          have h9'' : ((k : Int) == 9) = true := by rw [h9]; rfl
          have hm1 := hm9 h9
          clear hm9 h9 hk hM0
          go_wp2_with (first | (go_at_call 74; refine HB.out.mono ?_; rintro e w2 ⟨rfl, v2, hc2, hg2⟩) | (go_at_call 78; refine (HMS.out _).mono ?_; rintro e w3 ⟨rfl, rfl⟩))
          go_ret
          exact ⟨ret_int HST.out, v2, hc2, HG1.out.trans hg2⟩
        · have h9' : (k : Int) < 9 := by omega
          clear hm9 h9 hk hM0
          go_wp2_with (first | (go_at_call 74; refine HB.out.mono ?_; rintro e w2 ⟨rfl, v2, hc2, hg2⟩) | (go_at_call 78; refine (HMS.out _).mono ?_; rintro e w3 ⟨rfl, rfl⟩))
          go_ret
          exact ⟨ret_int HST.out, v2, hc2, HG1.out.trans hg2⟩
    · have hM2 : 128 ≤ M := by omega
      rw [vi_ge hM2, List.cons_append] at hc1
      have hb := byte_any wr C v1 _ _ hc1
      have hx : (UInt8.ofNat (M % 128 + 128)).toNat = M % 128 + 128 := by rw [UInt8.toNat_ofNat']; omega
      rw [hx] at hb
      obtain ⟨y, hy⟩ : ∃ y, M % 128 = y := ⟨_, rfl⟩
      have hy1 : y < 128 := by omega
      have hand := and127 (y + 128) (by omega)
      rw [show (y + 128) % 128 = y by omega] at hand
      have hkl : k < 9 := by
        rcases Nat.lt_or_ge k 9 with h | h
        · exact h
        · have := hM9 (by omega); omega
      have hy2 : y * 128 ^ k ≤ 128 ^ k * M := by
        rw [Nat.mul_comm]
        exact Nat.mul_le_mul_left _ (by omega)
      have hst := num_step a y k hk hlt hy1 (by have := HN.out; omega)
      have hdd : N / 128 ^ (k + 1) = M / 128 := by rw [Nat.pow_succ, ← Nat.div_div_eq_div_mul, hM]
      have hmd : N % 128 ^ (k + 1) = a + y * 128 ^ k := by
        rw [Nat.pow_succ, Nat.mod_mul, ha, hM, hy, Nat.mul_comm]
      obtain ⟨b8, hb8⟩ : ∃ b8, y + 128 = b8 := ⟨_, rfl⟩
      rw [hy, hb8] at hb
      rw [hb8] at hand
      have HB := Lib.hid hb
      have HST := Lib.hid hst
      have HDD := Lib.hid hdd
      have HMD := Lib.hid hmd
      have m0 : (0 : Int) ≤ (b8 : Int) := by omega
      have m1 : (b8 : Int) < 256 := by omega
      have m2 : ¬ (b8 : Int) < 128 := by omega
      have m3 : ¬ b8 < 128 := by omega
      have y0 : (0 : Int) ≤ (y : Int) := by omega
      have y1 : (y : Int) < 128 := by omega
      have HMS : Hid (∀ w1, Calls Try.prog 78 #[.bool true] w1 fun e w' => e = .returned (.tuple #[]) ∧ w1 = w') := fun w1 => must_yes w1
      have HM2 := Lib.hid hM2
      have HKL := Lib.hid hkl
      have h9' : (k : Int) < 9 := by omega
      clear hb hst hx hc1 hdm hlt hz hg1 hM ha hM9 hM2 hkl hy2 hdd hmd hb8 hy hy1 hM1 hk
      go_wp2_with (first | (go_at_call 74; refine HB.out.mono ?_; rintro e w2 ⟨rfl, v2, hc2, hg2⟩) | (go_at_call 78; refine (HMS.out _).mono ?_; rintro e w3 ⟨rfl, rfl⟩))
      go_roundw
      case rel => exact ⟨k + 1, HKL.out, by go_num, by rw [HMD.out, HST.out], fun _ => by rw [HDD.out]; have := HM2.out; omega, v2, by rw [HDD.out]; exact hc2, HG1.out.trans hg2⟩
      case measure => have := HKL.out; simp [intOf]; omega
end Mun
