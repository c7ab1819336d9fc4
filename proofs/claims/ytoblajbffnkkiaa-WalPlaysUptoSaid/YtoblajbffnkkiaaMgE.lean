/- Texts of mine, one behind the other: RecE, RecF, RecG, RecH, RecI, RecJ, RecK, RecL, RecS. -/
import Derived.Test.YtoblajbffnkkiaaMgC
import Derived.Test.YtoblajbffnkkiaaMgD
import Derived.OneCell
import Derived.Laws.Rows
import Derived.Laws.Tables
import Derived.Deep.DeepCutAuto
import Derived.Defers
import Derived.Recover
section
/- Contracts of what reads a body: a byte, a number, where it stands well. -/
set_option maxRecDepth 100000
set_option linter.unusedVariables false
set_option linter.unusedSimpArgs false
namespace Mun
open Go Go.RowKit
open Go.Proofs

/-- a cursor: what is left of a body -/
structure CurAt (F : Foot) (w : World) (C : Nat) (v : Value) (l : List UInt8) : Prop where
  blk : w.heap[C]? = some (.cells #[v] 119 (0, 0))
  rd : RdB F w v l
  hC : F C

theorem CurAt.cell {F : Foot} {w : World} {C : Nat} {v : Value} {l : List UInt8} (h : CurAt F w C v l) : w.cell? ⟨C, 0, none⟩ = some v := cell_of_one h.blk
theorem CurAt.free {F : Foot} {w : World} {C : Nat} {v : Value} {l : List UInt8} (h : CurAt F w C v l) : w.frozen? ⟨C, 0, none⟩ = false := free_of_one h.blk
theorem CurAt.set {F : Foot} {w : World} {C : Nat} {v u : Value} {l l' : List UInt8} (h : CurAt F w C v l) (hr : RdB F w u l') : CurAt F (w.setCell ⟨C, 0, none⟩ u) C u l' :=
  ⟨one_setCell h.blk, hr.chg (chg_setCell w _ u h.hC), h.hC⟩
theorem CurAt.below {F : Foot} {w w' : World} {C : Nat} {v : Value} {l : List UInt8} (h : CurAt F w C v l) (hb : Below w.heap.size w w') : CurAt F w' C v l :=
  ⟨by rw [hb.block C (lt_of_block h.blk)]; exact h.blk, RdB.below h.rd hb, h.hC⟩
theorem CurAt.lt {F : Foot} {w : World} {C : Nat} {v : Value} {l : List UInt8} (h : CurAt F w C v l) : C < w.heap.size := lt_of_block h.blk

/-- what a step of the cursor leaves -/
def CPost (F : Foot) (w : World) (C : Nat) (l : List UInt8) (w' : World) : Prop := ∃ v', CurAt F w' C v' l ∧ Chg (B1 C) (B1 C) w w'

theorem must_yes (w : World) : Calls Try.prog 78 #[.bool true] w fun e w' => e = .returned (.tuple #[]) ∧ w = w' := by
  go_enter Try.func78, Try.ntmps78
  go_wp2
  go_end0
  exact ⟨rfl, rfl⟩

theorem byte_any {F : Foot} (w : World) (C : Nat) (v : Value) (b : UInt8) (l : List UInt8) (h : CurAt F w C v (b :: l)) :
    Calls Try.prog 74 #[.pointer (some ⟨C, 0, none⟩)] w fun e w' => e = .returned (.int .u8 b.toNat) ∧ CPost F w C l w' := by
  obtain ⟨g, off, c, rfl, h1, h2, h3, h4, h5⟩ := h.rd.at_ (by simp)
  have c0 := h.cell
  have f0 := h.free
  have b0 := h5 0 (by simp)
  simp only [Nat.add_zero, List.getElem_cons_zero] at b0
  obtain ⟨a1, c1, hr, hrd⟩ := slice_bytes_from h.rd 1 (by simp)
  rw [show (((1 : Nat)) : Int) = 1 from rfl] at hr
  have hset := h.set hrd
  simp only [List.drop_succ_cons, List.drop_zero] at hset
  have HS := Lib.hid hset
  obtain ⟨n, hn⟩ : ∃ n, (b :: l).length = n := ⟨_, rfl⟩
  have hpos : (0 : Int) < (n : Int) := by rw [← hn]; simp
  have hp0 : 0 < n := by omega
  rw [hn] at c0 hr HS
  have hm := must_yes w
  clear h h1 h2 h3 h4 h5 hrd hset hn
  go_enter Try.func74, Try.ntmps74
  go_wp2_with (go_at_call 78; refine hm.mono ?_; rintro e w' ⟨rfl, rfl⟩)
  go_ret
  exact ⟨rfl, _, HS.out, chg_setCell w _ _ rfl⟩

theorem and127 (b : Nat) (h : b < 256) : bits .and .u8 (b : Int) 127 = ((b % 128 : Nat) : Int) := by
  have key : ∀ a : Nat, a < 256 → bits .and .u8 (a : Int) 127 = ((a % 128 : Nat) : Int) := by decide +kernel
  exact key b h

/-- seven bits more -/
theorem num_step (a y k : Nat) (hk : k ≤ 9) (ha : a < 128 ^ k) (hy : y < 128) (hs : a + y * 128 ^ k < 18446744073709551616) :
    bits .or .u64 (a : Int) (IntKind.u64.wrap ((y : Int) * 2 ^ (7 * k))) = ((a + y * 128 ^ k : Nat) : Int) := by
  have e0 : (128 : Nat) ^ k = 2 ^ (7 * k) := by rw [show (128 : Nat) = 2 ^ 7 from rfl, ← Nat.pow_mul]
  rw [e0] at ha hs ⊢
  have e : ((y : Int) * 2 ^ (7 * k)) = ((y * 2 ^ (7 * k) : Nat) : Int) := by push_cast; rfl
  rw [e, wrap_u64_nat _ (by omega), u64_or_nat a _ (by omega) (by omega), or_shift _ _ _ ha]

set_option maxHeartbeats 1000000 in
/-- a number that was written is read -/
theorem number_any {F : Foot} (w : World) (C : Nat) (v : Value) (N : Nat) (l : List UInt8) (hN : N < 18446744073709551616) (h : CurAt F w C v (vi N ++ l)) :
    Calls Try.prog 75 #[.pointer (some ⟨C, 0, none⟩)] w fun e w' => e = .returned (.int .u64 N) ∧ CPost F w C l w' := by
  have HC := Lib.hid h
  have HN := Lib.hid hN
  clear h hN
  go_enter Try.func75, Try.ntmps75
  go_wp2
  go_loopw [2, 3] (fun n i wr => ∃ k : Nat, k ≤ 9 ∧ i = .int .i64 k ∧ n = .int .u64 ((N % 128 ^ k : Nat) : Int) ∧ (0 < k → 0 < N / 128 ^ k) ∧ CPost F w C (vi (N / 128 ^ k) ++ l) wr) (fun _ i _ => 10 - (intOf i).toNat)
  case atStart => exact ⟨0, Nat.zero_le _, rfl, by simp [Nat.mod_one], fun h => absurd h (Nat.lt_irrefl 0), v, by simpa using HC.out, Chg.refl _ _⟩
  case round =>
    obtain ⟨k, hk, rfl, rfl, hz, v1, hc1, hg1⟩ := hrel
    have HZ := Lib.hid hz
    have HG1 := Lib.hid hg1
    obtain ⟨M, hM⟩ : ∃ M, N / 128 ^ k = M := ⟨_, rfl⟩
    have hdm := Nat.div_add_mod N (128 ^ k)
    rw [hM] at hc1 hdm
    have hlt := Nat.mod_lt N (Nat.pow_pos (n := k) (show 0 < 128 by omega))
    obtain ⟨a, ha⟩ : ∃ a, N % 128 ^ k = a := ⟨_, rfl⟩
    rw [ha] at hdm hlt ⊢
    have hM9 : k = 9 → M ≤ 1 := by
      rintro rfl
      have := HN.out
      rw [show (128 : Nat) ^ 9 = 9223372036854775808 from rfl] at hdm
      omega
    have k0 : (0 : Int) ≤ (k : Int) := by omega
    have k9 : (k : Int) ≤ 9 := by omega
    by_cases hM1 : M < 128
    · rw [vi_lt hM1, List.singleton_append] at hc1
      have hb := byte_any wr C v1 _ _ hc1
      have hx : (UInt8.ofNat M).toNat = M := by rw [UInt8.toNat_ofNat']; omega
      rw [hx] at hb
      have hand := and127 M (by omega)
      rw [Nat.mod_eq_of_lt hM1] at hand
      have hsum : a + M * 128 ^ k = N := by rw [Nat.mul_comm, Nat.add_comm]; exact hdm
      have hst := num_step a M k hk hlt hM1 (by rw [hsum]; exact HN.out)
      rw [hsum] at hst
      clear hsum
      have HB := Lib.hid hb
      have HST := Lib.hid hst
      have m0 : (0 : Int) ≤ (M : Int) := by omega
      have m1 : (M : Int) < 128 := by omega
      have HZM : Hid (0 < k → 0 < M) := by rw [← hM]; exact HZ.out
      have hmst := fun w1 => must_yes w1
      have HMS := Lib.hid hmst
      have hm9 : k = 9 → (M : Int) ≤ 1 := fun h => by have := hM9 h; omega
      clear hb hst hx hc1 hdm hlt hz hg1 hM ha hmst hM9
      by_cases hM0 : M = 0
      · have hk0 : k = 0 := by
          rcases Nat.eq_zero_or_pos k with h | h
          · exact h
          · have := HZM.out h; omega
        have q1 : ¬ 0 < M := by omega
        have q2 : ((k : Int) == 0) = true := by rw [hk0]; rfl
        have h9' : (k : Int) < 9 := by omega
        clear hM0 hk0 hm9 hk
        · go_wp2_with (first | (go_at_call 74; refine HB.out.mono ?_; rintro e w2 ⟨rfl, v2, hc2, hg2⟩) | (go_at_call 78; refine (HMS.out _).mono ?_; rintro e w3 ⟨rfl, rfl⟩))
          go_ret
          exact ⟨ret_int HST.out, v2, hc2, HG1.out.trans hg2⟩
      · have q1 : 0 < M := by omega
        by_cases h9 : k = 9
        · have h9' : ¬ (k : Int) < 9 := by omega
          have h9'' : ((k : Int) == 9) = true := by rw [h9]; rfl
          have hm1 := hm9 h9
          clear hm9 h9 hk hM0
          go_wp2_with (first | (go_at_call 74; refine HB.out.mono ?_; rintro e w2 ⟨rfl, v2, hc2, hg2⟩) | (go_at_call 78; refine (HMS.out _).mono ?_; rintro e w3 ⟨rfl, rfl⟩))
          go_ret
          exact ⟨ret_int HST.out, v2, hc2, HG1.out.trans hg2⟩
        · have h9' : (k : Int) < 9 := by omega
          clear hm9 h9 hk hM0
          go_wp2_with (first | (go_at_call 74; refine HB.out.mono ?_; rintro e w2 ⟨rfl, v2, hc2, hg2⟩) | (go_at_call 78; refine (HMS.out _).mono ?_; rintro e w3 ⟨rfl, rfl⟩))
          go_ret
          exact ⟨ret_int HST.out, v2, hc2, HG1.out.trans hg2⟩
    · have hM2 : 128 ≤ M := by omega
      rw [vi_ge hM2, List.cons_append] at hc1
      have hb := byte_any wr C v1 _ _ hc1
      have hx : (UInt8.ofNat (M % 128 + 128)).toNat = M % 128 + 128 := by rw [UInt8.toNat_ofNat']; omega
      rw [hx] at hb
      obtain ⟨y, hy⟩ : ∃ y, M % 128 = y := ⟨_, rfl⟩
      have hy1 : y < 128 := by omega
      have hand := and127 (y + 128) (by omega)
      rw [show (y + 128) % 128 = y by omega] at hand
      have hkl : k < 9 := by
        rcases Nat.lt_or_ge k 9 with h | h
        · exact h
        · have := hM9 (by omega); omega
      have hy2 : y * 128 ^ k ≤ 128 ^ k * M := by
        rw [Nat.mul_comm]
        exact Nat.mul_le_mul_left _ (by omega)
      have hst := num_step a y k hk hlt hy1 (by have := HN.out; omega)
      have hdd : N / 128 ^ (k + 1) = M / 128 := by rw [Nat.pow_succ, ← Nat.div_div_eq_div_mul, hM]
      have hmd : N % 128 ^ (k + 1) = a + y * 128 ^ k := by
        rw [Nat.pow_succ, Nat.mod_mul, ha, hM, hy, Nat.mul_comm]
      obtain ⟨b8, hb8⟩ : ∃ b8, y + 128 = b8 := ⟨_, rfl⟩
      rw [hy, hb8] at hb
      rw [hb8] at hand
      have HB := Lib.hid hb
      have HST := Lib.hid hst
      have HDD := Lib.hid hdd
      have HMD := Lib.hid hmd
      have m0 : (0 : Int) ≤ (b8 : Int) := by omega
      have m1 : (b8 : Int) < 256 := by omega
      have m2 : ¬ (b8 : Int) < 128 := by omega
      have m3 : ¬ b8 < 128 := by omega
      have y0 : (0 : Int) ≤ (y : Int) := by omega
      have y1 : (y : Int) < 128 := by omega
      have HMS : Hid (∀ w1, Calls Try.prog 78 #[.bool true] w1 fun e w' => e = .returned (.tuple #[]) ∧ w1 = w') := fun w1 => must_yes w1
      have HM2 := Lib.hid hM2
      have HKL := Lib.hid hkl
      have h9' : (k : Int) < 9 := by omega
      clear hb hst hx hc1 hdm hlt hz hg1 hM ha hM9 hM2 hkl hy2 hdd hmd hb8 hy hy1 hM1 hk
      go_wp2_with (first | (go_at_call 74; refine HB.out.mono ?_; rintro e w2 ⟨rfl, v2, hc2, hg2⟩) | (go_at_call 78; refine (HMS.out _).mono ?_; rintro e w3 ⟨rfl, rfl⟩))
      go_roundw
      case rel => exact ⟨k + 1, HKL.out, by go_num, by rw [HMD.out, HST.out], fun _ => by rw [HDD.out]; have := HM2.out; omega, v2, by rw [HDD.out]; exact hc2, HG1.out.trans hg2⟩
      case measure => have := HKL.out; simp [intOf]; omega
end Mun
end

section
/- Contracts of what reads a body: a small number, a chunk, a change. -/
set_option maxRecDepth 100000
set_option linter.unusedVariables false
set_option linter.unusedSimpArgs false
namespace Mun
open Go Go.RowKit
open Go.Proofs

theorem small_any {F : Foot} (w : World) (C : Nat) (v : Value) (N : Nat) (l : List UInt8) (hN : N ≤ 1048576) (h : CurAt F w C v (vi N ++ l)) :
    Calls Try.prog 77 #[.pointer (some ⟨C, 0, none⟩)] w fun e w' => e = .returned (.int .i64 N) ∧ CPost F w C l w' := by
  have hn := number_any w C v N l (by omega) h
  have HN := Lib.hid hn
  have n0 : (0 : Int) ≤ (N : Int) := by omega
  have n1 : (N : Int) ≤ 1048576 := by omega
  have n2 : N ≤ 1048576 := hN
  have HMS : Hid (∀ w1, Calls Try.prog 78 #[.bool true] w1 fun e w' => e = .returned (.tuple #[]) ∧ w1 = w') := fun w1 => must_yes w1
  clear hn h hN
  go_enter Try.func77, Try.ntmps77
  go_wp2_with (first | (go_at_call 75; refine HN.out.mono ?_; rintro e w2 ⟨rfl, hp⟩) | (go_at_call 78; refine (HMS.out _).mono ?_; rintro e w3 ⟨rfl, rfl⟩))
  go_ret
  exact ⟨rfl, hp⟩

/-- bytes just copied -/
def NewB (w w' : World) (v : Value) (b : List UInt8) : Prop := v = .slice (some ⟨w'.heap.size, 0, none⟩) b.length b.length

set_option maxHeartbeats 1000000 in
theorem textr_any {F : Foot} (w : World) (C : Nat) (v : Value) (b l : List UInt8) (hb : b.length ≤ 1048576) (h : CurAt F w C v (txt b ++ l)) :
    Calls Try.prog 76 #[.pointer (some ⟨C, 0, none⟩)] w fun e w' => ∃ g n, e = .returned (.slice (some ⟨g, 0, none⟩) n n) ∧ Hid (n = b.length) ∧ OwnB w' w.heap.size 5 (.slice (some ⟨g, 0, none⟩) n n) b ∧ CPost F w C l w' := by
  unfold txt at h
  rw [List.append_assoc] at h
  obtain ⟨n, hn⟩ : ∃ n, b.length = n := ⟨_, rfl⟩
  rw [hn] at h
  have hs := small_any w C v n _ (by omega) h
  have HS := Lib.hid hs
  have n0 : (0 : Int) ≤ (n : Int) := by omega
  have n1 : (n : Int) ≤ 1048576 := by omega
  have HN := Lib.hid hn
  have HLT := Lib.hid h.lt
  have HMS : Hid (∀ w1, Calls Try.prog 78 #[.bool true] w1 fun e w' => e = .returned (.tuple #[]) ∧ w1 = w') := fun w1 => must_yes w1
  clear hs h hb hn
  go_enter Try.func76, Try.ntmps76
  go_wp2_with fail
  refine HS.out.mono ?_
  rintro e w2 ⟨rfl, v2, hc2, hg2⟩
  obtain ⟨va, vn, vc, rfl, HV, hvc, hvm⟩ := hc2.rd.formN
  have hvn : n ≤ vn := by have := HV.out; have := HN.out; simp only [List.length_append] at *; omega
  have hvl : vn = n + l.length := by have := HV.out; have := HN.out; simp only [List.length_append] at *; omega
  have hvi : (vn : Int) ≤ 9223372036854775807 := by unfold maxLen at hvm; omega
  have c0 := hc2.cell
  have f0 := hc2.free
  have HC2 := Lib.hid hc2
  have HG2 := Lib.hid hg2
  have HVN := Lib.hid hvl
  clear hc2 hg2 hvm hvl hvc
  go_upto_region 3 with (go_at_call 78; refine (HMS.out _).mono ?_; rintro e w3 ⟨rfl, rfl⟩)
  obtain ⟨a1, c1, hr1, hrd1⟩ := slice_bytes_to HC2.out.rd n (by rw [← HV.out]; exact hvn)
  rw [List.take_left' HN.out] at hrd1
  have hmk := make_bytes0 n (by omega) w2.drew
  have hcp := copied_bytes (ty := 23) (show RdB F w2.drew _ _ from RdB.drewN hrd1 1) (by rw [HN.out]; omega)
  rw [HN.out] at hcp
  have hS0 : w2.drew.cell? ⟨C, 0, none⟩ = some (.slice va vn vc) := c0
  obtain ⟨w4, hw4⟩ : ∃ w4, w2.drew.alloc (bobj (List.replicate n 0)) = w4 := ⟨_, rfl⟩
  have hc4 : CurAt F w4 C (.slice va vn vc) (b ++ l) := by rw [← hw4]; exact (HC2.out.below (below_drewN (Below.refl _ _) 1)).below ((Below.refl _ _).alloc (Nat.le_refl _) _)
  obtain ⟨w5, hw5⟩ : ∃ w5, w2.drew.alloc (bobj b) = w5 := ⟨_, rfl⟩
  have hb5 : Below w2.heap.size w2 w5 := by rw [← hw5]; exact (below_drewN (Below.refl _ _) 1).alloc (Nat.le_refl _) _
  have hc5 : CurAt F w5 C (.slice va vn vc) (b ++ l) := HC2.out.below hb5
  have ho5 : OwnB w5 w2.heap.size 5 (.slice (some ⟨w2.heap.size, 0, none⟩) n n) b := by
    rw [← hw5, ← HN.out]
    exact bobj_own w2.drew b b.length _ rfl (maxLen_ge (by rw [HN.out]; omega)) (Nat.le_refl _)
  rw [hw4] at hmk hcp
  rw [hw5] at hcp
  have hS4 : w4.cell? ⟨C, 0, none⟩ = some (.slice va vn vc) := hc4.cell
  have hS5 : w5.cell? ⟨C, 0, none⟩ = some (.slice va vn vc) := hc5.cell
  have HCP := Lib.hid hcp
  have HC5 := Lib.hid hc5
  have HO5 := Lib.hid ho5
  have HB5 := Lib.hid hb5
  clear hcp hc4 hc5 ho5 hb5 hw4 hw5 hrd1 c0
  refine wp_region_U (fun W => W.cell? ⟨C, 0, none⟩ = some (.slice va vn vc)) [] (by kernel_rfl) ?_
  refine wpAnyU_take (i := 0) [1, 8, 9] rfl (by as_aux_lemma => kernel_rfl) (by as_aux_lemma => kernel_rfl) (by as_aux_lemma => kernel_rfl) (by as_aux_lemma => kernel_rfl) (by as_aux_lemma => kernel_rfl) (by as_aux_lemma => kernel_rfl) (fun _ _ _ h => h) (Or.inl ⟨by rfl, (by intro W hSW; (try dsimp only at hSW); (try go_split_ands); go_simp <;> with_reducible rfl)⟩) hS0 ?_
  try simp only [Act.put, List.getElem_toArray, List.getElem_cons_succ, List.getElem_cons_zero, List.setIfInBounds_toArray, List.set_cons_zero, List.set_cons_succ]
  refine wpAnyU_take (i := 2) [3, 4, 5, 7, 8, 9] rfl (by as_aux_lemma => kernel_rfl) (by as_aux_lemma => kernel_rfl) (by as_aux_lemma => kernel_rfl) (by as_aux_lemma => kernel_rfl) (by as_aux_lemma => kernel_rfl) (by as_aux_lemma => kernel_rfl) (fun _ _ _ h => h) (Or.inl ⟨by rfl, (by intro W hSW; (try dsimp only at hSW); (try go_split_ands); go_simp <;> with_reducible rfl)⟩) hS0 ?_
  try simp only [Act.put, List.getElem_toArray, List.getElem_cons_succ, List.getElem_cons_zero, List.setIfInBounds_toArray, List.set_cons_zero, List.set_cons_succ]
  refine wpAnyU_take (i := 3) [4, 5, 7, 8, 9] rfl (by as_aux_lemma => kernel_rfl) (by as_aux_lemma => kernel_rfl) (by as_aux_lemma => kernel_rfl) (by as_aux_lemma => kernel_rfl) (by as_aux_lemma => kernel_rfl) (by as_aux_lemma => kernel_rfl) (fun _ _ _ h => h) (Or.inl ⟨by rfl, (by intro W hSW; (try dsimp only at hSW); (try go_split_ands); go_simp <;> with_reducible rfl)⟩) hS0 ?_
  try simp only [Act.put, List.getElem_toArray, List.getElem_cons_succ, List.getElem_cons_zero, List.setIfInBounds_toArray, List.set_cons_zero, List.set_cons_succ]
  refine wpAnyU_take (i := 4) [5, 7, 8, 9] rfl (by as_aux_lemma => kernel_rfl) (by as_aux_lemma => kernel_rfl) (by as_aux_lemma => kernel_rfl) (by as_aux_lemma => kernel_rfl) (by as_aux_lemma => kernel_rfl) (by as_aux_lemma => kernel_rfl) (fun _ _ _ h => h) (Or.inl ⟨by rfl, (by intro W hSW; (try dsimp only at hSW); (try go_split_ands); go_simp <;> with_reducible rfl)⟩) hS0 ?_
  try simp only [Act.put, List.getElem_toArray, List.getElem_cons_succ, List.getElem_cons_zero, List.setIfInBounds_toArray, List.set_cons_zero, List.set_cons_succ]
  refine wpAnyU_take (i := 5) [7, 8, 9] rfl (by as_aux_lemma => kernel_rfl) (by as_aux_lemma => kernel_rfl) (by as_aux_lemma => kernel_rfl) (by as_aux_lemma => kernel_rfl) (by as_aux_lemma => kernel_rfl) (by as_aux_lemma => kernel_rfl) (fun _ _ _ h => h) (Or.inl ⟨by rfl, (by intro W hSW; (try dsimp only at hSW); (try go_split_ands); go_simp <;> with_reducible rfl)⟩) hS0 ?_
  try simp only [Act.put, List.getElem_toArray, List.getElem_cons_succ, List.getElem_cons_zero, List.setIfInBounds_toArray, List.set_cons_zero, List.set_cons_succ]
  refine wpAnyU_take (i := 6) [7, 8, 9] rfl (by as_aux_lemma => kernel_rfl) (by as_aux_lemma => kernel_rfl) (by as_aux_lemma => kernel_rfl) (by as_aux_lemma => kernel_rfl) (by as_aux_lemma => kernel_rfl) (by as_aux_lemma => kernel_rfl) (fun _ _ _ h => h) (Or.inl ⟨by rfl, (by intro W hSW; (try dsimp only at hSW); (try go_split_ands); go_simp <;> with_reducible rfl)⟩) hS0 ?_
  try simp only [Act.put, List.getElem_toArray, List.getElem_cons_succ, List.getElem_cons_zero, List.setIfInBounds_toArray, List.set_cons_zero, List.set_cons_succ]
  refine wpAnyU_take (i := 7) [8, 9] rfl (by as_aux_lemma => kernel_rfl) (by as_aux_lemma => kernel_rfl) (by as_aux_lemma => kernel_rfl) (by as_aux_lemma => kernel_rfl) (by as_aux_lemma => kernel_rfl) (by as_aux_lemma => kernel_rfl) (fun _ _ _ h => h) (Or.inl ⟨by rfl, (by intro W hSW; (try dsimp only at hSW); (try go_split_ands); go_simp <;> with_reducible rfl)⟩) hS0 ?_
  try simp only [Act.put, List.getElem_toArray, List.getElem_cons_succ, List.getElem_cons_zero, List.setIfInBounds_toArray, List.set_cons_zero, List.set_cons_succ]
  refine wpAnyU_one (i := 1) (by kernel_rfl) rfl (fun K hK => ?_)
  go_simp
  refine hK.out _ _ (fun _ => hS4) (fun _ => ?_)
  clear hK K
  try simp only [Act.put, List.getElem_toArray, List.getElem_cons_succ, List.getElem_cons_zero, List.setIfInBounds_toArray, List.set_cons_zero, List.set_cons_succ]
  refine wpAnyU_one (i := 8) (by kernel_rfl) rfl (fun K hK => ?_)
  refine step_append_is rfl rfl HCP.out rfl rfl ?_
  refine hK.out _ _ (fun _ => hS5) (fun _ => ?_)
  clear hK K
  try simp only [Act.put, List.getElem_toArray, List.getElem_cons_succ, List.getElem_cons_zero, List.setIfInBounds_toArray, List.set_cons_zero, List.set_cons_succ]
  refine wpAnyU_take (i := 9) [] rfl (by as_aux_lemma => kernel_rfl) (by as_aux_lemma => kernel_rfl) (by as_aux_lemma => kernel_rfl) (by as_aux_lemma => kernel_rfl) (by as_aux_lemma => kernel_rfl) (by as_aux_lemma => kernel_rfl) (fun _ _ _ h => h) (Or.inl ⟨by rfl, (by intro W hSW; (try dsimp only at hSW); (try go_split_ands); go_simp <;> with_reducible rfl)⟩) hS5 ?_
  try simp only [Act.put, List.getElem_toArray, List.getElem_cons_succ, List.getElem_cons_zero, List.setIfInBounds_toArray, List.set_cons_zero, List.set_cons_succ]
  refine wpAnyU_done (by kernel_rfl) ?_ _
  clear hS0 hS4 hmk hr1 f0
  obtain ⟨a6, c6, hr6, hrd6⟩ := slice_bytes_from HC5.out.rd n (by rw [← HV.out]; exact hvn)
  rw [List.drop_left' HN.out] at hrd6
  have hset := HC5.out.set hrd6
  have f5 := HC5.out.free
  have HSET := Lib.hid hset
  clear hrd6 hset
  go_wp2
  go_ret
  refine ⟨_, _, rfl, HN.out.symm, ?_, _, HSET.out, ?_⟩
  · have h1 := ownsRow_base HO5.out (base' := w.heap.size) (fun k hk => by have := (HO5.out.lt k hk).1; have := HG2.out.size; omega)
    exact OwnB.chg (F := B1 C) (F' := B1 C) h1 (chg_setCell _ _ _ rfl) (fun k hk hkC => by have := (HO5.out.lt k hk).1; have := HC2.out.lt; have : k = C := hkC; omega)
  · exact (HG2.out.trans (Chg.of_below HB5.out _)).trans (chg_setCell _ _ _ rfl)
end Mun
end

section
/- Contract of what reads a change. -/
set_option maxRecDepth 100000
set_option linter.unusedVariables false
set_option linter.unusedSimpArgs false
namespace Mun
open Go Go.RowKit
open Go.Proofs

theorem infoC : (Try.prog.info? 81).map (·.size) = some 4 := by kernel_rfl

/-- a new block beside the cursor -/
structure BxC (F : Foot) (w0 w : World) (C g : Nat) (cs : Array Value) (ty : TypeId) (v : Value) (l : List UInt8) : Prop where
  blk : w.heap[g]? = some (.cells cs ty (0, 0))
  cur : CurAt F w C v l
  chg : Chg (B1 C) (B1 C) w0 w
  new : w0.heap.size ≤ g
  ne : C < w0.heap.size
  hg : F g

theorem block_setCell {w : World} {g i : Nat} {cs : Array Value} {ty : TypeId} (h : w.heap[g]? = some (.cells cs ty (0, 0))) (u : Value) : (w.setCell ⟨g, i, none⟩ u).heap[g]? = some (.cells (cs.setIfInBounds i u) ty (0, 0)) := by
  have hlt := lt_of_block h
  have h' : w.heap[g] = .cells cs ty (0, 0) := by simpa [Array.getElem?_eq_getElem hlt] using h
  show (w.heap.modify g _)[g]? = _
  rw [Array.getElem?_modify]
  simp [h]
theorem block_setCell_ne {w : World} {g k i : Nat} (u : Value) (h : k ≠ g) : (w.setCell ⟨g, i, none⟩ u).heap[k]? = w.heap[k]? := by
  show (w.heap.modify g _)[k]? = _
  rw [Array.getElem?_modify, if_neg (Ne.symm h)]

section
variable {F : Foot} {w0 w w' : World} {C g : Nat} {cs : Array Value} {ty : TypeId} {v : Value} {l l' : List UInt8}
theorem BxC.gC (h : BxC F w0 w C g cs ty v l) : C ≠ g := by have := h.new; have := h.ne; omega
theorem BxC.call (h : BxC F w0 w C g cs ty v l) (hp : CPost F w C l' w') : ∃ v', BxC F w0 w' C g cs ty v' l' := by
  obtain ⟨v', hc, hg⟩ := hp
  have hlt := lt_of_block h.blk
  exact ⟨v', by rw [hg.block g hlt (fun e => h.gC (Eq.symm e))]; exact h.blk, hc, h.chg.trans hg, h.new, h.ne, h.hg⟩
theorem BxC.set (h : BxC F w0 w C g cs ty v l) (i : Nat) (u : Value) : BxC F w0 (w.setCell ⟨g, i, none⟩ u) C g (cs.setIfInBounds i u) ty v l := by
  refine ⟨block_setCell h.blk u, ⟨by rw [block_setCell_ne u h.gC]; exact h.cur.blk, h.cur.rd.chg (chg_setCell w _ u h.hg), h.cur.hC⟩, ?_, h.new, h.ne, h.hg⟩
  have hs : (w.setCell ⟨g, i, none⟩ u).heap.size = w.heap.size := by simp [World.setCell]
  refine ⟨h.chg.os, h.chg.tape, h.chg.output, by rw [hs]; exact h.chg.size, fun k hk hn => ?_, fun k hk => ?_⟩
  · rw [block_setCell_ne u (by have := h.new; omega)]; exact h.chg.block k hk hn
  · rw [hs]; exact h.chg.foot k hk
theorem BxC.cell (h : BxC F w0 w C g cs ty v l) (i : Nat) : w.cell? ⟨g, i, none⟩ = cs[i]? := cell_of_row w g i _ _ _ h.blk
theorem BxC.free (h : BxC F w0 w C g cs ty v l) (i : Nat) : w.frozen? ⟨g, i, none⟩ = false := by simp [World.frozen?, h.blk]
theorem BxC.start (hc : CurAt F w C v l) (cs : Array Value) (ty : TypeId) (hg : F w.heap.size) : BxC F w (w.alloc (.cells cs ty)) C w.heap.size cs ty v l :=
  ⟨heap_alloc_new w _, hc.below ((Below.refl _ _).alloc (Nat.le_refl _) _), chg_alloc w _, Nat.le_refl _, hc.lt, hg⟩
end

set_option maxHeartbeats 1000000 in
theorem change_any {F : Foot} (w : World) (C : Nat) (v : Value) (c : PC) (l : List UInt8) (hc : GoodC c) (h : CurAt F w C v (chB c ++ l)) (hF : ∀ k, w.heap.size ≤ k → F k) :
    Calls Try.prog 79 #[.pointer (some ⟨C, 0, none⟩)] w fun e w' => ∃ g n, e = .returned (.agg #[.int .i64 c.page, .int .i64 c.at_, .bool c.whole, .slice (some ⟨g, 0, none⟩) n n]) ∧ Hid (n = c.b.length) ∧
      OwnB w' w.heap.size 5 (.slice (some ⟨g, 0, none⟩) n n) c.b ∧ CPost F w C l w' := by
  obtain ⟨pg, hpg⟩ := Int.eq_ofNat_of_zero_le hc.p0
  obtain ⟨ag, hag⟩ := Int.eq_ofNat_of_zero_le hc.a0
  have hp1 : pg < 65536 := by have := hc.p1; omega
  have ha1 : ag ≤ 512 := by have := hc.a1; omega
  have hbl : c.b.length ≤ 512 := by have := hc.len; have := hc.a0; omega
  unfold chB at h
  rw [hpg, hag, Int.toNat_natCast, Int.toNat_natCast] at h
  rw [hpg, hag]
  simp only [List.append_assoc, List.cons_append, List.nil_append] at h
  have hb1 := BxC.start h #[.int .i64 0, .int .i64 0, .bool false, .slice none 0 0] 81 (hF _ (Nat.le_refl _))
  have HB1 := Lib.hid hb1
  have HBL := Lib.hid hbl
  have HMS : Hid (∀ w1, Calls Try.prog 78 #[.bool true] w1 fun e w' => e = .returned (.tuple #[]) ∧ w1 = w') := fun w1 => must_yes w1
  obtain ⟨G, hG⟩ : ∃ G, w.heap.size = G := ⟨_, rfl⟩
  obtain ⟨w1, hw1⟩ : ∃ w1, w.alloc (.cells #[.int .i64 0, .int .i64 0, .bool false, .slice none 0 0] 81) = w1 := ⟨_, rfl⟩
  rw [hw1, hG] at HB1
  clear h hb1 hbl hc hpg hag
  cases hw : c.whole with
  | true =>
    have hwb : wb c = 1 := by unfold wb; rw [hw]; rfl
    rw [hwb] at HB1
    clear hw hwb
    go_enter Try.func79, Try.ntmps79
    go_wp2_with fail
    refine (small_any w1 C v pg _ (by omega) HB1.out.cur).mono ?_
    rintro e w2 ⟨rfl, hp2⟩
    obtain ⟨v2, hb2⟩ := HB1.out.call hp2
    have HB2 := Lib.hid hb2
    clear hb2 hp2 hw1
    go_wp2_with fail
    refine (small_any w2 C v2 ag _ (by omega) HB2.out.cur).mono ?_
    rintro e w3 ⟨rfl, hp3⟩
    obtain ⟨v3, hb3⟩ := HB2.out.call hp3
    have c0 : w3.cell? ⟨G, 0, none⟩ = some (.int .i64 0) := hb3.cell 0
    have c1 : w3.cell? ⟨G, 1, none⟩ = some (.int .i64 0) := hb3.cell 1
    have f0 := hb3.free 0
    have f1 := hb3.free 1
    have hb4 := (hb3.set 0 (.int .i64 pg)).set 1 (.int .i64 ag)
    obtain ⟨w4, hw4⟩ : ∃ w4, (w3.setCell ⟨G, 0, none⟩ (.int .i64 pg)).setCell ⟨G, 1, none⟩ (.int .i64 ag) = w4 := ⟨_, rfl⟩
    rw [hw4] at hb4
    have HB4 := Lib.hid hb4
    clear hb3 hp3 hb4
    go_wp2_with fail
    clear hw4 c0 c1 f0 f1
    refine (byte_any w4 C v3 1 _ HB4.out.cur).mono ?_
    rintro e w5 ⟨rfl, hp5⟩
    obtain ⟨v5, hb5⟩ := HB4.out.call hp5
    rw [show (((1 : UInt8).toNat : Nat) : Int) = 1 from rfl]
    have c2 : w5.cell? ⟨G, 2, none⟩ = some (.bool false) := hb5.cell 2
    have f2 := hb5.free 2
    have hb6 := hb5.set 2 (.bool true)
    obtain ⟨w6, hw6⟩ : ∃ w6, w5.setCell ⟨G, 2, none⟩ (.bool true) = w6 := ⟨_, rfl⟩
    rw [hw6] at hb6
    have HB6 := Lib.hid hb6
    clear hb5 hp5 hb6
    go_wp2_with (go_at_call 78; refine (HMS.out _).mono ?_; rintro e w7 ⟨rfl, rfl⟩)
    clear hw6 c2 f2
    refine (textr_any w6 C v5 c.b l (by have := HBL.out; omega) HB6.out.cur).mono ?_
    rintro e w7 ⟨g7, n7, rfl, HN7, ho7, hp7⟩
    obtain ⟨v7, hb7⟩ := HB6.out.call hp7
    have c3 : w7.cell? ⟨G, 3, none⟩ = some (.slice none 0 0) := hb7.cell 3
    have f3 := hb7.free 3
    have hb8 := hb7.set 3 (.slice (some ⟨g7, 0, none⟩) n7 n7)
    obtain ⟨w8, hw8⟩ : ∃ w8, w7.setCell ⟨G, 3, none⟩ (.slice (some ⟨g7, 0, none⟩) n7 n7) = w8 := ⟨_, rfl⟩
    have ho8 : OwnB w8 w.heap.size 5 (.slice (some ⟨g7, 0, none⟩) n7 n7) c.b := by
      rw [← hw8]
      have h1 := ownsRow_base ho7 (base' := w.heap.size) (fun k hk => by have := (ho7.lt k hk).1; have := HB6.out.chg.size; omega)
      refine OwnB.chg (F := B1 G) (F' := B1 G) h1 (chg_setCell _ _ _ rfl) (fun k hk hkC => by have := (ho7.lt k hk).1; have := lt_of_block HB6.out.blk; have : k = G := hkC; omega)
    rw [hw8] at hb8
    have hblk : w8.heap[G]? = some (.cells #[.int .i64 pg, .int .i64 ag, .bool true, .slice (some ⟨g7, 0, none⟩) n7 n7] 81 (0, 0)) := hb8.blk
    have hself := setRow_self w8 G _ _ _ hblk
    have HBLK := Lib.hid hblk
    have HSELF := Lib.hid hself
    have HB8 := Lib.hid hb8
    have HO8 := Lib.hid ho8
    clear hb7 hp7 hb8 hblk hself ho7 ho8
    go_wp2_with (first
      | (refine wpList_load_row rfl _ _ rfl G rfl _ _ (0, 0) _ HBLK.out Try.underlying81 rfl infoC ?_)
      | (refine wpList_store_row rfl _ _ _ rfl G _ rfl rfl _ _ HBLK.out infoC rfl (by simp [Value.oneCell']) ?_; rw [HSELF.out]))
    have k0 : w8.cell? ⟨G, 0, none⟩ = some (.int .i64 pg) := HB8.out.cell 0
    have k1 : w8.cell? ⟨G, 1, none⟩ = some (.int .i64 ag) := HB8.out.cell 1
    have k2 : w8.cell? ⟨G, 2, none⟩ = some (.bool true) := HB8.out.cell 2
    have k3 : w8.cell? ⟨G, 3, none⟩ = some (.slice (some ⟨g7, 0, none⟩) n7 n7) := HB8.out.cell 3
    refine bodyPost_ret (by simp [results, Try.results79, go_sem, k0, k1, k2, k3]; try rfl) rfl ?_
    exact ⟨g7, n7, rfl, HN7, HO8.out, v7, HB8.out.cur, HB8.out.chg⟩
  | false =>
    have hwb : wb c = 0 := by unfold wb; rw [hw]; rfl
    rw [hwb] at HB1
    clear hw hwb
    go_enter Try.func79, Try.ntmps79
    go_wp2_with fail
    refine (small_any w1 C v pg _ (by omega) HB1.out.cur).mono ?_
    rintro e w2 ⟨rfl, hp2⟩
    obtain ⟨v2, hb2⟩ := HB1.out.call hp2
    have HB2 := Lib.hid hb2
    clear hb2 hp2 hw1
    go_wp2_with fail
    refine (small_any w2 C v2 ag _ (by omega) HB2.out.cur).mono ?_
    rintro e w3 ⟨rfl, hp3⟩
    obtain ⟨v3, hb3⟩ := HB2.out.call hp3
    have c0 : w3.cell? ⟨G, 0, none⟩ = some (.int .i64 0) := hb3.cell 0
    have c1 : w3.cell? ⟨G, 1, none⟩ = some (.int .i64 0) := hb3.cell 1
    have f0 := hb3.free 0
    have f1 := hb3.free 1
    have hb4 := (hb3.set 0 (.int .i64 pg)).set 1 (.int .i64 ag)
    obtain ⟨w4, hw4⟩ : ∃ w4, (w3.setCell ⟨G, 0, none⟩ (.int .i64 pg)).setCell ⟨G, 1, none⟩ (.int .i64 ag) = w4 := ⟨_, rfl⟩
    rw [hw4] at hb4
    have HB4 := Lib.hid hb4
    clear hb3 hp3 hb4
    go_wp2_with fail
    clear hw4 c0 c1 f0 f1
    refine (byte_any w4 C v3 0 _ HB4.out.cur).mono ?_
    rintro e w5 ⟨rfl, hp5⟩
    obtain ⟨v5, hb5⟩ := HB4.out.call hp5
    rw [show (((0 : UInt8).toNat : Nat) : Int) = 0 from rfl]
    have c2 : w5.cell? ⟨G, 2, none⟩ = some (.bool false) := hb5.cell 2
    have f2 := hb5.free 2
    have hb6 := hb5.set 2 (.bool false)
    obtain ⟨w6, hw6⟩ : ∃ w6, w5.setCell ⟨G, 2, none⟩ (.bool false) = w6 := ⟨_, rfl⟩
    rw [hw6] at hb6
    have HB6 := Lib.hid hb6
    clear hb5 hp5 hb6
    go_wp2_with (go_at_call 78; refine (HMS.out _).mono ?_; rintro e w7 ⟨rfl, rfl⟩)
    clear hw6 c2 f2
    refine (textr_any w6 C v5 c.b l (by have := HBL.out; omega) HB6.out.cur).mono ?_
    rintro e w7 ⟨g7, n7, rfl, HN7, ho7, hp7⟩
    obtain ⟨v7, hb7⟩ := HB6.out.call hp7
    have c3 : w7.cell? ⟨G, 3, none⟩ = some (.slice none 0 0) := hb7.cell 3
    have f3 := hb7.free 3
    have hb8 := hb7.set 3 (.slice (some ⟨g7, 0, none⟩) n7 n7)
    obtain ⟨w8, hw8⟩ : ∃ w8, w7.setCell ⟨G, 3, none⟩ (.slice (some ⟨g7, 0, none⟩) n7 n7) = w8 := ⟨_, rfl⟩
    have ho8 : OwnB w8 w.heap.size 5 (.slice (some ⟨g7, 0, none⟩) n7 n7) c.b := by
      rw [← hw8]
      have h1 := ownsRow_base ho7 (base' := w.heap.size) (fun k hk => by have := (ho7.lt k hk).1; have := HB6.out.chg.size; omega)
      refine OwnB.chg (F := B1 G) (F' := B1 G) h1 (chg_setCell _ _ _ rfl) (fun k hk hkC => by have := (ho7.lt k hk).1; have := lt_of_block HB6.out.blk; have : k = G := hkC; omega)
    rw [hw8] at hb8
    have hblk : w8.heap[G]? = some (.cells #[.int .i64 pg, .int .i64 ag, .bool false, .slice (some ⟨g7, 0, none⟩) n7 n7] 81 (0, 0)) := hb8.blk
    have hself := setRow_self w8 G _ _ _ hblk
    have HBLK := Lib.hid hblk
    have HSELF := Lib.hid hself
    have HB8 := Lib.hid hb8
    have HO8 := Lib.hid ho8
    clear hb7 hp7 hb8 hblk hself ho7 ho8
    go_wp2_with (first
      | (refine wpList_load_row rfl _ _ rfl G rfl _ _ (0, 0) _ HBLK.out Try.underlying81 rfl infoC ?_)
      | (refine wpList_store_row rfl _ _ _ rfl G _ rfl rfl _ _ HBLK.out infoC rfl (by simp [Value.oneCell']) ?_; rw [HSELF.out]))
    have k0 : w8.cell? ⟨G, 0, none⟩ = some (.int .i64 pg) := HB8.out.cell 0
    have k1 : w8.cell? ⟨G, 1, none⟩ = some (.int .i64 ag) := HB8.out.cell 1
    have k2 : w8.cell? ⟨G, 2, none⟩ = some (.bool false) := HB8.out.cell 2
    have k3 : w8.cell? ⟨G, 3, none⟩ = some (.slice (some ⟨g7, 0, none⟩) n7 n7) := HB8.out.cell 3
    refine bodyPost_ret (by simp [results, Try.results79, go_sem, k0, k1, k2, k3]; try rfl) rfl ?_
    exact ⟨g7, n7, rfl, HN7, HO8.out, v7, HB8.out.cur, HB8.out.chg⟩
end Mun
end

section
/- What a record that is read looks like while it grows. -/
set_option maxRecDepth 100000
set_option linter.unusedVariables false
set_option linter.unusedSimpArgs false
namespace Mun
open Go Go.RowKit
open Go.Proofs

theorem infoC3 : (Try.prog.info? 81).map (fun i => (i.zero, i.size, i.bytes)) = some (some (.agg #[.int .i64 0, .int .i64 0, .bool false, .slice none 0 0]), 4, 48) := by kernel_rfl

theorem crow_one (l : List CV) (h : ∀ p ∈ l, p.2.oneCell' = true) : ∀ u ∈ l.flatMap crow1, u.oneCell' = true := by
  intro u hu
  obtain ⟨p, hp, hu⟩ := List.mem_flatMap.1 hu
  simp only [crow1, List.mem_cons, List.not_mem_nil, or_false] at hu
  rcases hu with rfl | rfl | rfl | rfl
  · rfl
  · rfl
  · rfl
  · exact h p hp

/-- a change laid behind a row of changes -/
theorem push_change {w : World} {B : Nat} {ty : TypeId} {v : Value} {us : List CV} {c : PC} {g n : Nat} (h : w.ownsRow B 81 4 v us.length (us.flatMap crow1)) (hB : B ≤ w.heap.size) (hl : us.length < 4194304) :
    ∃ R cp w', (Builtin.append_ #[24, 24] ty #[v, .slice (some ⟨w.heap.size, 0, none⟩) 1 1]).run Try.prog (w.alloc (.cells #[.int .i64 c.page, .int .i64 c.at_, .bool c.whole, .slice (some ⟨g, 0, none⟩) n n] 81)) = .ok (.slice (some ⟨R, 0, none⟩) (us.length + 1) cp) w' ∧
      w'.ownsRow B 81 4 (.slice (some ⟨R, 0, none⟩) (us.length + 1) cp) (us.length + 1) ((us ++ [(c, Value.slice (some ⟨g, 0, none⟩) n n)]).flatMap crow1) ∧
      (w.alloc (.cells #[.int .i64 c.page, .int .i64 c.at_, .bool c.whole, .slice (some ⟨g, 0, none⟩) n n] 81)).grownBy w' v.ownBlock ∧ (v.ownBlock = some R ∨ w.heap.size < R) ∧ R < w'.heap.size := by
  obtain ⟨i, hi, hz, h1, h2⟩ := info_of infoC3
  have hsrc : RdV (fun _ => False) (w.alloc (.cells #[.int .i64 c.page, .int .i64 c.at_, .bool c.whole, .slice (some ⟨g, 0, none⟩) n n] 81)) 4 (.slice (some ⟨w.heap.size, 0, none⟩) 1 1) 1 (crow1 (c, .slice (some ⟨g, 0, none⟩) n n)) :=
    ⟨rfl, _, _, rfl, Nat.le_refl _, by unfold maxLen; omega, by simp, fun _ => ⟨w.heap.size, 0, _, _, (0, 0), rfl, fun h => h, heap_alloc_new w _, rfl⟩⟩
  obtain ⟨v', w', hr, ho, hg, hob, hnil⟩ := run_append_rd (P := Try.prog) (base := B) (ty := ty) Try.underlying24 hi hz h1 h2 rfl (by decide) (World.ownsRow.alloc h _) hsrc
    (by intro u hu; simp only [crow1, List.mem_cons, List.not_mem_nil, or_false] at hu; rcases hu with rfl | rfl | rfl | rfl <;> rfl) (by omega) (by omega) (by simp; omega)
  have hfm : (us ++ [(c, Value.slice (some ⟨g, 0, none⟩) n n)]).flatMap crow1 = us.flatMap crow1 ++ crow1 (c, .slice (some ⟨g, 0, none⟩) n n) := by simp
  rcases ho.2 with ⟨rfl, h0⟩ | ⟨R, cp, cur, rfl, hb, hR, hrest⟩
  · exact absurd (hnil.1 rfl).2 (by omega)
  · refine ⟨R, cp, w', hr, by rw [hfm]; exact ho, hg, ?_, lt_of_block hR⟩
    rcases hob with h3 | h3
    · exact .inl h3.symm
    · simp [Value.ownBlock] at h3; exact .inr (by omega)

theorem ownB_ne {w : World} {B k : Nat} {v : Value} {L : List UInt8} {cs : Array Value} {e : TypeId} {fr : Nat × Nat} (h : OwnB w B 5 v L) (hb : w.heap[k]? = some (.cells cs e fr)) (hne : e ≠ 5) : v.ownBlock ≠ some k := by
  intro hk
  obtain ⟨c1, h1⟩ := ownsRow_blk h hk
  exact blk_ne hb h1 hne rfl

theorem ownB_same {w w' : World} {B : Nat} {v : Value} {L : List UInt8} (h : OwnB w B 5 v L) (hk : ∀ k, v.ownBlock = some k → w'.heap[k]? = w.heap[k]?) : OwnB w' B 5 v L := ownsRow_keep h hk

/-- a record while its changes are read -/
structure RSt (F : Foot) (w0 wr : World) (C G : Nat) (r : PR) (dv v u : Value) (us : List CV) (l : List UInt8) : Prop where
  bx : BxC F w0 wr C G (rcs r dv v) 26 u l
  row : wr.ownsRow w0.heap.size 81 4 v us.length (us.flatMap crow1)
  els : ∀ p ∈ us, OwnB wr w0.heap.size 5 p.2 p.1.b
  dat : OwnB wr w0.heap.size 5 dv r.data

section
variable {F : Foot} {w0 w w' wr : World} {C G : Nat} {r : PR} {dv v u : Value} {us : List CV} {l l' : List UInt8}

theorem RSt.call (h : RSt F w0 wr C G r dv v u us l) (hp : CPost F wr C l' w') : ∃ u', RSt F w0 w' C G r dv v u' us l' := by
  obtain ⟨u', hb⟩ := h.bx.call hp
  obtain ⟨_, _, hc⟩ := hp
  have hk : ∀ k, k < wr.heap.size → k ≠ C → w'.heap[k]? = wr.heap[k]? := fun k h1 h2 => hc.block k h1 h2
  have hcur := h.bx.cur.blk
  refine ⟨u', hb, ownsRow_keep h.row (fun k e => hk k (h.row.lt k e).2 (fun e2 => ?_)), fun p hp => ownB_same (h.els p hp) (fun k e => hk k ((h.els p hp).lt k e).2 (fun e2 => ?_)), ownB_same h.dat (fun k e => hk k (h.dat.lt k e).2 (fun e2 => ?_))⟩
  · have := (h.row.lt k e).1; have := h.bx.ne; omega
  · have := ((h.els p hp).lt k e).1; have := h.bx.ne; omega
  · have := (h.dat.lt k e).1; have := h.bx.ne; omega

/-- a change more -/
theorem RSt.push (h : RSt F w0 wr C G r dv v u us l) {c : PC} {g n R cp : Nat} (ho : OwnB wr w0.heap.size 5 (.slice (some ⟨g, 0, none⟩) n n) c.b) (hF : ∀ k, w0.heap.size ≤ k → F k)
    (hrow : w'.ownsRow w0.heap.size 81 4 (.slice (some ⟨R, 0, none⟩) (us.length + 1) cp) (us.length + 1) ((us ++ [(c, Value.slice (some ⟨g, 0, none⟩) n n)]).flatMap crow1))
    (hg : (wr.alloc (.cells #[.int .i64 c.page, .int .i64 c.at_, .bool c.whole, .slice (some ⟨g, 0, none⟩) n n] 81)).grownBy w' v.ownBlock) (hor : v.ownBlock = some R ∨ wr.heap.size < R) (hR : R < w'.heap.size) :
    w'.cell? ⟨G, 5, none⟩ = some v ∧ w'.frozen? ⟨G, 5, none⟩ = false ∧ RSt F w0 (w'.setCell ⟨G, 5, none⟩ (.slice (some ⟨R, 0, none⟩) (us.length + 1) cp)) C G r dv (.slice (some ⟨R, 0, none⟩) (us.length + 1) cp) u (us ++ [(c, Value.slice (some ⟨g, 0, none⟩) n n)]) l := by
  have hk : ∀ k, k < wr.heap.size → v.ownBlock ≠ some k → w'.heap[k]? = wr.heap[k]? := fun k h1 h2 => by
    rw [hg.block k (by simp; omega) (fun e => h2 e.symm), heap_alloc_old _ _ h1]
  have hvt : ∀ k, v.ownBlock = some k → ∃ cur, wr.heap[k]? = some (.cells cur 81 (0, 0)) := fun k e => ownsRow_blk h.row e
  have hCn : v.ownBlock ≠ some C := fun e => by have := (h.row.lt _ e).1; have := h.bx.ne; omega
  have hGn : v.ownBlock ≠ some G := fun e => by
    obtain ⟨cur, hc⟩ := hvt _ e
    exact blk_ne h.bx.blk hc (by decide) rfl
  have hG' : w'.heap[G]? = some (.cells (rcs r dv v) 26 (0, 0)) := (hk G (lt_of_block h.bx.blk) hGn).trans h.bx.blk
  have hsz : wr.heap.size ≤ w'.heap.size := by have := hg.size; simp at this; omega
  have hbx : BxC F w0 w' C G (rcs r dv v) 26 u l := by
    refine ⟨hG', ⟨(hk C h.bx.cur.lt hCn).trans h.bx.cur.blk, ?_, h.bx.cur.hC⟩, ?_, h.bx.new, h.bx.ne, h.bx.hg⟩
    · exact h.bx.cur.rd.keep (fun k h1 h2 => hk k h1 (fun e => h2 (hF k (h.row.lt k e).1))) (fun _ _ h => h)
    · exact ⟨hg.os.trans h.bx.chg.os, hg.tape.trans h.bx.chg.tape, hg.output.trans h.bx.chg.output, Nat.le_trans h.bx.chg.size hsz, fun k h1 h2 => (hk k (Nat.lt_of_lt_of_le h1 h.bx.chg.size) (fun e => by have := (h.row.lt k e).1; omega)).trans (h.bx.chg.block k h1 h2), fun k h1 => (h.bx.chg.foot k h1).imp id (fun h2 => ⟨h2.1, by omega⟩)⟩
  have hset := hbx.set 5 (.slice (some ⟨R, 0, none⟩) (us.length + 1) cp)
  have hRG : R ≠ G := by
    rcases hor with h1 | h1
    · rintro rfl; exact hGn h1
    · have := lt_of_block h.bx.blk; omega
  have ks : ∀ k, k ≠ G → (w'.setCell ⟨G, 5, none⟩ (.slice (some ⟨R, 0, none⟩) (us.length + 1) cp)).heap[k]? = w'.heap[k]? := fun k h1 => block_setCell_ne _ h1
  refine ⟨cell_of_row _ _ 5 _ _ _ hG', by simp [World.frozen?, hG'], hset, ?_, ?_, ?_⟩
  · have := ownsRow_keep hrow (w' := w'.setCell ⟨G, 5, none⟩ (.slice (some ⟨R, 0, none⟩) (us.length + 1) cp)) (fun k e => by simp only [Value.ownBlock, Option.some.injEq] at e; subst e; exact ks _ hRG)
    rw [List.length_append]
    exact this
  · intro p hp
    have hold : ∀ q : Value, ∀ L, OwnB wr w0.heap.size 5 q L → OwnB (w'.setCell ⟨G, 5, none⟩ (.slice (some ⟨R, 0, none⟩) (us.length + 1) cp)) w0.heap.size 5 q L := fun q L hq =>
      ownB_same hq (fun k e => by
        rw [ks k (fun e2 => ownB_ne hq h.bx.blk (by decide) (e2 ▸ e))]
        refine hk k (hq.lt k e).2 (fun e3 => ?_)
        obtain ⟨cur, hc⟩ := hvt _ e3
        exact ownB_ne hq hc (by decide) e)
    rcases List.mem_append.1 hp with h1 | h1
    · exact hold _ _ (h.els p h1)
    · rw [List.mem_singleton] at h1
      subst h1
      exact hold _ _ ho
  · exact ownB_same h.dat (fun k e => by
      rw [ks k (fun e2 => ownB_ne h.dat h.bx.blk (by decide) (e2 ▸ e))]
      refine hk k (h.dat.lt k e).2 (fun e3 => ?_)
      obtain ⟨cur, hc⟩ := hvt _ e3
      exact ownB_ne h.dat hc (by decide) e)

/-- the record that was read -/
def OldF (B : Nat) : Foot := fun k => k < B
theorem RSt.read (h : RSt F w0 wr C G r dv v u us l) (he : us.map (·.1) = r.cs) (h1 : r.tx < 18446744073709551616) (h2 : r.prev < 18446744073709551616) (h3 : r.next < 18446744073709551616) : RecAt (OldF w0.heap.size) wr r ⟨dv, v, us⟩ :=
  ⟨h.dat.rd (fun k hk => by unfold OldF; omega), ⟨RdV.of_own h.row (fun k hk => by unfold OldF; omega), fun p hp => (h.els p hp).rd (fun k hk => by unfold OldF; omega)⟩, he, h1, h2, h3⟩
end

theorem flat_len (l : List PC) : l.length ≤ (l.flatMap chB).length := by
  induction l with
  | nil => simp
  | cons a l ih =>
    have := vi_pos a.page.toNat
    simp only [List.flatMap_cons, List.length_append, List.length_cons, chB]
    omega
end Mun
end

section
/- Contract of what reads a body whole, where it stands well. -/
set_option maxRecDepth 100000
set_option linter.unusedVariables false
set_option linter.unusedSimpArgs false
namespace Mun
open Go Go.RowKit
open Go.Proofs

theorem infoR : (Try.prog.info? 26).map (·.size) = some 6 := by kernel_rfl

theorem make_changes (n : Nat) (hn : n ≤ 1048576) (w : World) : ∃ cs : Array Value, cs.size = n * 4 ∧
    (Instr.makeSlice 24 (.int .i64 0) (.int .i64 n)).run Try.prog w = .ok (.slice (some ⟨w.heap.size, 0, none⟩) 0 n) (w.alloc (.cells cs 81)) := by
  obtain ⟨i, hi, hz, h1, h2⟩ := info_of infoC3
  have hr := run_make (P := Try.prog) w _ _ i _ Try.underlying24 hi hz .i64 .i64 0 n (by omega) (by omega) (by rw [h2]; omega) (by omega)
  rw [h1] at hr
  refine ⟨_, ?_, hr⟩
  simp [madeCells, Value.cells]

/-- what is left when k numbers of the head are read -/
def rk (r : PR) (T : List UInt8) : Nat → List UInt8
  | 0 => vi r.tx ++ (vi r.prev ++ (vi r.next ++ T))
  | 1 => vi r.prev ++ (vi r.next ++ T)
  | 2 => vi r.next ++ T
  | _ => T
/-- the cells by then -/
def ck (r : PR) : Nat → Array Value
  | 0 => #[.int .i64 r.kind, .int .u64 0, .int .u64 0, .int .u64 0, .slice none 0 0, .slice none 0 0]
  | 1 => #[.int .i64 r.kind, .int .u64 r.tx, .int .u64 0, .int .u64 0, .slice none 0 0, .slice none 0 0]
  | 2 => #[.int .i64 r.kind, .int .u64 r.tx, .int .u64 r.prev, .int .u64 0, .slice none 0 0, .slice none 0 0]
  | _ => #[.int .i64 r.kind, .int .u64 r.tx, .int .u64 r.prev, .int .u64 r.next, .slice none 0 0, .slice none 0 0]

def RK (F : Foot) (w wr : World) (C G : Nat) (r : PR) (T : List UInt8) (i : Value) : Prop :=
  ∃ k u, ((k = 0 ∧ i = .int .i64 0) ∨ (k = 1 ∧ i = .int .i64 1) ∨ (k = 2 ∧ i = .int .i64 2) ∨ (k = 3 ∧ i = .int .i64 3)) ∧ BxC F w wr C G (ck r k) 26 u (rk r T k)

/-- what is left behind the head -/
def rT (r : PR) : List UInt8 := txt r.data ++ (vi r.cs.length ++ r.cs.flatMap chB)

theorem body_split (r : PR) : bodyR r = UInt8.ofNat r.kind.toNat :: rk r (rT r) 0 := by
  simp [bodyR, headR, rk, rT]

def RL (F : Foot) (w wr : World) (C G n : Nat) (r : PR) (dv : Value) (i : Value) : Prop :=
  ∃ (k : Nat) (v u : Value) (us : List CV), k ≤ n ∧ i = .int .i64 k ∧ us.map (·.1) = r.cs.take k ∧ RSt F w wr C G r dv v u us ((r.cs.drop k).flatMap chB)

set_option maxHeartbeats 2000000 in
theorem rec_any {F : Foot} (w : World) (C : Nat) (v : Value) (r : PR) (hg : goodR r = true) (hbig : (bodyR r).length ≤ 1048576) (ht : r.tx < 18446744073709551616) (hp : r.prev < 18446744073709551616) (hn : r.next < 18446744073709551616)
    (h : CurAt F w C v (bodyR r)) (hF : ∀ k, w.heap.size ≤ k → F k) :
    Calls Try.prog 66 #[.pointer (some ⟨C, 0, none⟩)] w fun e w' => ∃ x, e = .returned (rval r x) ∧ RecAt (OldF w.heap.size) w' r x ∧ Chg (B1 C) (B1 C) w w' := by
  have hG := (goodR_iff r).1 hg
  have hlen : r.data.length ≤ 1048576 ∧ r.cs.length ≤ 1048576 := by
    have := flat_len r.cs
    simp only [bodyR, txt, List.length_append] at hbig
    omega
  rw [body_split] at h
  have hk0 : 0 ≤ r.kind := by omega
  obtain ⟨kd, hkd⟩ := Int.eq_ofNat_of_zero_le hk0
  have hk9 : kd ≤ 9 := by omega
  have hb1 := BxC.start h #[.int .i64 0, .int .u64 0, .int .u64 0, .int .u64 0, .slice none 0 0, .slice none 0 0] 26 (hF _ (Nat.le_refl _))
  have HB1 := Lib.hid hb1
  have HG := Lib.hid hG
  have HGG := Lib.hid hg
  have HLEN := Lib.hid hlen
  have HF := Lib.hid hF
  have HT := Lib.hid (And.intro ht (And.intro hp hn))
  have HKD := Lib.hid hkd
  have HMS : Hid (∀ w1, Calls Try.prog 78 #[.bool true] w1 fun e w' => e = .returned (.tuple #[]) ∧ w1 = w') := fun w1 => must_yes w1
  obtain ⟨G, hGe⟩ : ∃ G, w.heap.size = G := ⟨_, rfl⟩
  obtain ⟨w1, hw1⟩ : ∃ w1, w.alloc (.cells #[.int .i64 0, .int .u64 0, .int .u64 0, .int .u64 0, .slice none 0 0, .slice none 0 0] 26) = w1 := ⟨_, rfl⟩
  rw [hw1, hGe] at HB1
  have hmf : ∀ (fn : Fn) (first cap : Array Value) (w : World), (Instr.makeFunc fn first cap).run Try.prog w = .ok (.func fn first cap) w := fun _ _ _ _ => rfl
  have i0 : ∀ w, (Instr.index 130 (.agg #[.pointer (some ⟨G, 1, none⟩), .pointer (some ⟨G, 2, none⟩), .pointer (some ⟨G, 3, none⟩)]) (.int .i64 0)).run Try.prog w = .ok (.pointer (some ⟨G, 1, none⟩)) w := fun _ => by kernel_rfl
  have i1 : ∀ w, (Instr.index 130 (.agg #[.pointer (some ⟨G, 1, none⟩), .pointer (some ⟨G, 2, none⟩), .pointer (some ⟨G, 3, none⟩)]) (.int .i64 1)).run Try.prog w = .ok (.pointer (some ⟨G, 2, none⟩)) w := fun _ => by kernel_rfl
  have i2 : ∀ w, (Instr.index 130 (.agg #[.pointer (some ⟨G, 1, none⟩), .pointer (some ⟨G, 2, none⟩), .pointer (some ⟨G, 3, none⟩)]) (.int .i64 2)).run Try.prog w = .ok (.pointer (some ⟨G, 3, none⟩)) w := fun _ => by kernel_rfl
  have hHG : Hid (w.heap.size = G) := hGe
  clear h hb1 hG hg hlen hF ht hp hn hk0 hkd hbig
  go_enter Try.func66, Try.ntmps66
  go_wp2_with fail
  clear hw1
  refine (byte_any w1 C v _ _ HB1.out.cur).mono ?_
  rintro e w2 ⟨rfl, hp2⟩
  have hx : (UInt8.ofNat r.kind.toNat).toNat = kd := by rw [UInt8.toNat_ofNat', HKD.out, Int.toNat_natCast]; omega
  rw [hx]
  obtain ⟨v2, hb2⟩ := HB1.out.call hp2
  have c0 : w2.cell? ⟨G, 0, none⟩ = some (.int .i64 0) := hb2.cell 0
  have f0 := hb2.free 0
  have hb3 := hb2.set 0 (.int .i64 kd)
  obtain ⟨w3, hw3⟩ : ∃ w3, w2.setCell ⟨G, 0, none⟩ (.int .i64 kd) = w3 := ⟨_, rfl⟩
  rw [hw3] at hb3
  have hb3' : BxC F w w3 C G (ck r 0) 26 v2 (rk r (rT r) 0) := by
    have e : ck r 0 = (#[.int .i64 0, .int .u64 0, .int .u64 0, .int .u64 0, .slice none 0 0, .slice none 0 0] : Array Value).setIfInBounds 0 (.int .i64 kd) := by unfold ck; rw [HKD.out]; rfl
    rw [e]; exact hb3
  have HB3 := Lib.hid hb3'
  have kd0 : (0 : Int) ≤ (kd : Int) := by omega
  have kd1 : (kd : Int) ≤ 9 := by omega
  clear hb2 hb3 hb3' hp2 hx hGe
  go_wp2
  clear hw3 c0 f0
  go_loopw [17] (fun i wr => RK F w wr C G r (rT r) i) (fun i _ => 3 - (intOf i).toNat)
  case atStart => exact ⟨0, v2, .inl ⟨rfl, rfl⟩, HB3.out⟩
  case round =>
    obtain ⟨k, u, hk, hb⟩ := hrel
    have HB := Lib.hid hb
    clear hb HB3
    rcases hk with ⟨rfl, rfl⟩ | ⟨rfl, rfl⟩ | ⟨rfl, rfl⟩ | ⟨rfl, rfl⟩
    · have hn := number_any wr C u r.tx (vi r.prev ++ (vi r.next ++ rT r)) HT.out.1 HB.out.cur
      have HN := Lib.hid hn
      clear hn i1 i2
      go_wp2_with fail
      refine HN.out.mono ?_
      rintro e w2 ⟨rfl, hp2⟩
      obtain ⟨u2, hb2⟩ := HB.out.call hp2
      have c1 : w2.cell? ⟨G, 1, none⟩ = some (.int .u64 0) := hb2.cell 1
      have f1 := hb2.free 1
      have hb3 : BxC F w (w2.setCell ⟨G, 1, none⟩ (.int .u64 r.tx)) C G (ck r 1) 26 u2 (rk r (rT r) 1) := hb2.set 1 (.int .u64 r.tx)
      have HB3 := Lib.hid hb3
      clear hb2 hb3 hp2
      go_wp2
      go_roundw
      case rel => exact ⟨1, u2, .inr (.inl ⟨rfl, rfl⟩), HB3.out⟩
      case measure => simp [intOf]
    · have hn := number_any wr C u r.prev (vi r.next ++ rT r) HT.out.2.1 HB.out.cur
      have HN := Lib.hid hn
      clear hn i0 i2
      go_wp2_with fail
      refine HN.out.mono ?_
      rintro e w2 ⟨rfl, hp2⟩
      obtain ⟨u2, hb2⟩ := HB.out.call hp2
      have c1 : w2.cell? ⟨G, 2, none⟩ = some (.int .u64 0) := hb2.cell 2
      have f1 := hb2.free 2
      have hb3 : BxC F w (w2.setCell ⟨G, 2, none⟩ (.int .u64 r.prev)) C G (ck r 2) 26 u2 (rk r (rT r) 2) := hb2.set 2 (.int .u64 r.prev)
      have HB3 := Lib.hid hb3
      clear hb2 hb3 hp2
      go_wp2
      go_roundw
      case rel => exact ⟨2, u2, .inr (.inr (.inl ⟨rfl, rfl⟩)), HB3.out⟩
      case measure => simp [intOf]
    · have hn := number_any wr C u r.next (rT r) HT.out.2.2 HB.out.cur
      have HN := Lib.hid hn
      clear hn i0 i1
      go_wp2_with fail
      refine HN.out.mono ?_
      rintro e w2 ⟨rfl, hp2⟩
      obtain ⟨u2, hb2⟩ := HB.out.call hp2
      have c1 : w2.cell? ⟨G, 3, none⟩ = some (.int .u64 0) := hb2.cell 3
      have f1 := hb2.free 3
      have hb3 : BxC F w (w2.setCell ⟨G, 3, none⟩ (.int .u64 r.next)) C G (ck r 3) 26 u2 (rk r (rT r) 3) := hb2.set 3 (.int .u64 r.next)
      have HB3 := Lib.hid hb3
      clear hb2 hb3 hp2
      go_wp2
      go_roundw
      case rel => exact ⟨3, u2, .inr (.inr (.inr ⟨rfl, rfl⟩)), HB3.out⟩
      case measure => simp [intOf]
    · clear i0 i1 i2 hmf
      obtain ⟨w4, rfl⟩ : ∃ w4 : World, w4 = wr := ⟨_, rfl⟩
      have ht := textr_any w4 C u r.data (vi r.cs.length ++ r.cs.flatMap chB) HLEN.out.1 HB.out.cur
      have HTX := Lib.hid ht
      clear ht
      go_wp2_with fail
      refine HTX.out.mono ?_
      rintro e w5 ⟨g5, n5, rfl, HN5, ho5, hp5⟩
      obtain ⟨u5, hb5⟩ := HB.out.call hp5
      have c4 : w5.cell? ⟨G, 4, none⟩ = some (.slice none 0 0) := hb5.cell 4
      have f4 := hb5.free 4
      have hb6 : BxC F w (w5.setCell ⟨G, 4, none⟩ (.slice (some ⟨g5, 0, none⟩) n5 n5)) C G (rcs r (.slice (some ⟨g5, 0, none⟩) n5 n5) (.slice none 0 0)) 26 u5 (vi r.cs.length ++ r.cs.flatMap chB) := hb5.set 4 (.slice (some ⟨g5, 0, none⟩) n5 n5)
      have ho6 : OwnB (w5.setCell ⟨G, 4, none⟩ (.slice (some ⟨g5, 0, none⟩) n5 n5)) w.heap.size 5 (.slice (some ⟨g5, 0, none⟩) n5 n5) r.data := by
        have h1 := ownsRow_base ho5 (base' := w.heap.size) (fun k hk => by have := (ho5.lt k hk).1; have := HB.out.chg.size; omega)
        exact ownB_same h1 (fun k hk => block_setCell_ne _ (fun e => by have := (ho5.lt k hk).1; have := lt_of_block HB.out.blk; omega))
      obtain ⟨w6, hw6⟩ : ∃ w6, w5.setCell ⟨G, 4, none⟩ (.slice (some ⟨g5, 0, none⟩) n5 n5) = w6 := ⟨_, rfl⟩
      rw [hw6] at hb6 ho6
      obtain ⟨n, hn⟩ : ∃ n, r.cs.length = n := ⟨_, rfl⟩
      rw [hn] at hb6
      have hnn : n ≤ 1048576 := by rw [← hn]; exact HLEN.out.2
      have hsm := small_any w6 C u5 n (r.cs.flatMap chB) hnn hb6.cur
      have HSM := Lib.hid hsm
      have HB6 := Lib.hid hb6
      have HO6 := Lib.hid ho6
      have HNN := Lib.hid hn
      clear hb5 hp5 ho5 hb6 ho6 hsm HTX hn
      go_wp2_with fail
      clear hw6 c4 f4
      refine HSM.out.mono ?_
      rintro e w7 ⟨rfl, hp7⟩
      obtain ⟨u7, hb7⟩ := HB6.out.call hp7
      have ho7 : OwnB w7 w.heap.size 5 (.slice (some ⟨g5, 0, none⟩) n5 n5) r.data := by
        obtain ⟨_, _, hc7⟩ := hp7
        exact ownB_same HO6.out (fun k hk => hc7.block k (HO6.out.lt k hk).2 (fun e => by have := (HO6.out.lt k hk).1; have := HB6.out.ne; have : k = C := e; omega))
      obtain ⟨ua, un, uc, rfl, HU, -, hum⟩ := hb7.cur.rd.formN
      have hun : n ≤ un := by rw [HU.out, ← HNN.out]; exact flat_len _
      have huni : (un : Int) ≤ 9223372036854775807 := by have := hb7.cur.rd.nmax; have := HU.out; unfold maxLen at *; omega
      have n0 : (0 : Int) ≤ (n : Int) := by omega
      have n1 : (n : Int) ≤ 1048576 := by omega
      have cc := hb7.cur.cell
      have c5 : w7.cell? ⟨G, 5, none⟩ = some (.slice none 0 0) := hb7.cell 5
      have f5 := hb7.free 5
      obtain ⟨zs, hzs, hmk⟩ := make_changes n hnn w7
      have hb8 := (BxC.set (i := 5) (u := .slice (some ⟨w7.heap.size, 0, none⟩) 0 n) (⟨by rw [heap_alloc_old _ _ (lt_of_block hb7.blk)]; exact hb7.blk, hb7.cur.below ((Below.refl _ _).alloc (Nat.le_refl _) _), hb7.chg.trans (chg_alloc w7 _), hb7.new, hb7.ne, hb7.hg⟩ : BxC F w (w7.alloc (.cells zs 81)) C G _ _ _ _))
      have hst : RSt F w ((w7.alloc (.cells zs 81)).setCell ⟨G, 5, none⟩ (.slice (some ⟨w7.heap.size, 0, none⟩) 0 n)) C G r (.slice (some ⟨g5, 0, none⟩) n5 n5) (.slice (some ⟨w7.heap.size, 0, none⟩) 0 n) (.slice ua un uc) [] (r.cs.flatMap chB) := by
        refine ⟨hb8, ?_, by simp, ?_⟩
        · refine ownsRow_keep (w := w7.alloc (.cells zs 81)) ⟨by simp, .inr ⟨_, n, zs, rfl, hb7.chg.size, heap_alloc_new w7 _, Nat.zero_le _, by unfold maxLen; omega, hzs, by simp⟩⟩ (fun k e => ?_)
          simp only [Value.ownBlock, Option.some.injEq] at e
          subst e
          exact block_setCell_ne _ (fun e => by have := lt_of_block hb7.blk; omega)
        · exact ownB_same ho7 (fun k hk => by rw [block_setCell_ne _ (fun e => ownB_ne ho7 hb7.blk (by decide) (by rw [← (show k = G from e)]; exact hk)), heap_alloc_old _ _ (ho7.lt k hk).2])
      obtain ⟨w8, hw8⟩ : ∃ w8, (w7.alloc (.cells zs 81)).setCell ⟨G, 5, none⟩ (.slice (some ⟨w7.heap.size, 0, none⟩) 0 n) = w8 := ⟨_, rfl⟩
      rw [hw8] at hst
      have HST := Lib.hid hst
      have hz7 : G < w7.heap.size := lt_of_block hb7.blk
      clear hb7 hp7 ho7 hb8 hst hzs hum HO6 HSM
      go_wp2_with (go_at_call 78; refine (HMS.out _).mono ?_; rintro e w9 ⟨rfl, rfl⟩)
      clear hw8 c5 f5 cc hmk hz7 huni hun
      go_loopw [42] (fun i wr => RL F w wr C G n r (.slice (some ⟨g5, 0, none⟩) n5 n5) i) (fun i _ => n - (intOf i).toNat)
      case atStart => exact ⟨0, _, _, [], Nat.zero_le _, rfl, by simp, by simpa using HST.out⟩
      case round =>
        obtain ⟨k, v, u, us, hk, rfl, hus, hst⟩ := hrel
        have hul : us.length = k := by
          have h1 := congrArg List.length hus
          simp only [List.length_map, List.length_take] at h1
          have := HNN.out
          omega
        obtain ⟨va, vc, rfl⟩ : ∃ a c, v = .slice a us.length c := by
          obtain ⟨a, c, h1, _⟩ := (RdV.of_own (F := NoF) hst.row (fun _ _ => noF _)).form
          exact ⟨a, c, h1⟩
        have HUS := Lib.hid hus
        have HUL := Lib.hid hul
        have HST := Lib.hid hst
        clear hus
        by_cases hlt : k < n
        · have hkl : k < r.cs.length := by rw [HNN.out]; exact hlt
          have hdr : (r.cs.drop k).flatMap chB = chB r.cs[k] ++ (r.cs.drop (k + 1)).flatMap chB := by rw [List.drop_eq_getElem_cons hkl, List.flatMap_cons]
          rw [hdr] at hst
          have hgc : GoodC r.cs[k] := HG.out.2.2 _ (List.getElem_mem hkl)
          have htk : r.cs.take (k + 1) = r.cs.take k ++ [r.cs[k]] := take_snoc r.cs k hkl
          obtain ⟨pc, hpc⟩ : ∃ pc, r.cs[k] = pc := ⟨_, rfl⟩
          rw [hpc] at hst hgc htk
          have HTK := Lib.hid htk
          have hF2 : ∀ k, wr.drew.heap.size ≤ k → F k := fun j hj => HF.out j (Nat.le_trans hst.bx.chg.size hj)
          have hcd : CurAt F wr.drew C u (chB pc ++ (r.cs.drop (k + 1)).flatMap chB) := hst.bx.cur.below (below_drewN (Below.refl _ _) 1)
          have hch := change_any wr.drew C u pc _ hgc hcd hF2
          have HCH := Lib.hid hch
          have hS0 : wr.drew.cell? ⟨G, 5, none⟩ = some (.slice va us.length vc) := hst.bx.cell 5
          have HST2 := Lib.hid hst
          have HLT := Lib.hid hlt
          clear hst hdr hgc htk hpc hF2 hcd hch hul hkl
          go_upto_region 14 with (fail)
          refine wp_region_U (fun W => W.cell? ⟨G, 5, none⟩ = some (.slice va us.length vc)) [7] (by kernel_rfl) ?_
          refine wpAnyU_take (i := 0) [1, 5, 6, 7] rfl (by as_aux_lemma => kernel_rfl) (by as_aux_lemma => kernel_rfl) (by as_aux_lemma => kernel_rfl) (by as_aux_lemma => kernel_rfl) (by as_aux_lemma => kernel_rfl) (by as_aux_lemma => kernel_rfl) (fun _ _ _ h => h) (Or.inl ⟨by rfl, (by intro W hSW; (try dsimp only at hSW); (try go_split_ands); go_simp <;> with_reducible rfl)⟩) hS0 ?_
          try simp only [Act.put, List.getElem_toArray, List.getElem_cons_succ, List.getElem_cons_zero, List.setIfInBounds_toArray, List.set_cons_zero, List.set_cons_succ]
          refine wpAnyU_take (i := 1) [5, 6, 7] rfl (by as_aux_lemma => kernel_rfl) (by as_aux_lemma => kernel_rfl) (by as_aux_lemma => kernel_rfl) (by as_aux_lemma => kernel_rfl) (by as_aux_lemma => kernel_rfl) (by as_aux_lemma => kernel_rfl) (fun _ _ _ h => h) (Or.inl ⟨by rfl, (by intro W hSW; (try dsimp only at hSW); (try go_split_ands); go_simp <;> with_reducible rfl)⟩) hS0 ?_
          try simp only [Act.put, List.getElem_toArray, List.getElem_cons_succ, List.getElem_cons_zero, List.setIfInBounds_toArray, List.set_cons_zero, List.set_cons_succ]
          refine wpAnyU_take (i := 2) [3, 4, 5, 6, 7] rfl (by as_aux_lemma => kernel_rfl) (by as_aux_lemma => kernel_rfl) (by as_aux_lemma => kernel_rfl) (by as_aux_lemma => kernel_rfl) (by as_aux_lemma => kernel_rfl) (by as_aux_lemma => kernel_rfl) (fun _ _ _ h => h) (Or.inl ⟨by rfl, (by intro W hSW; (try dsimp only at hSW); (try go_split_ands); go_simp <;> with_reducible rfl)⟩) hS0 ?_
          try simp only [Act.put, List.getElem_toArray, List.getElem_cons_succ, List.getElem_cons_zero, List.setIfInBounds_toArray, List.set_cons_zero, List.set_cons_succ]
          refine wpAnyU_one (i := 3) (by kernel_rfl) rfl (fun K hK => ?_)
          go_simp
          go_at_call 79
          (with_reducible refine HCH.out.mono ?_)
          rintro e w2 ⟨g, m, rfl, hm, ho, hp⟩
          obtain ⟨u2, hs2⟩ := HST2.out.call (show CPost F wr C _ w2 from by obtain ⟨q1, q2, q3⟩ := hp; exact ⟨q1, q2, ⟨q3.os, q3.tape, q3.output, q3.size, q3.block, q3.foot⟩⟩)
          have ho2 := ownsRow_base ho (base' := w.heap.size) (fun k hk => Nat.le_trans HST2.out.bx.chg.size (ho.lt k hk).1)
          obtain ⟨R, cp, w3, hr, hrow, hgr, hor, hlt3⟩ := push_change (ty := 24) (c := pc) (g := g) (n := m) hs2.row hs2.bx.chg.size (by have := HUL.out; have := HLT.out; omega)
          obtain ⟨c5, f5, hs3⟩ := hs2.push ho2 HF.out hrow hgr hor hlt3
          have hS2 : w2.cell? ⟨G, 5, none⟩ = some (.slice va us.length vc) := hs2.bx.cell 5
          have hS2a : (w2.alloc (.cells #[.int .i64 pc.page, .int .i64 pc.at_, .bool pc.whole, .slice (some ⟨g, 0, none⟩) m m] 81)).cell? ⟨G, 5, none⟩ = some (.slice va us.length vc) :=
            cell_of_row _ _ 5 _ _ _ ((heap_alloc_old _ _ (lt_of_block hs2.bx.blk)).trans hs2.bx.blk)
          have HR := Lib.hid hr
          have HS3 := Lib.hid hs3
          clear hm ho hp hs2 ho2 hr hrow hgr hor hlt3 hs3 HCH
          refine hK.out _ _ (fun _ => hS2) (fun _ => ?_)
          clear hK K
          try simp only [Act.put, List.getElem_toArray, List.getElem_cons_succ, List.getElem_cons_zero, List.setIfInBounds_toArray, List.set_cons_zero, List.set_cons_succ]
          refine wpAnyU_one (i := 4) (by kernel_rfl) rfl (fun K hK => ?_)
          go_simp
          refine hK.out _ _ (fun _ => hS2a) (fun _ => ?_)
          clear hK K
          try simp only [Act.put, List.getElem_toArray, List.getElem_cons_succ, List.getElem_cons_zero, List.setIfInBounds_toArray, List.set_cons_zero, List.set_cons_succ]
          refine wpAnyU_one (i := 5) (by kernel_rfl) rfl (fun K hK => ?_)
          refine step_append_is rfl rfl HR.out rfl rfl ?_
          refine hK.out _ _ (fun _ => c5) (fun _ => ?_)
          clear hK K
          try simp only [Act.put, List.getElem_toArray, List.getElem_cons_succ, List.getElem_cons_zero, List.setIfInBounds_toArray, List.set_cons_zero, List.set_cons_succ]
          refine wpAnyU_take (i := 6) [7] rfl (by as_aux_lemma => kernel_rfl) (by as_aux_lemma => kernel_rfl) (by as_aux_lemma => kernel_rfl) (by as_aux_lemma => kernel_rfl) (by as_aux_lemma => kernel_rfl) (by as_aux_lemma => kernel_rfl) (fun _ _ _ h => h) (Or.inl ⟨by rfl, (by intro W hSW; (try dsimp only at hSW); (try go_split_ands); go_simp <;> with_reducible rfl)⟩) c5 ?_
          try simp only [Act.put, List.getElem_toArray, List.getElem_cons_succ, List.getElem_cons_zero, List.setIfInBounds_toArray, List.set_cons_zero, List.set_cons_succ]
          refine wpAnyU_one (i := 7) (by kernel_rfl) rfl (fun K hK => ?_)
          go_simp
          refine hK.out _ _ (fun h => absurd h (by decide)) (fun _ => ?_)
          clear hK K
          try simp only [Act.put, List.getElem_toArray, List.getElem_cons_succ, List.getElem_cons_zero, List.setIfInBounds_toArray, List.set_cons_zero, List.set_cons_succ]
          refine wpAnyU_done (by kernel_rfl) ?_ _
          clear hS0 hS2 hS2a c5 f5
          go_wp2
          go_roundw
          case rel => exact ⟨k + 1, _, u2, _, by have := HLT.out; omega, by go_num, by rw [List.map_append, HUS.out, HTK.out]; rfl, HS3.out⟩
          case measure => have := HLT.out; simp [intOf]; omega
        · obtain rfl : k = n := by omega
          have hus2 : us.map (·.1) = r.cs := by rw [HUS.out, ← HNN.out, List.take_length]
          have hdr : (r.cs.drop k).flatMap chB = [] := by rw [← HNN.out, List.drop_length]; rfl
          rw [hdr] at hst
          have hrec := hst.read hus2 HT.out.1 HT.out.2.1 HT.out.2.2
          have hgd := rgood_any wr r _ hrec
          rw [HGG.out] at hgd
          unfold rval at hgd
          simp only at hgd
          obtain ⟨a9, n9, c9, rfl, HN9, -, -⟩ := hst.bx.cur.rd.formN
          have hn9 : n9 = 0 := HN9.out
          subst hn9
          have cc := hst.bx.cur.cell
          obtain ⟨k0, k1, k2, k3, k4, k5⟩ := box6 (w := w) hst.bx.blk
          rw [HKD.out] at k0 hgd
          have HGD := Lib.hid hgd
          have HREC := Lib.hid hrec
          have HST3 := Lib.hid hst
          clear hst hrec hgd hdr hus2 hul
          have h1c : (rcs r (.slice (some ⟨g5, 0, none⟩) n5 n5) (.slice va us.length vc)).all (·.oneCell') = true := by simp [rcs, Value.oneCell']
          have H1C := Lib.hid h1c
          clear h1c
          go_upto_region 17 with (first
            | (go_at_call 33; (with_reducible refine HGD.out.mono ?_); rintro e w9 ⟨rfl, hb9⟩
               have HB9 := Lib.hid hb9
               have HBK := Lib.hid ((hb9.block G (lt_of_block HST3.out.bx.blk)).trans HST3.out.bx.blk)
               clear hb9)
            | (go_at_call 78; refine (HMS.out _).mono ?_; rintro e w10 ⟨rfl, rfl⟩))
          have hself := setRow_self w9 G _ _ _ HBK.out
          have HSELF := Lib.hid hself
          clear hself k0 k1 k2 k3 k4 k5 cc
          go_wp2_with (first
            | (refine wpList_load_row rfl _ _ rfl G rfl _ _ (0, 0) _ HBK.out Try.underlying26 rfl infoR ?_)
            | (refine wpList_store_row rfl _ _ _ rfl G _ rfl rfl _ _ HBK.out infoR rfl H1C.out ?_; rw [HSELF.out]))
          obtain ⟨q0, q1, q2, q3, q4, q5⟩ := box6 (w := w) HBK.out
          refine bodyPost_ret (by simp [results, Try.results66, go_sem, q0, q1, q2, q3, q4, q5]; try rfl) rfl ?_
          refine ⟨⟨.slice (some ⟨g5, 0, none⟩) n5 n5, .slice va us.length vc, us⟩, rfl, HREC.out.below HB9.out, HST3.out.bx.chg.trans (Chg.of_below HB9.out _)⟩
end Mun
end

section
/- Contract of parsed: a body that stands well is read, its deferred call finds no panic. -/
set_option maxRecDepth 100000
set_option linter.unusedVariables false
set_option linter.unusedSimpArgs false
namespace Mun
open Go Go.RowKit
open Go.Proofs

theorem catch_idle (p q : Addr) (w : World) :
    CallsD Try.prog 65 #[.pointer (some p), .pointer (some q)] .returning w fun e u' w' => e = .returned (.tuple #[]) ∧ u' = .returning ∧ w' = w := by
  have hta : ∀ w, (Instr.typeAssert .nilIface 20 28 true).run Try.prog w = .ok (.tuple #[.int .i64 0, .bool false]) w := fun w => by kernel_rfl
  have hne : ∀ w, (binOp .neq 20 .nilIface .nilIface).run Try.prog w = .ok (.bool false) w := fun w => by kernel_rfl
  refine callsD_of_wpS Try.func65 rfl fun c₀ cs hu => ?_
  apply wpS_seq
  apply wpS_region
  simp [wpOpsS, go_sem, recoverD, hu, Try.ntmps65, Exit.thenS]
  apply wpS_seq
  apply wpS_region
  simp [wpOpsS, go_sem, Exit.thenS, hta]
  apply wpS_seq
  apply wpS_region
  simp [wpOpsS, go_sem, Exit.thenS]
  refine wpS_cond (t := false) (by simp [Act.eval, Array.replicate]) ?_
  simp only [Bool.false_eq_true, if_false]
  apply wpS_seq
  apply wpS_region
  simp [wpOpsS, go_sem, Exit.thenS, hne]
  refine wpS_cond (t := false) (by simp [Act.eval, Array.replicate]) ?_
  simp only [Bool.false_eq_true, if_false]
  refine wpS_of_wp (wp_skip ?_)
  cases c₀
  simp_all [bodyPostS, results, Try.results65]

theorem setRow_blk {w : World} {g : Nat} {old cs : Array Value} {t : TypeId} (h : w.heap[g]? = some (.cells old t (0, 0))) : (w.setRow g cs).heap[g]? = some (.cells cs t (0, 0)) := by
  show (w.heap.modify g _)[g]? = _
  rw [Array.getElem?_modify]
  simp [h]
theorem setRow_other {w : World} {g k : Nat} {cs : Array Value} (h : k ≠ g) : (w.setRow g cs).heap[k]? = w.heap[k]? := by
  show (w.heap.modify g _)[k]? = _
  rw [Array.getElem?_modify, if_neg (Ne.symm h)]

set_option maxHeartbeats 1000000 in
theorem parsed_any {F : Foot} (w : World) (v : Value) (r : PR) (hg : goodR r = true) (hbig : (bodyR r).length ≤ 1048576) (ht : r.tx < 18446744073709551616) (hp : r.prev < 18446744073709551616) (hn : r.next < 18446744073709551616) (hv : RdB F w v (bodyR r)) :
    Calls Try.prog 38 #[v] w fun e w' => ∃ x, e = .returned (.tuple #[rval r x, .bool true]) ∧ RecAt (OldF w.heap.size) w' r x ∧ Below w.heap.size w w' := by
  have hmf : ∀ (fn : Fn) (first cap : Array Value) (w : World), (Instr.makeFunc fn first cap).run Try.prog w = .ok (.func fn first cap) w := fun _ _ _ _ => rfl
  obtain ⟨a, c, rfl, -, -⟩ := hv.form
  obtain ⟨m, hm⟩ : ∃ m, (bodyR r).length = m := ⟨_, rfl⟩
  rw [hm] at hv ⊢
  obtain ⟨w1, hw1⟩ : ∃ w1, w.alloc (.cells #[.int .i64 0, .int .u64 0, .int .u64 0, .int .u64 0, .slice none 0 0, .slice none 0 0] 26) = w1 := ⟨_, rfl⟩
  obtain ⟨w2, hw2⟩ : ∃ w2, w1.alloc (.cells #[.bool false] 4) = w2 := ⟨_, rfl⟩
  obtain ⟨w3, hw3⟩ : ∃ w3, w2.alloc (.cells #[.slice a m c] 119) = w3 := ⟨_, rfl⟩
  have s1 : w1.heap.size = w.heap.size + 1 := by rw [← hw1]; simp
  have s2 : w2.heap.size = w.heap.size + 2 := by rw [← hw2]; simp [s1]
  have s3 : w3.heap.size = w.heap.size + 3 := by rw [← hw3]; simp [s2]
  have b1 : Below w.heap.size w w1 := by rw [← hw1]; exact (Below.refl _ _).alloc (Nat.le_refl _) _
  have b2 : Below w.heap.size w w2 := by rw [← hw2]; exact b1.alloc b1.size _
  have b3 : Below w.heap.size w w3 := by rw [← hw3]; exact b2.alloc b2.size _
  have k1 : w3.heap[w.heap.size]? = some (.cells #[.int .i64 0, .int .u64 0, .int .u64 0, .int .u64 0, .slice none 0 0, .slice none 0 0] 26 (0, 0)) := by
    rw [← hw3, heap_alloc_old _ _ (by omega), ← hw2, heap_alloc_old _ _ (by omega), ← hw1]; exact heap_alloc_new w _
  have k2 : w3.heap[w1.heap.size]? = some (.cells #[.bool false] 4 (0, 0)) := by
    rw [← hw3, heap_alloc_old _ _ (by omega), ← hw2]; exact heap_alloc_new w1 _
  have hcur : CurAt (NewF w.heap.size) w3 w2.heap.size (.slice a m c) (bodyR r) := by
    refine ⟨by rw [← hw3]; exact heap_alloc_new w2 _, ?_, by unfold NewF; omega⟩
    exact RdB.below (RdB.mono (F' := NewF w.heap.size) hv (fun k hk h => by unfold NewF at h; omega)) b3
  have hrc := rec_any w3 _ _ r hg hbig ht hp hn hcur (fun k hk => by unfold NewF; omega)
  have HRC := Lib.hid hrc
  have HB3 := Lib.hid (And.intro b3 (And.intro k1 (And.intro k2 (And.intro s1 (And.intro s2 s3)))))
  clear hrc hcur hv hg hbig ht hp hn hm s1 s2 s3 b1 b2 b3 k1 k2
  go_enter_defers Try.func38, Try.ntmps38
  go_wp2_with fail
  clear hw1 hw2 hw3
  refine HRC.out.mono ?_
  rintro e w4 ⟨x, rfl, hrec, hc4⟩
  obtain ⟨da, dn, dc, ca, cn, cc, e1, e2, -⟩ := hrec.open
  obtain ⟨-, k1, k2, s1, s2, s3⟩ := HB3.out
  have hc3 : w3.heap.size ≤ w4.heap.size := hc4.size
  have k1' := (hc4.block _ (by omega) (fun h => by have : w.heap.size = w2.heap.size := h; omega)).trans k1
  have k2' := (hc4.block _ (by omega) (fun h => by have : w1.heap.size = w2.heap.size := h; omega)).trans k2
  have h1c : (rcs r (.slice da dn dc) (.slice ca cn cc)).all (·.oneCell') = true := by simp [rcs, Value.oneCell']
  obtain ⟨w5, hw5⟩ : ∃ w5, w4.setRow w.heap.size (rcs r (.slice da dn dc) (.slice ca cn cc)) = w5 := ⟨_, rfl⟩
  have k3 : w5.heap[w.heap.size]? = some (.cells (rcs r (.slice da dn dc) (.slice ca cn cc)) 26 (0, 0)) := by rw [← hw5]; exact setRow_blk k1'
  have k4 : w5.heap[w1.heap.size]? = some (.cells #[.bool false] 4 (0, 0)) := by rw [← hw5, setRow_other (by omega)]; exact k2'
  have c4 : w5.cell? ⟨w1.heap.size, 0, none⟩ = some (.bool false) := cell_of_row _ _ 0 _ _ _ k4
  have f4 : w5.frozen? ⟨w1.heap.size, 0, none⟩ = false := by simp [World.frozen?, k4]
  obtain ⟨w6, hw6⟩ : ∃ w6, w5.setCell ⟨w1.heap.size, 0, none⟩ (.bool true) = w6 := ⟨_, rfl⟩
  have k5 : w6.heap[w.heap.size]? = some (.cells (rcs r (.slice da dn dc) (.slice ca cn cc)) 26 (0, 0)) := by rw [← hw6, block_setCell_ne _ (by omega)]; exact k3
  have k6 : w6.heap[w1.heap.size]? = some (.cells #[.bool true] 4 (0, 0)) := by rw [← hw6]; exact block_setCell k4 _
  have hsz6 : w6.heap.size = w4.heap.size := by rw [← hw6, ← hw5]; simp [World.setCell, World.setRow]
  have hk6 : ∀ k, k ≠ w.heap.size → k ≠ w1.heap.size → w6.heap[k]? = w4.heap[k]? := fun k h1 h2 => by rw [← hw6, block_setCell_ne _ h2, ← hw5, setRow_other h1]
  have hrec6 : RecAt (OldF w.heap.size) w6 r x := hrec.keep (fun k hk hn => hk6 k (fun e => hn (by unfold OldF; omega)) (fun e => hn (by unfold OldF; omega))) (fun k hk h => by unfold OldF at *; omega)
  have hb6 : Below w.heap.size w w6 := by
    have hb4 : Below w.heap.size w3 w4 := hc4.below (by omega) (fun k hk h => by have : k = w2.heap.size := h; omega)
    have hb := HB3.out.1.trans hb4
    refine ⟨by rw [← hw6, ← hw5]; exact hb.os, by rw [← hw6, ← hw5]; exact hb.tape, by rw [← hw6, ← hw5]; exact hb.output, by rw [hsz6]; exact hb.size, fun k hk => ?_⟩
    rw [hk6 k (by omega) (by omega)]
    exact hb.block k hk
  have HK1 := Lib.hid k1'
  have H1C := Lib.hid h1c
  have HK5 := Lib.hid k5
  have HK6 := Lib.hid k6
  have HREC := Lib.hid hrec6
  have HB6 := Lib.hid hb6
  have HE := Lib.hid (And.intro e1 e2)
  have HW5 := Lib.hid hw5
  unfold rval
  rw [e1, e2]
  clear k1 k2 s1 s2 s3 hc3 k1' k2' h1c hw5 k3 k4 k5 k6 hsz6 hk6 hrec6 hb6 hrec hc4 e1 e2 HRC
  go_wp2_with (refine wpList_store_row rfl _ _ _ rfl w.heap.size (rcs r (.slice da dn dc) (.slice ca cn cc)) rfl rfl _ _ HK1.out infoR rfl H1C.out ?_; rw [HW5.out])
  refine leaves_cons (f := 65) (args := #[.pointer (some ⟨w.heap.size, 0, none⟩), .pointer (some ⟨w1.heap.size, 0, none⟩)]) (by simp) (by simp [go_sem]) ?_
  refine (catch_idle ⟨w.heap.size, 0, none⟩ ⟨w1.heap.size, 0, none⟩ _).mono ?_
  rintro e u' w'' ⟨rfl, rfl, rfl⟩
  obtain ⟨q0, q1, q2, q3, q4, q5⟩ := box6 (w := w) HK5.out
  have q6 : w''.cell? ⟨w1.heap.size, 0, none⟩ = some (.bool true) := cell_of_row _ _ 0 _ _ _ HK6.out
  have HP : ∃ y, Value.agg #[.int .i64 r.kind, .int .u64 r.tx, .int .u64 r.prev, .int .u64 r.next, .slice da dn dc, .slice ca cn cc] = rval r y ∧ RecAt (OldF w.heap.size) w'' r y ∧ Below w.heap.size w w'' :=
    ⟨x, by unfold rval; rw [HE.out.1, HE.out.2], HREC.out, HB6.out⟩
  have HPP := Lib.hid HP
  clear HP
  simp [Leaves, settle, results, Try.results38, go_sem, q0, q1, q2, q3, q4, q5, q6]
  exact HPP.out
end Mun
end

section
/- Contracts of Body: the record at a place of a log. -/
set_option maxRecDepth 100000
set_option linter.unusedVariables false
set_option linter.unusedSimpArgs false
namespace Mun
open Go Go.RowKit
open Go.Proofs

/-- no record -/
def noR : Value := .agg #[.int .i64 0, .int .u64 0, .int .u64 0, .int .u64 0, .slice none 0 0, .slice none 0 0]

def BodyNo (w : World) (k : Int) (e : Ending) (w' : World) : Prop := e = .returned (.tuple #[noR, .int .i64 0, .int .i64 k]) ∧ Below w.heap.size w w'

theorem le4_lt (l : List UInt8) (h : l.length ≤ 4) : leNat l < 4294967296 := by
  have h1 := leNat_lt l
  have : 256 ^ l.length ≤ 256 ^ 4 := Nat.pow_le_pow_right (by omega) h
  omega

section
variable {F : Foot} (w : World) (v : Value) (l : List UInt8) (A : Nat) (lsn : Nat)

theorem body_arg (k : Int) (hv : RdB F w v l) (hk : k < 0 ∨ (l.length : Int) < k) : Calls Try.prog 11 #[v, .int .i64 k, .int .u64 lsn] w (BodyNo w 1) := by
  obtain ⟨a, n, c, rfl, HN, hnc, hcm⟩ := hv.formN
  by_cases h0 : k < 0
  · clear hv hk hnc hcm
    go_enter Try.func11, Try.ntmps11
    go_wp2
    refine bodyPost_ret (by simp [results, Try.results11, go_sem]; try rfl) rfl ?_
    exact ⟨rfl, (Below.refl _ _).alloc (Nat.le_refl _) _⟩
  · have h1 : (n : Int) < k := by have := HN.out; omega
    have h2 : 0 ≤ k := by omega
    clear hv hk hnc hcm
    go_enter Try.func11, Try.ntmps11
    go_wp2
    refine bodyPost_ret (by simp [results, Try.results11, go_sem]; try rfl) rfl ?_
    exact ⟨rfl, (Below.refl _ _).alloc (Nat.le_refl _) _⟩

theorem body_short (hv : RdB F w v l) (hA : A ≤ l.length) (hs : l.length < A + 8) : Calls Try.prog 11 #[v, .int .i64 A, .int .u64 lsn] w (BodyNo w 4) := by
  obtain ⟨a, n, c, rfl, HN, hnc, hcm⟩ := hv.formN
  have t0 : (0 : Int) ≤ (A : Int) := by omega
  have t1 : ¬ (n : Int) < (A : Int) := by have := HN.out; omega
  have t3 : (n : Int) ≤ 9223372036854775807 := by unfold maxLen at hcm; omega
  have t4 : (A : Int) ≤ 9223372036854775807 := by omega
  have t5 : (A : Int) ≤ (n : Int) := by omega
  have t6 : ¬ n < A := by omega
  have t7 : ¬ (A : Int) < 0 := by omega
  have t2 : (n : Int) - (A : Int) < 8 := by have := HN.out; omega
  clear hv hA hs hnc hcm
  go_enter Try.func11, Try.ntmps11
  go_wp2
  refine bodyPost_ret (by simp [results, Try.results11, go_sem]; try rfl) rfl ?_
  exact ⟨rfl, (Below.refl _ _).alloc (Nat.le_refl _) _⟩

set_option maxHeartbeats 1000000 in
theorem body_size (hv : RdB F w v l) (hA : A + 8 ≤ l.length) (hsz : 1048576 < leNat ((l.drop A).take 4) ∨ l.length < A + 8 + leNat ((l.drop A).take 4)) : Calls Try.prog 11 #[v, .int .i64 A, .int .u64 lsn] w (BodyNo w 4) := by
  obtain ⟨a, n, c, rfl, HN, hnc, hcm⟩ := hv.formN
  have t0 : (0 : Int) ≤ (A : Int) := by omega
  have t1 : ¬ (n : Int) < (A : Int) := by have := HN.out; omega
  have t3 : (n : Int) ≤ 9223372036854775807 := by unfold maxLen at hcm; omega
  have t4 : (A : Int) ≤ 9223372036854775807 := by omega
  have t5 : (A : Int) ≤ (n : Int) := by omega
  have t6 : ¬ n < A := by omega
  have t7 : ¬ (A : Int) < 0 := by omega
  have t2 : ¬ ((n : Int) - (A : Int) < 8) := by have := HN.out; omega
  have t8 : (A : Int) + 8 ≤ 9223372036854775807 := by have := HN.out; omega
  obtain ⟨a1, c1, hr1, hrd1⟩ := slice_bytes hv A (A + 4) (A : Int) ((A : Int) + 4) rfl (by omega) (by omega) (by omega)
  rw [show A + 4 - A = 4 by omega] at hr1 hrd1
  have hwd1 := word_any (w.alloc (.cells #[.int .i64 0, .int .u64 0, .int .u64 0, .int .u64 0, .slice none 0 0, .slice none 0 0] 26)) _ _ (RdB.alloc hrd1 _) (by rw [List.length_take]; omega)
  obtain ⟨s, hs⟩ : ∃ s, leNat ((l.drop A).take 4) = s := ⟨_, rfl⟩
  rw [hs] at hwd1 hsz
  have HWD := Lib.hid hwd1
  have s0 : (0 : Int) ≤ (s : Int) := by omega
  by_cases hbig : 1048576 < s
  · have z1 : decide ((1048576 : Int) < (s : Int)) = true := decide_eq_true (by omega)
    have z2 : decide (1048576 < s) = true := decide_eq_true hbig
    clear hv hA hsz hnc hcm hrd1 hs hbig hwd1
    go_enter Try.func11, Try.ntmps11
    go_wp2_with (go_at_call 37; refine HWD.out.mono ?_; rintro e w2 ⟨rfl, rfl⟩)
    refine bodyPost_ret (by simp [results, Try.results11, go_sem]; try rfl) rfl ?_
    exact ⟨rfl, (Below.refl _ _).alloc (Nat.le_refl _) _⟩
  · have u0 : ¬ (1048576 : Int) < (s : Int) := by omega
    have s2 : (s : Int) ≤ 1048576 := by omega
    have u1 : (n : Int) - (A : Int) - 8 < (s : Int) := by have := HN.out; omega
    clear hv hA hsz hnc hcm hrd1 hs hbig hwd1
    go_enter Try.func11, Try.ntmps11
    go_wp2_with (go_at_call 37; refine HWD.out.mono ?_; rintro e w2 ⟨rfl, rfl⟩)
    refine bodyPost_ret (by simp [results, Try.results11, go_sem]; try rfl) rfl ?_
    exact ⟨rfl, (Below.refl _ _).alloc (Nat.le_refl _) _⟩
end
end Mun
end

section
/- Contracts of Body: a sum that does not fit; a record that stands well. -/
set_option maxRecDepth 100000
set_option linter.unusedVariables false
set_option linter.unusedSimpArgs false
namespace Mun
open Go Go.RowKit
open Go.Proofs

def noCs : Array Value := #[.int .i64 0, .int .u64 0, .int .u64 0, .int .u64 0, .slice none 0 0, .slice none 0 0]
theorem noCs_one : noCs.all (·.oneCell') = true := by simp [noCs, Value.oneCell']

section
variable {F : Foot} (w : World) (v : Value) (l : List UInt8) (A : Nat) (lsn : Nat)

set_option maxHeartbeats 1000000 in
theorem body_sum (hv : RdB F w v l) (hln : lsn < 18446744073709551616) (hA : A + 8 + leNat ((l.drop A).take 4) ≤ l.length) (hsz : leNat ((l.drop A).take 4) ≤ 1048576)
    (hrest : leNat ((l.drop (A + 4)).take 4) ≠ (sumR lsn ((l.drop (A + 8)).take (leNat ((l.drop A).take 4)))).toNat) : Calls Try.prog 11 #[v, .int .i64 A, .int .u64 lsn] w (BodyNo w 4) := by
  obtain ⟨a, n, c, rfl, HN, hnc, hcm⟩ := hv.formN
  have t0 : (0 : Int) ≤ (A : Int) := by omega
  have t1 : ¬ (n : Int) < (A : Int) := by have := HN.out; omega
  have t3 : (n : Int) ≤ 9223372036854775807 := by unfold maxLen at hcm; omega
  have t5 : (A : Int) ≤ (n : Int) := by omega
  have t6 : ¬ n < A := by omega
  have t7 : ¬ (A : Int) < 0 := by omega
  have t2 : ¬ ((n : Int) - (A : Int) < 8) := by have := HN.out; omega
  have t8 : (A : Int) + 8 ≤ 9223372036854775807 := by have := HN.out; omega
  obtain ⟨w1, hw1⟩ : ∃ w1, w.alloc (.cells #[.int .i64 0, .int .u64 0, .int .u64 0, .int .u64 0, .slice none 0 0, .slice none 0 0] 26) = w1 := ⟨_, rfl⟩
  have hb1 : Below w.heap.size w w1 := by rw [← hw1]; exact (Below.refl _ _).alloc (Nat.le_refl _) _
  have hbk : w1.heap[w.heap.size]? = some (.cells #[.int .i64 0, .int .u64 0, .int .u64 0, .int .u64 0, .slice none 0 0, .slice none 0 0] 26 (0, 0)) := by rw [← hw1]; exact heap_alloc_new w _
  have hv1 := hv.below hb1
  obtain ⟨s, hs⟩ : ∃ s, leNat ((l.drop A).take 4) = s := ⟨_, rfl⟩
  obtain ⟨t, ht⟩ : ∃ t, leNat ((l.drop (A + 4)).take 4) = t := ⟨_, rfl⟩
  rw [hs] at hsz hrest hA
  try rw [hs]
  obtain ⟨a1, c1, hr1, hrd1⟩ := slice_bytes hv1 A (A + 4) (A : Int) ((A : Int) + 4) rfl (by omega) (by omega) (by omega)
  rw [show A + 4 - A = 4 by omega] at hr1 hrd1
  have hwd1 := word_any w1 _ _ hrd1 (by rw [List.length_take]; omega)
  obtain ⟨a2, c2, hr2, hrd2⟩ := slice_bytes hv1 (A + 4) (A + 8) ((A : Int) + 4) ((A : Int) + 8) (by omega) (by omega) (by omega) (by omega)
  rw [show A + 8 - (A + 4) = 4 by omega] at hr2 hrd2
  have hwd2 := word_any w1 _ _ hrd2 (by rw [List.length_take]; omega)
  obtain ⟨a3, c3, hr3, hrd3⟩ := slice_bytes hv1 (A + 8) (A + 8 + s) ((A : Int) + 8) ((A : Int) + 8 + (s : Int)) (by omega) (by omega) (by omega) (by omega)
  rw [show A + 8 + s - (A + 8) = s by omega] at hr3 hrd3
  obtain ⟨x, hx⟩ : ∃ x, (l.drop (A + 8)).take s = x := ⟨_, rfl⟩
  rw [hx] at hrd3 hrest
  have ht32 := le4_lt ((l.drop (A + 4)).take 4) (by rw [List.length_take]; omega)
  rw [hs] at hwd1
  rw [ht] at hwd2 ht32 hrest
  have hsm := summed_any w1 lsn _ x hrd3 hln
  obtain ⟨q, hq⟩ : ∃ q, (sumR lsn x).toNat = q := ⟨_, rfl⟩
  rw [hq] at hsm hrest
  have s0 : (0 : Int) ≤ (s : Int) := by omega
  have s1 : (s : Int) ≤ 1048576 := by omega
  have s2 : ¬ (1048576 : Int) < (s : Int) := by omega
  have s3 : ¬ ((n : Int) - (A : Int) - 8 < (s : Int)) := by have := HN.out; omega
  have s4 : (A : Int) + 8 + (s : Int) ≤ (n : Int) := by have := HN.out; omega
  have z1 : decide ((1048576 : Int) < (s : Int)) = false := decide_eq_false s2
  have z2 : decide ((n : Int) - (A : Int) - 8 < (s : Int)) = false := decide_eq_false s3
  have z3 : decide (1048576 < s) = false := decide_eq_false (by omega)
  have u0 : (0 : Int) ≤ (t : Int) := by omega
  have u1 : IntKind.u32.wrap (t : Int) = (t : Int) := by rw [IntKind.wrap_u32]; omega
  have HBK := Lib.hid hbk
  have HB1 := Lib.hid hb1
  have HW1 := Lib.hid hwd1
  have HW2 := Lib.hid hwd2
  have HSM := Lib.hid hsm
  have HX := Lib.hid hrd3
  have hre := hrest
  have v1 : ((t : Int) != (q : Int)) = true := by simp; omega
  have v2 : (t != q) = true := by simpa using hre
  clear s2 s3 hv hA hsz hln hnc hcm hv1 hrd1 hrd2 hrd3 hwd1 hwd2 hs ht hx ht32 hsm hq hb1 hbk hrest hre
  go_enter Try.func11, Try.ntmps11
  go_wp2_with fail
  refine HW1.out.mono ?_
  rintro e w2 ⟨rfl, rfl⟩
  go_wp2_with fail
  refine HW2.out.mono ?_
  rintro e w2 ⟨rfl, rfl⟩
  go_wp2_with fail
  refine HSM.out.mono ?_
  rintro e w5 ⟨rfl, hb5⟩
  have k5 : w5.heap[w.heap.size]? = some (.cells noCs 26 (0, 0)) := (hb5.block _ (lt_of_block HBK.out)).trans HBK.out
  have hself := setRow_self w5 w.heap.size _ _ _ k5
  have HK5 := Lib.hid k5
  have HSELF := Lib.hid hself
  have HB5 : Hid (Below w.heap.size w w5) := HB1.out.trans (hb5.mono HB1.out.size)
  clear hw1 hb5 k5 hself
  go_wp2_with (refine wpList_store_row rfl _ _ _ rfl w.heap.size noCs rfl rfl _ _ HK5.out infoR rfl noCs_one ?_; rw [HSELF.out])
  have q0 : w5.cell? ⟨w.heap.size, 0, none⟩ = some (.int .i64 0) := cell_of_row _ _ 0 _ _ _ HK5.out
  have q1 : w5.cell? ⟨w.heap.size, 1, none⟩ = some (.int .u64 0) := cell_of_row _ _ 1 _ _ _ HK5.out
  have q2 : w5.cell? ⟨w.heap.size, 2, none⟩ = some (.int .u64 0) := cell_of_row _ _ 2 _ _ _ HK5.out
  have q3 : w5.cell? ⟨w.heap.size, 3, none⟩ = some (.int .u64 0) := cell_of_row _ _ 3 _ _ _ HK5.out
  have q4 : w5.cell? ⟨w.heap.size, 4, none⟩ = some (.slice none 0 0) := cell_of_row _ _ 4 _ _ _ HK5.out
  have q5 : w5.cell? ⟨w.heap.size, 5, none⟩ = some (.slice none 0 0) := cell_of_row _ _ 5 _ _ _ HK5.out
  refine bodyPost_ret (by simp [results, Try.results11, go_sem, q0, q1, q2, q3, q4, q5]; try rfl) rfl ?_
  exact ⟨rfl, HB5.out⟩

/-- what Body hands back where a record stands -/
def BodyYes (w : World) (r : PR) (k : Int) (e : Ending) (w' : World) : Prop := ∃ x, e = .returned (.tuple #[rval r x, .int .i64 k, .int .i64 0]) ∧ RecAt (OldF w.heap.size) w' r x ∧ Below w.heap.size w w'

set_option maxHeartbeats 2000000 in
theorem body_ok' (r : PR) (hg : goodR r = true) (htx : r.tx < 18446744073709551616) (hpv : r.prev < 18446744073709551616) (hnx : r.next < 18446744073709551616)
    (hv : RdB F w v l) (hln : lsn < 18446744073709551616) (hA : A + 8 + leNat ((l.drop A).take 4) ≤ l.length) (hsz : leNat ((l.drop A).take 4) ≤ 1048576)
    (hrest : leNat ((l.drop (A + 4)).take 4) = (sumR lsn ((l.drop (A + 8)).take (leNat ((l.drop A).take 4)))).toNat ∧ (l.drop (A + 8)).take (leNat ((l.drop A).take 4)) = bodyR r) :
    Calls Try.prog 11 #[v, .int .i64 A, .int .u64 lsn] w (BodyYes w r ((A : Int) + 8 + ((leNat ((l.drop A).take 4) : Nat) : Int))) := by
  obtain ⟨a, n, c, rfl, HN, hnc, hcm⟩ := hv.formN
  have t0 : (0 : Int) ≤ (A : Int) := by omega
  have t1 : ¬ (n : Int) < (A : Int) := by have := HN.out; omega
  have t3 : (n : Int) ≤ 9223372036854775807 := by unfold maxLen at hcm; omega
  have t5 : (A : Int) ≤ (n : Int) := by omega
  have t6 : ¬ n < A := by omega
  have t7 : ¬ (A : Int) < 0 := by omega
  have t2 : ¬ ((n : Int) - (A : Int) < 8) := by have := HN.out; omega
  have t8 : (A : Int) + 8 ≤ 9223372036854775807 := by have := HN.out; omega
  obtain ⟨w1, hw1⟩ : ∃ w1, w.alloc (.cells #[.int .i64 0, .int .u64 0, .int .u64 0, .int .u64 0, .slice none 0 0, .slice none 0 0] 26) = w1 := ⟨_, rfl⟩
  have hb1 : Below w.heap.size w w1 := by rw [← hw1]; exact (Below.refl _ _).alloc (Nat.le_refl _) _
  have hbk : w1.heap[w.heap.size]? = some (.cells #[.int .i64 0, .int .u64 0, .int .u64 0, .int .u64 0, .slice none 0 0, .slice none 0 0] 26 (0, 0)) := by rw [← hw1]; exact heap_alloc_new w _
  have hv1 := hv.below hb1
  obtain ⟨s, hs⟩ : ∃ s, leNat ((l.drop A).take 4) = s := ⟨_, rfl⟩
  obtain ⟨t, ht⟩ : ∃ t, leNat ((l.drop (A + 4)).take 4) = t := ⟨_, rfl⟩
  rw [hs] at hsz hrest hA
  try rw [hs]
  obtain ⟨a1, c1, hr1, hrd1⟩ := slice_bytes hv1 A (A + 4) (A : Int) ((A : Int) + 4) rfl (by omega) (by omega) (by omega)
  rw [show A + 4 - A = 4 by omega] at hr1 hrd1
  have hwd1 := word_any w1 _ _ hrd1 (by rw [List.length_take]; omega)
  obtain ⟨a2, c2, hr2, hrd2⟩ := slice_bytes hv1 (A + 4) (A + 8) ((A : Int) + 4) ((A : Int) + 8) (by omega) (by omega) (by omega) (by omega)
  rw [show A + 8 - (A + 4) = 4 by omega] at hr2 hrd2
  have hwd2 := word_any w1 _ _ hrd2 (by rw [List.length_take]; omega)
  obtain ⟨a3, c3, hr3, hrd3⟩ := slice_bytes hv1 (A + 8) (A + 8 + s) ((A : Int) + 8) ((A : Int) + 8 + (s : Int)) (by omega) (by omega) (by omega) (by omega)
  rw [show A + 8 + s - (A + 8) = s by omega] at hr3 hrd3
  obtain ⟨x, hx⟩ : ∃ x, (l.drop (A + 8)).take s = x := ⟨_, rfl⟩
  rw [hx] at hrd3 hrest
  have ht32 := le4_lt ((l.drop (A + 4)).take 4) (by rw [List.length_take]; omega)
  rw [hs] at hwd1
  rw [ht] at hwd2 ht32 hrest
  have hsm := summed_any w1 lsn _ x hrd3 hln
  obtain ⟨q, hq⟩ : ∃ q, (sumR lsn x).toNat = q := ⟨_, rfl⟩
  rw [hq] at hsm hrest
  have s0 : (0 : Int) ≤ (s : Int) := by omega
  have s1 : (s : Int) ≤ 1048576 := by omega
  have s2 : ¬ (1048576 : Int) < (s : Int) := by omega
  have s3 : ¬ ((n : Int) - (A : Int) - 8 < (s : Int)) := by have := HN.out; omega
  have s4 : (A : Int) + 8 + (s : Int) ≤ (n : Int) := by have := HN.out; omega
  have z1 : decide ((1048576 : Int) < (s : Int)) = false := decide_eq_false s2
  have z2 : decide ((n : Int) - (A : Int) - 8 < (s : Int)) = false := decide_eq_false s3
  have z3 : decide (1048576 < s) = false := decide_eq_false (by omega)
  have u0 : (0 : Int) ≤ (t : Int) := by omega
  have u1 : IntKind.u32.wrap (t : Int) = (t : Int) := by rw [IntKind.wrap_u32]; omega
  have HBK := Lib.hid hbk
  have HB1 := Lib.hid hb1
  have HW1 := Lib.hid hwd1
  have HW2 := Lib.hid hwd2
  have HSM := Lib.hid hsm
  have HX := Lib.hid hrd3
  have hre := hrest
  have v1 : ((t : Int) != (q : Int)) = false := by simp; omega
  have v2 : (t != q) = false := by simpa using hre.1
  have hbl : (bodyR r).length ≤ 1048576 := by rw [← hre.2, ← hx, List.length_take]; omega
  have hpa := fun W (hW : Below w1.heap.size w1 W) => parsed_any W _ r hg hbl htx hpv hnx (by rw [← hre.2]; exact hrd3.below hW)
  have HPA := Lib.hid hpa
  clear hpa hbl htx hpv hnx hg
  clear s2 s3 hv hA hsz hln hnc hcm hv1 hrd1 hrd2 hrd3 hwd1 hwd2 hs ht hx ht32 hsm hq hb1 hbk hrest hre
  go_enter Try.func11, Try.ntmps11
  go_wp2_with fail
  refine HW1.out.mono ?_
  rintro e w2 ⟨rfl, rfl⟩
  go_wp2_with fail
  refine HW2.out.mono ?_
  rintro e w2 ⟨rfl, rfl⟩
  go_wp2_with fail
  refine HSM.out.mono ?_
  rintro e w5 ⟨rfl, hb5⟩
  have HB5 := Lib.hid hb5
  clear hb5 hw1
  go_wp2_with fail
  refine (HPA.out w5 HB5.out).mono ?_
  rintro e w6 ⟨x2, rfl, hrec, hb6⟩
  obtain ⟨da, dn, dc, ca, cn, cc, e1, e2, -⟩ := hrec.open
  have hb16 : Below w1.heap.size w1 w6 := HB5.out.trans (hb6.mono HB5.out.size)
  have k6 : w6.heap[w.heap.size]? = some (.cells noCs 26 (0, 0)) := (hb16.block _ (lt_of_block HBK.out)).trans HBK.out
  obtain ⟨w7, hw7⟩ : ∃ w7, w6.setRow w.heap.size (rcs r (.slice da dn dc) (.slice ca cn cc)) = w7 := ⟨_, rfl⟩
  have k7 : w7.heap[w.heap.size]? = some (.cells (rcs r (.slice da dn dc) (.slice ca cn cc)) 26 (0, 0)) := by rw [← hw7]; exact setRow_blk k6
  have hself := setRow_self w7 w.heap.size _ _ _ k7
  have h1c : (rcs r (.slice da dn dc) (.slice ca cn cc)).all (·.oneCell') = true := by simp [rcs, Value.oneCell']
  have hlt5 : w.heap.size < w5.heap.size := Nat.lt_of_lt_of_le (lt_of_block HBK.out) HB5.out.size
  have hrec7 : RecAt (OldF w.heap.size) w7 r x2 := hrec.keep (fun k hk hn => by rw [← hw7]; exact setRow_other (fun e => hn (by unfold OldF; omega))) (fun k hk h => by unfold OldF at *; omega)
  have hs7 : w7.heap.size = w6.heap.size := by rw [← hw7]; simp [World.setRow]
  have hb7 : Below w.heap.size w w7 := by
    have hb := HB1.out.trans (hb16.mono HB1.out.size)
    exact ⟨by rw [← hw7]; exact hb.os, by rw [← hw7]; exact hb.tape, by rw [← hw7]; exact hb.output, by rw [hs7]; exact hb.size, fun k hk => by rw [← hw7, setRow_other (by omega)]; exact hb.block k hk⟩
  have HK6 := Lib.hid k6
  have HK7 := Lib.hid k7
  have HSELF := Lib.hid hself
  have H1C := Lib.hid h1c
  have HREC := Lib.hid hrec7
  have HB7 := Lib.hid hb7
  have HW7 := Lib.hid hw7
  have HE := Lib.hid (And.intro e1 e2)
  unfold rval
  rw [e1, e2]
  clear hrec hb6 e1 e2 hb16 k6 hw7 k7 hself h1c hlt5 hrec7 hs7 hb7
  go_wp2_with (first
    | (refine wpList_store_row rfl _ _ _ rfl w.heap.size (rcs r (.slice da dn dc) (.slice ca cn cc)) rfl rfl _ _ HK6.out infoR rfl H1C.out ?_; rw [HW7.out])
    | (refine wpList_load_row rfl _ _ rfl w.heap.size rfl _ _ (0, 0) _ HK7.out Try.underlying26 rfl infoR ?_)
    | (refine wpList_store_row rfl _ _ _ rfl w.heap.size (rcs r (.slice da dn dc) (.slice ca cn cc)) rfl rfl _ _ HK7.out infoR rfl H1C.out ?_; rw [HSELF.out]))
  obtain ⟨q0, q1, q2, q3, q4, q5⟩ := box6 (w := w) HK7.out
  refine bodyPost_ret (by simp [results, Try.results11, go_sem, q0, q1, q2, q3, q4, q5]; try rfl) rfl ?_
  exact ⟨x2, by unfold rval; rw [HE.out.1, HE.out.2], HREC.out, HB7.out⟩
end
end Mun
end

section
/- Contract of Same at two readings of one record. -/
set_option maxRecDepth 100000
set_option linter.unusedVariables false
set_option linter.unusedSimpArgs false
namespace Mun
open Go Go.RowKit
open Go.Proofs

theorem chs_cells {F : Foot} {w : World} {r : PR} {x : RV} (h : RecAt F w r x) {ca : Option Addr} {cn cc : Nat} (e : x.cv = .slice ca cn cc) (k : Nat) (hk : k < r.cs.length) :
    ∃ g off ba bn bc, ca = some ⟨g, off, none⟩ ∧ g < w.heap.size ∧ w.cell? ⟨g, off + k * 4, none⟩ = some (.int .i64 r.cs[k].page) ∧ w.cell? ⟨g, off + k * 4 + 1, none⟩ = some (.int .i64 r.cs[k].at_) ∧
      w.cell? ⟨g, off + k * 4 + 2, none⟩ = some (.bool r.cs[k].whole) ∧ w.cell? ⟨g, off + k * 4 + 3, none⟩ = some (.slice ba bn bc) ∧ RdB F w (.slice ba bn bc) r.cs[k].b := by
  have hkl : k < x.cs.length := by rw [h.len]; exact hk
  obtain ⟨g, off, c', hv, _, _, _, h4, h5, h6, h7, h8⟩ := h.cs.at_ k hkl
  rw [e] at hv
  injection hv with e1 e2 e3
  have hrd := h.cs.rd _ (List.getElem_mem hkl)
  have hg := h.get k hkl
  obtain ⟨ba, bn, bc, hb, _⟩ := hrd.formN
  rw [hb] at h8 hrd
  rw [hg]
  exact ⟨g, off, ba, bn, bc, e1, h4, h5, h6, h7, h8, hrd⟩

set_option maxHeartbeats 2000000 in
theorem same_any {F G : Foot} (w : World) (r : PR) (x y : RV) (hx : RecAt F w r x) (hy : RecAt G w r y) :
    Calls Try.prog 12 #[rval r x, rval r y] w fun e w' => e = .returned (.bool true) ∧ Below w.heap.size w w' := by
  obtain ⟨da, dn, dc, ca, cn, cc, e1, e2, HN⟩ := hx.open
  obtain ⟨da', dn', dc', ca', cn', cc', e1', e2', HN'⟩ := hy.open
  obtain rfl : dn = dn' := HN.out.1.trans HN'.out.1.symm
  obtain rfl : cn = cn' := HN.out.2.1.trans HN'.out.2.1.symm
  unfold rval
  rw [e1, e2, e1', e2']
  have hb0 : Below w.heap.size w ((w.alloc (.cells #[.int .i64 r.kind, .int .u64 r.tx, .int .u64 r.prev, .int .u64 r.next, .slice da dn dc, .slice ca cn cc] 26)).alloc (.cells #[.int .i64 r.kind, .int .u64 r.tx, .int .u64 r.prev, .int .u64 r.next, .slice da' dn dc', .slice ca' cn cc'] 26)) := below_more (below_more (Below.refl _ _) _) _
  obtain ⟨w1, hw1⟩ : ∃ w1, (w.alloc (.cells #[.int .i64 r.kind, .int .u64 r.tx, .int .u64 r.prev, .int .u64 r.next, .slice da dn dc, .slice ca cn cc] 26)).alloc (.cells #[.int .i64 r.kind, .int .u64 r.tx, .int .u64 r.prev, .int .u64 r.next, .slice da' dn dc', .slice ca' cn cc'] 26) = w1 := ⟨_, rfl⟩
  have k1 : w1.heap[w.heap.size]? = some (.cells (rcs r (.slice da dn dc) (.slice ca cn cc)) 26 (0, 0)) := by rw [← hw1, heap_alloc_old _ _ (by simp)]; exact heap_alloc_new w _
  have k2 : w1.heap[w.heap.size + 1]? = some (.cells (rcs r (.slice da' dn dc') (.slice ca' cn cc')) 26 (0, 0)) := by
    rw [← hw1]
    have h9 := heap_alloc_new (w.alloc (.cells #[.int .i64 r.kind, .int .u64 r.tx, .int .u64 r.prev, .int .u64 r.next, .slice da dn dc, .slice ca cn cc] 26)) (.cells #[.int .i64 r.kind, .int .u64 r.tx, .int .u64 r.prev, .int .u64 r.next, .slice da' dn dc', .slice ca' cn cc'] 26)
    rw [World.size_alloc] at h9
    exact h9
  rw [hw1] at hb0
  have s1 := str_bytes (hx.data.below hb0)
  have s2 := str_bytes (hy.data.below hb0)
  rw [e1] at s1
  rw [e1'] at s2
  obtain ⟨a0, a1, a2, a3, a4, a5⟩ := box6 (w := w) k1
  obtain ⟨b0, b1, b2, b3, b4, b5⟩ := box6 (w := w) k2
  have hx1 := hx.below hb0
  have hy1 := hy.below hb0
  have hcn : (cn : Int) ≤ 9223372036854775807 := by have := HN.out.2.2.2; unfold maxLen at this; omega
  have HX := Lib.hid hx1
  have HY := Lib.hid hy1
  have HB0 := Lib.hid hb0
  have HCN := Lib.hid HN.out.2.1
  have HE := Lib.hid (And.intro e2 e2')
  have HK := Lib.hid (And.intro k1 k2)
  clear hx hy hx1 hy1 hb0 e1 e2 e1' e2' k1 k2 HN HN'
  go_enter Try.func12, Try.ntmps12
  go_wp2
  clear s1 s2 a0 a1 a2 a3 a4 a5 b0 b1 b2 b3 b4 b5 hw1
  go_loopw [5] (fun i wr => ∃ k : Nat, k ≤ cn ∧ i = .int .i64 k ∧ Below w1.heap.size w1 wr) (fun i _ => cn - (intOf i).toNat)
  case atStart => exact ⟨0, Nat.zero_le _, rfl, Below.refl _ _⟩
  case round =>
    obtain ⟨k, hk, rfl, hb⟩ := hrel
    have a5 : wr.cell? ⟨w.heap.size, 5, none⟩ = some (.slice ca cn cc) := cell_of_row _ _ 5 _ _ _ ((hb.block _ (lt_of_block HK.out.1)).trans HK.out.1)
    have b5 : wr.cell? ⟨w.heap.size + 1, 5, none⟩ = some (.slice ca' cn cc') := cell_of_row _ _ 5 _ _ _ ((hb.block _ (lt_of_block HK.out.2)).trans HK.out.2)
    by_cases hlt : k < cn
    · obtain ⟨g, off, ba, bn, bc, rfl, hg, x0, x1, x2, x3, hxr⟩ := chs_cells (HX.out.below hb) HE.out.1 k (by rw [← HCN.out]; exact hlt)
      obtain ⟨g', off', ba', bn', bc', rfl, hg', y0, y1, y2, y3, hyr⟩ := chs_cells (HY.out.below hb) HE.out.2 k (by rw [← HCN.out]; exact hlt)
      obtain ⟨pc, hpc⟩ : ∃ pc, r.cs[k]'(by rw [← HCN.out]; exact hlt) = pc := ⟨_, rfl⟩
      rw [hpc] at x0 x1 x2 y0 y1 y2 hxr hyr
      have hbc : Below wr.heap.size wr ((wr.alloc (.cells #[.int .i64 pc.page, .int .i64 pc.at_, .bool pc.whole, .slice ba bn bc] 81)).alloc (.cells #[.int .i64 pc.page, .int .i64 pc.at_, .bool pc.whole, .slice ba' bn' bc'] 81)) := below_more (below_more (Below.refl _ _) _) _
      have s1 := str_bytes (hxr.below hbc)
      have s2 := str_bytes (hyr.below hbc)
      have HBC := Lib.hid (hb.trans (hbc.mono hb.size))
      have HLT := Lib.hid hlt
      have hsz1 : w.heap.size < wr.heap.size := by have := lt_of_block HK.out.1; have := hb.size; omega
      have hsz2 : w.heap.size + 1 < wr.heap.size := by have := lt_of_block HK.out.2; have := hb.size; omega
      clear hxr hyr hbc hb hpc
      go_wp2
      go_roundw
      case rel => exact ⟨k + 1, by have := HLT.out; omega, by go_num, HBC.out⟩
      case measure => have := HLT.out; simp [intOf]; omega
    · have HBB := Lib.hid (HB0.out.trans (hb.mono HB0.out.size))
      clear hb
      go_wp2
      go_ret
      exact ⟨rfl, HBB.out⟩
end Mun
end
