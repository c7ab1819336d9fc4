import Derived.Test.YtimlibdojkfilaaSumU
import Derived.Test.YtimlibdojkfilaaJoin
set_option maxRecDepth 100000
set_option linter.unusedVariables false
namespace Mun
open Go Go.RowKit
open Go.Proofs

theorem and1_shr (row j : Nat) (hr : row < 4294967296) : bits .and .u32 ((row : Int) / 2 ^ j) 1 = ((row / 2 ^ j % 2 : Nat) : Int) := by
  have e : ((row : Int) / 2 ^ j) = ((row / 2 ^ j : Nat) : Int) := by push_cast; rfl
  have h : row / 2 ^ j < 4294967296 := Nat.lt_of_le_of_lt (Nat.div_le_self _ _) hr
  rw [e, show (1 : Int) = ((1 : Nat) : Int) from rfl, u32_and_nat _ _ h (by omega), Nat.and_one_is_mod]

theorem ret_pair {v v' u : Value} (h : v = v') : Ending.returned (.tuple #[v, u]) = .returned (.tuple #[v', u]) := by rw [h]

theorem int_eq {k : IntKind} {a b : Int} (h : a = b) : Value.int k a = .int k b := by rw [h]

theorem and1_i64 (q : Nat) (hq : q < 9223372036854775808) : bits .and .i64 (q : Int) 1 = ((q % 2 : Nat) : Int) := by
  have e1 : (BitVec.ofInt 64 (q : Int)).toNat = q := by
    rw [BitVec.ofInt_natCast, BitVec.toNat_ofNat]; exact Nat.mod_eq_of_lt (by omega)
  have e2 : (BitVec.ofInt 64 (1 : Int)).toNat = 1 := by decide
  show IntKind.i64.wrap ((BitVec.ofInt 64 (q : Int) &&& BitVec.ofInt 64 (1 : Int)).toNat : Int) = _
  rw [BitVec.toNat_and, e1, e2, Nat.and_one_is_mod, IntKind.wrap_i64]
  omega

theorem testBit_shr (r : BitVec 32) (j : Nat) : (bits .and .u32 ((r.toNat : Int) / 2 ^ j) 1 == 1) = r.getLsbD j := by
  rw [and1_shr _ j r.isLt, BitVec.getLsbD, Nat.testBit_eq_decide_div_mod_eq, Bool.eq_iff_iff, beq_iff_eq, decide_eq_true_eq]
  omega

/-- the 32 columns lie in a block -/
def PwAt (w : World) (g k : Nat) : Prop := ∀ i, i < 32 → w.cell? ⟨g, i, none⟩ = some (.int .u32 ((pwCol k i).toNat : Int))

theorem PwAt.below {w w' : World} {g k : Nat} (h : PwAt w g k) (hb : Below w.heap.size w w') : PwAt w' g k := fun i hi => by
  have := h i hi
  have hlt := World.block_lt_of_cell? w _ this
  rw [hb.cell (p := ⟨g, i, none⟩) hlt, this]

set_option maxHeartbeats 400000 in
theorem pw_of (w : World) (g k : Nat) (z : Int) (r : BitVec 32) (hz : z = r.toNat) (hp : PwAt w g k) :
    Calls Try.prog 18 #[.pointer (some ⟨g, 0, none⟩), .int .u32 z] w fun e w' => e = .returned (.int .u32 ((crcIter k r).toNat)) ∧ w = w' := by
  subst hz
  have HP := Lib.hid hp
  clear hp
  go_enter Try.func18, Try.ntmps18
  go_wp2
  go_loop [5, 7] (fun o i => ∃ j : Nat, j ≤ 32 ∧ i = .int .i64 (j : Int) ∧ o = .int .u32 ((crcIter k (lowBits j r)).toNat)) (fun _ i => 32 - (intOf i).toNat)
  case atStart => exact ⟨0, by omega, rfl, by rw [lowBits_zero, crcIter_zero]; rfl⟩
  case round =>
    obtain ⟨j, hj, rfl, rfl⟩ := hrel
    rcases Nat.lt_or_eq_of_le hj with hlt | heq
    · have hc := HP.out j hlt
      have Hs := Lib.hid (pw_step k j hlt r)
      have Hx := Lib.hid (xor_u32 (crcIter k (lowBits j r)) (pwCol k j))
      have Ht := Lib.hid (testBit_shr r j)
      generalize crcIter k (lowBits j r) = q at Hs Hx
      generalize pwCol k j = pc at hc Hs Hx
      by_cases ht : (bits .and .u32 ((r.toNat : Int) / 2 ^ j) 1 == 1) = true
      · have hg : r.getLsbD j = true := by rw [← Ht.out]; exact ht
        have Hg := Lib.hid hg
        clear hg
        go_wp2
        go_round
        case rel => exact ⟨j + 1, by omega, by go_num, by rw [Hx.out, Hs.out, Hg.out]; rfl⟩
        case measure => simp [intOf]; omega
      · simp only [Bool.not_eq_true] at ht
        have hg : r.getLsbD j = false := by rw [← Ht.out]; exact ht
        have Hg := Lib.hid hg
        clear hg
        go_wp2
        go_round
        case rel => exact ⟨j + 1, by omega, by go_num, by rw [Hs.out, Hg.out]; simp⟩
        case measure => simp [intOf]; omega
    · have hge := Nat.le_of_eq heq.symm
      have HE := Lib.hid heq
      clear heq
      go_wp2
      go_ret
      exact ⟨ret_int (by rw [HE.out, lowBits_full]), rfl⟩

/-- the columns so far, the rest noughts -/
def mixCells (k i : Nat) : Array Value := ((List.range 32).map fun j => if j < i then Value.int .u32 ((pwCol k j).toNat : Int) else .int .u32 0).toArray

theorem mixCells_zero (k : Nat) : mixCells k 0 = #[.int .u32 0, .int .u32 0, .int .u32 0, .int .u32 0, .int .u32 0, .int .u32 0, .int .u32 0, .int .u32 0, .int .u32 0, .int .u32 0, .int .u32 0, .int .u32 0, .int .u32 0, .int .u32 0, .int .u32 0, .int .u32 0, .int .u32 0, .int .u32 0, .int .u32 0, .int .u32 0, .int .u32 0, .int .u32 0, .int .u32 0, .int .u32 0, .int .u32 0, .int .u32 0, .int .u32 0, .int .u32 0, .int .u32 0, .int .u32 0, .int .u32 0, .int .u32 0] := rfl

theorem mixCells_get (k i j : Nat) (hj : j < 32) : (mixCells k i)[j]? = some (if j < i then Value.int .u32 ((pwCol k j).toNat : Int) else .int .u32 0) := by
  simp [mixCells, hj]

theorem mixCells_set (k i : Nat) (hi : i < 32) : (mixCells k i).setIfInBounds i (.int .u32 ((pwCol k i).toNat : Int)) = mixCells k (i + 1) := by
  apply Array.ext_getElem?
  intro j
  by_cases hj : j < 32
  · rw [mixCells_get k (i + 1) j hj, Array.getElem?_setIfInBounds, mixCells_get k i j hj]
    by_cases h : i = j
    · subst h; simp [mixCells, hj]
    · rw [if_neg h]
      have e : (j < i + 1) = (j < i) := by simp; omega
      simp only [e]
  · rw [Array.getElem?_eq_none (by simp [mixCells]; omega), Array.getElem?_eq_none (by simp [mixCells]; omega)]

theorem pwAt_mix (w : World) (k : Nat) (e : TypeId) : PwAt (w.alloc (.cells (mixCells k 32) e)) w.heap.size k := fun i hi => by
  have := cell_of_row (w.alloc (.cells (mixCells k 32) e)) w.heap.size i (mixCells k 32) e (0, 0) (heap_alloc_new w _)
  rw [this, mixCells_get k 32 i hi, if_pos hi]

set_option maxHeartbeats 800000 in
theorem pw_twice (w : World) (g k : Nat) (hp : PwAt w g k) :
    Calls Try.prog 17 #[.pointer (some ⟨g, 0, none⟩)] w fun e w' => e = .returned (.pointer (some ⟨w.heap.size, 0, none⟩)) ∧ PwAt w' w.heap.size (2 * k) ∧ Below w.heap.size w w' := by
  have HP := Lib.hid hp
  clear hp
  go_enter Try.func17, Try.ntmps17
  go_wp2
  go_loopw [5] (fun i wr => ∃ j : Nat, j ≤ 32 ∧ i = .int .i64 (j : Int) ∧ w.alloc (.cells (mixCells (2 * k) j) 44) = wr) (fun i _ => 32 - (intOf i).toNat)
  case atStart => exact ⟨0, by omega, rfl, by rw [mixCells_zero]⟩
  case round =>
    obtain ⟨j, hj, rfl, rfl⟩ := hrel
    rcases Nat.lt_or_eq_of_le hj with hlt | heq
    · have hb := (Below.refl w.heap.size w).alloc (Nat.le_refl _) (.cells (mixCells (2 * k) j) 44)
      have hpw := HP.out.below hb
      have hc := hpw j hlt
      have HPW := Lib.hid hpw
      have Hs := Lib.hid (mixCells_set (2 * k) j hlt)
      have Ht := Lib.hid (pwCol_twice k j)
      have hc2 : ∃ v2, (w.alloc (.cells (mixCells (2 * k) j) 44)).cell? ⟨w.heap.size, j, none⟩ = some v2 := by
        have := cell_of_row (w.alloc (.cells (mixCells (2 * k) j) 44)) w.heap.size j (mixCells (2 * k) j) 44 (0, 0) (heap_alloc_new w _)
        rw [this, mixCells_get (2 * k) j j hlt]
        exact ⟨_, rfl⟩
      obtain ⟨v2, hc2⟩ := hc2
      clear hpw hb
      generalize mixCells (2 * k) j = M at hc hc2 HPW Hs
      go_wp2_with (go_at_call 18; refine (pw_of _ g k _ (pwCol k j) rfl HPW.out).mono ?_; rintro e w' ⟨rfl, rfl⟩)
      go_roundw
      case rel => exact ⟨j + 1, by omega, by go_num, by rw [← Hs.out, Ht.out]⟩
      case measure => simp [intOf]; omega
    · subst heq
      go_wp2
      go_ret
      exact ⟨rfl, pwAt_mix w (2 * k) _, (Below.refl _ _).alloc (Nat.le_refl _) _⟩

/-- the columns of the power 1 so far -/
def oneCells (i : Nat) : Array Value := ((List.range 32).map fun j => if j = 0 then Value.int .u32 3988292384 else if j < i then Value.int .u32 ((pwCol 1 j).toNat : Int) else .int .u32 0).toArray

theorem oneCells_one : oneCells 1 = #[.int .u32 3988292384, .int .u32 0, .int .u32 0, .int .u32 0, .int .u32 0, .int .u32 0, .int .u32 0, .int .u32 0, .int .u32 0, .int .u32 0, .int .u32 0, .int .u32 0, .int .u32 0, .int .u32 0, .int .u32 0, .int .u32 0, .int .u32 0, .int .u32 0, .int .u32 0, .int .u32 0, .int .u32 0, .int .u32 0, .int .u32 0, .int .u32 0, .int .u32 0, .int .u32 0, .int .u32 0, .int .u32 0, .int .u32 0, .int .u32 0, .int .u32 0, .int .u32 0] := rfl

theorem oneCells_get (i j : Nat) (hj : j < 32) : (oneCells i)[j]? = some (if j = 0 then Value.int .u32 3988292384 else if j < i then Value.int .u32 ((pwCol 1 j).toNat : Int) else .int .u32 0) := by
  simp [oneCells, hj]

theorem oneCells_set (i : Nat) (h0 : 0 < i) (hi : i < 32) : (oneCells i).setIfInBounds i (.int .u32 ((pwCol 1 i).toNat : Int)) = oneCells (i + 1) := by
  apply Array.ext_getElem?
  intro j
  by_cases hj : j < 32
  · rw [oneCells_get (i + 1) j hj, Array.getElem?_setIfInBounds, oneCells_get i j hj]
    by_cases h : i = j
    · subst h
      have : ¬ i = 0 := by omega
      simp [oneCells, hj, this]
    · rw [if_neg h]
      have e : (j < i + 1) = (j < i) := by simp; omega
      simp only [e]
  · rw [Array.getElem?_eq_none (by simp [oneCells]; omega), Array.getElem?_eq_none (by simp [oneCells]; omega)]

theorem pwAt_one (w : World) (e : TypeId) : PwAt (w.alloc (.cells (oneCells 32) e)) w.heap.size 1 := fun i hi => by
  have := cell_of_row (w.alloc (.cells (oneCells 32) e)) w.heap.size i (oneCells 32) e (0, 0) (heap_alloc_new w _)
  rw [this, oneCells_get 32 i hi, if_pos hi]
  split
  · rename_i h; subst h; rfl
  · rfl

set_option maxHeartbeats 800000 in
theorem join_ok (w : World) (za zb nn : Int) (a b : BitVec 32) (n : Nat) (ha : za = a.toNat) (hb : zb = b.toNat) (hn : nn = n) (h30 : n ≤ 1073741824) :
    Calls Try.prog 13 #[.int .u32 za, .int .u32 zb, .int .i64 nn] w fun e w' => e = .returned (.tuple #[.int .u32 ((crcIter (8 * n) a ^^^ b).toNat), .int .i64 0]) ∧ Below w.heap.size w w' := by
  subst ha
  subst hb
  subst hn
  have hn1 : (n : Int) ≤ 1073741824 := by omega
  go_enter Try.func13, Try.ntmps13
  have hn0 : decide ((n : Int) < 0) = false := by simp
  go_wp2
  go_loopw [9] (fun i wr => ∃ (j m : Nat), 1 ≤ j ∧ j ≤ 32 ∧ i = .int .i64 (j : Int) ∧ (w.alloc (.cells (oneCells j) 44)).drewN m = wr) (fun i _ => 32 - (intOf i).toNat)
  case atStart => exact ⟨1, 0, by omega, by omega, rfl, by rw [oneCells_one]; rfl⟩
  case round =>
    obtain ⟨j, m, hj1, hj, rfl, rfl⟩ := hrel
    rcases Nat.lt_or_eq_of_le hj with hlt | heq
    · have Hs := Lib.hid (oneCells_set j hj1 hlt)
      have hj1' : (1 : Int) ≤ j := by omega
      have hc2 : ∃ v2, (w.alloc (.cells (oneCells j) 44)).cell? ⟨w.heap.size, j, none⟩ = some v2 := by
        have := cell_of_row (w.alloc (.cells (oneCells j) 44)) w.heap.size j (oneCells j) 44 (0, 0) (heap_alloc_new w _)
        rw [this, oneCells_get j j hlt]
        exact ⟨_, rfl⟩
      obtain ⟨v2, hc2⟩ := hc2
      generalize oneCells j = M at hc2 Hs
      go_wp2
      go_region
      all_goals
        go_wp2
        go_roundw
        case rel =>
          refine ⟨j + 1, m + 1, by omega, by omega, by go_num, ?_⟩
          have e : ((2 : Int) ^ (j - 1) % 4294967296) = ((pwCol 1 j).toNat : Int) := by
            rw [pwCol_one j hlt, if_neg (by omega)]
            have e1 : ((2 : Int) ^ (j - 1)) = ((2 ^ (j - 1) : Nat) : Int) := by push_cast; rfl
            rw [e1, BitVec.toNat_shiftLeft, Nat.shiftLeft_eq]
            generalize 2 ^ (j - 1) = x
            show (x : Int) % 4294967296 = ((1 * x % 4294967296 : Nat) : Int)
            omega
          rw [e, ← Hs.out]
          show _ = ((w.alloc (.cells M 44)).setCell ⟨w.heap.size, j, none⟩ _).drewN (m + 1)
          rw [World.setCell_alloc_new]
        case measure => simp [intOf]; omega
    · have HPW : Hid (PwAt ((w.alloc (.cells (oneCells j) 44)).drewN m) w.heap.size 1) := by rw [heq]; exact fun i hi => pwAt_one w _ i hi
      have HB : Hid (Below w.heap.size w ((w.alloc (.cells (oneCells j) 44)).drewN m)) := below_drewN ((Below.refl _ _).alloc (Nat.le_refl _) _) m
      have hge := Nat.le_of_eq heq.symm
      clear heq
      generalize (w.alloc (.cells (oneCells j) 44)).drewN m = W1 at HPW HB
      go_wp2
      go_loopw [8, 29] (fun p i wr => ∃ (j g : Nat), j ≤ 3 ∧ i = .int .i64 (j : Int) ∧ p = .pointer (some ⟨g, 0, none⟩) ∧ PwAt wr g (2 ^ j) ∧ Below w.heap.size w wr) (fun _ i _ => 3 - (intOf i).toNat)
      case atStart => exact ⟨0, _, by omega, rfl, rfl, HPW.out, HB.out⟩
      case round =>
        obtain ⟨j3, g, hj3, rfl, rfl, hpw, hB⟩ := hrel
        have HPJ := Lib.hid hpw
        clear hpw
        rcases Nat.lt_or_eq_of_le hj3 with hlt | heq
        · go_wp2_with (go_at_call 17; refine (pw_twice _ g _ HPJ.out).mono ?_; rintro e w' ⟨rfl, hpw2, hB2⟩)
          have hB3 := hB.trans (hB2.mono hB.size)
          have hpw3 : PwAt w' wr.heap.size (2 ^ (j3 + 1)) := by rw [Nat.pow_succ, Nat.mul_comm]; exact hpw2
          go_roundw
          case rel => exact ⟨j3 + 1, _, by omega, by go_num, rfl, hpw3, hB3⟩
          case measure => simp [intOf]; omega
        · have HP8 : Hid (PwAt wr g 8) := by have := HPJ.out; rw [heq] at this; exact this
          have hge3 := Nat.le_of_eq heq.symm
          clear heq HPJ HPW HB
          go_wp2
          go_loopw [0, 2, 8] (fun z i p wr => ∃ (x : BitVec 32) (q k g : Nat), q ≤ n ∧ z = .int .u32 (x.toNat : Int) ∧ i = .int .i64 (q : Int) ∧ p = .pointer (some ⟨g, 0, none⟩) ∧ PwAt wr g k ∧ crcIter (k * q) x = crcIter (8 * n) a ∧ Below w.heap.size w wr) (fun _ i _ _ => (intOf i).toNat)
          case atStart => exact ⟨a, n, 8, g, Nat.le_refl _, rfl, rfl, rfl, HP8.out, rfl, hB⟩
          case round =>
            obtain ⟨x, q, k, g1, hq, rfl, rfl, rfl, hpw, heqc, hB⟩ := hrel
            have HPJ := Lib.hid hpw
            have HEQ := Lib.hid heqc
            clear hpw heqc
            rcases Nat.eq_zero_or_pos q with hq0 | hq0
            · have hq1 : (q : Int) ≤ 0 := by omega
              have HX : Hid (bits .xor .u32 (x.toNat : Int) (b.toNat : Int) = ((crcIter (8 * n) a ^^^ b).toNat : Int)) := by
                show _ = _
                rw [xor_u32, ← HEQ.out, hq0]
                rfl
              clear hq0
              go_wp2
              go_ret2
              exact ⟨ret_pair (int_eq HX.out), hB⟩
            · have hq1 : (0 : Int) < q := by omega
              have Ha := Lib.hid (and1_i64 q (by omega))
              by_cases hodd : (bits .and .i64 (q : Int) 1 == 1) = true
              · have Hodd : Hid (q % 2 = 1) := by
                  show _ = _
                  rw [Ha.out, beq_iff_eq] at hodd
                  omega
                go_wp2_with (first
                  | (go_at_call 18; refine (pw_of _ g1 k _ x rfl HPJ.out).mono ?_; rintro e w' ⟨rfl, rfl⟩)
                  | (go_at_call 17; refine (pw_twice _ g1 k HPJ.out).mono ?_; rintro e w' ⟨rfl, hpw2, hB2⟩))
                have hB3 := hB.trans (hB2.mono hB.size)
                have hnew : crcIter (2 * k * (q / 2)) (crcIter k x) = crcIter (8 * n) a := by
                  rw [← HEQ.out, ← crcIter_add]
                  congr 1
                  obtain ⟨h, rfl⟩ : ∃ h, q = 2 * h + 1 := ⟨q / 2, by have := Hodd.out; omega⟩
                  rw [show (2 * h + 1) / 2 = h by omega, Nat.mul_add, Nat.mul_one, Nat.mul_comm 2 k, Nat.mul_assoc, Nat.add_comm]
                go_roundw
                case rel => exact ⟨_, q / 2, _, _, by omega, rfl, by go_num, rfl, hpw2, hnew, hB3⟩
                case measure => simp [intOf]; omega
              · simp only [Bool.not_eq_true] at hodd
                have Hodd : Hid (q % 2 = 0) := by
                  show _ = _
                  rw [Ha.out, beq_eq_false_iff_ne] at hodd
                  omega
                go_wp2_with (first
                  | (go_at_call 17; refine (pw_twice _ g1 k HPJ.out).mono ?_; rintro e w' ⟨rfl, hpw2, hB2⟩))
                have hB3 := hB.trans (hB2.mono hB.size)
                have hnew : crcIter (2 * k * (q / 2)) x = crcIter (8 * n) a := by
                  rw [← HEQ.out]
                  congr 1
                  obtain ⟨h, rfl⟩ : ∃ h, q = 2 * h := ⟨q / 2, by have := Hodd.out; omega⟩
                  rw [show (2 * h) / 2 = h by omega, Nat.mul_comm 2 k, Nat.mul_assoc]
                go_roundw
                case rel => exact ⟨_, q / 2, _, _, by omega, rfl, by go_num, rfl, hpw2, hnew, hB3⟩
                case measure => simp [intOf]; omega
end Mun
