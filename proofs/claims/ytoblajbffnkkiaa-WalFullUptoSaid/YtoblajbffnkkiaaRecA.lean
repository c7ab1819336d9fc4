/- Contracts of what writes a record: whether it is good; chunks. -/
import Derived.Test.YtoblajbffnkkiaaRecW
set_option maxRecDepth 100000
set_option linter.unusedVariables false
namespace Mun
open Go Go.RowKit
open Go.Proofs

/-- the blocks from a number on -/
def NewF (B : Nat) : Foot := fun k => B ≤ k

theorem below_of_chg {w w' : World} {v : Value} {g B : Nat} (h : Chg (bf v) (B1 g) w w') (hv : ∀ k, v.ownBlock = some k → B ≤ k) (hB : B ≤ w.heap.size) : Below B w w' :=
  h.below hB (fun k hk hF => by have := hv k hF; omega)

theorem ownB_from {w : World} {base : Nat} {v : Value} {l : List UInt8} (h : OwnB w base 5 v l) : ∀ k, v.ownBlock = some k → base ≤ k := fun k hk => (h.lt k hk).1

set_option maxHeartbeats 400000 in
/-- a chunk behind a row of the call's own -/
theorem text_any {F : Foot} (w : World) (base : Nat) (v : Value) (xs : List UInt8) (s : Value) (b : List UInt8) (hb : b.length ≤ 140737488355000) (ho : OwnB w base 5 v xs) (hbase : base ≤ w.heap.size) (hx : xs.length + b.length ≤ 140737488350000)
    (hs : RdB F w s b) (hF : ∀ k, base ≤ k → F k) :
    Calls Try.prog 62 #[v, s] w (BO w base v (xs ++ txt b)) := by
  obtain ⟨a, n, c, rfl, HN, hnc, hcm⟩ := hs.formN
  have hv := varint_any w base v xs n (by rw [HN.out]; omega) ho hbase (by omega)
  have hs2 : ∀ (w1 : World) (g : Nat), Chg (bf v) (B1 g) w w1 → base ≤ g → RdB (B1 g) w1 (.slice a n c) b := fun w1 g hc hg =>
    RdB.chg (RdV.mono hs (fun k hk hb => hF k (ownB_from ho k hb))) hc
  have HS := Lib.hid hs2
  have hn : (n : Int) ≤ 9223372036854775807 := by unfold maxLen at hcm; omega
  have h10 := vi_length64 n (by rw [HN.out]; omega)
  have hxb : xs.length + n ≤ 140737488350000 := by rw [HN.out]; exact hx
  clear hs2 hs ho hF hx hcm hnc hb
  go_enter Try.func62, Try.ntmps62
  go_wp2_with fail
  refine hv.mono ?_
  rintro e w1 ⟨g, m, cp, rfl, HM, hown, hc1, hg⟩
  have hs1 := HS.out w1 g hc1 hg
  have hml : m = (xs ++ vi n).length := HM.out
  obtain ⟨v2, w2, hr, h1, h2, h3, h4⟩ := append_bytes (ty := 23) hown hs1 (by rw [← HN.out]; simp only [List.length_append]; omega) (by have := hc1.size; omega)
  have hp : 0 < ((xs ++ vi n) ++ b).length := by have := vi_pos n; simp only [List.length_append]; omega
  obtain ⟨g2, cp2, rfl, hg2, hlt2, _⟩ := h1.at_ hp
  have hor : (Value.slice (some ⟨g, 0, none⟩) m cp).ownBlock = some g2 ∨ w1.heap.size ≤ g2 := by
    rcases h3 with h3 | h3
    · exact .inl h3.symm
    · simp only [Value.ownBlock, Option.some.injEq] at h3; exact .inr (by omega)
  have hC := hc1.trans (by rw [B1_bf g m cp]; exact chg_rows h2 hor hlt2)
  have HL : Hid (((xs ++ vi n) ++ b).length = (xs ++ txt b).length) := by unfold txt; rw [← HN.out, List.append_assoc]; rfl
  generalize ((xs ++ vi n) ++ b).length = m2 at h1 hr HL
  have HO : Hid (OwnB w2 base 5 (.slice (some ⟨g2, 0, none⟩) m2 cp2) (xs ++ txt b)) := by
    unfold txt
    rw [← HN.out, ← List.append_assoc]; exact h1
  have HR := Lib.hid hr
  clear h1 h2 h3 h4 hr hown hc1 hs1 hml hor
  go_wp2_with (at_builtin; refine wpList_append_eq rfl rfl HR.out rfl rfl ?_)
  go_ret
  exact ⟨_, _, _, rfl, HL, HO.out, hC, hg2⟩

set_option maxHeartbeats 1000000 in
theorem good_any {F : Foot} (w : World) (r : PR) (x : RV) (h : RecAt F w r x) :
    Calls Try.prog 33 #[rval r x] w fun e w' => e = .returned (.bool (goodR r)) ∧ Below w.heap.size w w' := by
  unfold rval
  by_cases k1 : r.kind < 1
  · have HG : Hid (goodR r = false) := by
      unfold Hid
      rw [Bool.eq_false_iff]
      intro hg
      have := (goodR_iff r).1 hg
      omega
    go_enter Try.func33, Try.ntmps33
    go_wp2
    go_ret
    exact ⟨by rw [HG.out]; rfl, (Below.refl _ _).alloc (Nat.le_refl _) _⟩
  · by_cases k2 : 9 < r.kind
    · have HG : Hid (goodR r = false) := by
        unfold Hid
        rw [Bool.eq_false_iff]
        intro hg
        have := (goodR_iff r).1 hg
        omega
      go_enter Try.func33, Try.ntmps33
      go_wp2
      go_ret
      exact ⟨by rw [HG.out]; rfl, (Below.refl _ _).alloc (Nat.le_refl _) _⟩
    · have hk1 : 1 ≤ r.kind := by omega
      have hk2 : ¬ 9 < r.kind := k2
      clear k1 k2
      obtain ⟨a, n, c, hcv, HN, hnc, hcm⟩ : ∃ a n c, x.cv = .slice a n c ∧ Hid (n = x.cs.length) ∧ n ≤ c ∧ c ≤ maxLen := by
        obtain ⟨a, c, hv, h1, h2⟩ := h.cs.row.form
        exact ⟨a, _, c, hv, rfl, h1, h2⟩
      have hn : (n : Int) ≤ 9223372036854775807 := by unfold maxLen at hcm; omega
      have HC : ∀ i (hi : i < x.cs.length), ∃ g off, a = some ⟨g, off, none⟩ ∧ g < w.heap.size ∧ w.cell? ⟨g, off + i * 4, none⟩ = some (.int .i64 x.cs[i].1.page) ∧ w.cell? ⟨g, off + i * 4 + 1, none⟩ = some (.int .i64 x.cs[i].1.at_) ∧
          w.cell? ⟨g, off + i * 4 + 2, none⟩ = some (.bool x.cs[i].1.whole) ∧ w.cell? ⟨g, off + i * 4 + 3, none⟩ = some x.cs[i].2 := by
        intro i hi
        obtain ⟨g, off, c', hv, h1, h2, h3, h4, h5, h6, h7, h8⟩ := h.cs.at_ i hi
        rw [hcv] at hv
        injection hv with e1 e2 e3
        exact ⟨g, off, e1, h4, h5, h6, h7, h8⟩
      have HB : ∀ i (hi : i < x.cs.length), ∃ a c, x.cs[i].2 = .slice a x.cs[i].1.b.length c ∧ x.cs[i].1.b.length ≤ 9223372036854775807 := fun i hi => by
        obtain ⟨a, c, hv, h1, h2⟩ := (h.cs.rd _ (List.getElem_mem hi)).form
        exact ⟨a, c, hv, by unfold maxLen at h2; omega⟩
      have HE : Hid (goodR r = (x.cs.all fun p => goodC p.1)) := by
        unfold Hid goodR
        rw [← h.eq, List.all_map]
        have e1 : decide (1 ≤ r.kind) = true := decide_eq_true hk1
        have e2 : decide (r.kind ≤ 9) = true := decide_eq_true (by omega)
        rw [e1, e2]
        rfl
      rw [hcv]
      clear h
      have HC2 := Lib.hid HC
      have HB2 := Lib.hid HB
      clear HC HB hcm
      go_enter Try.func33, Try.ntmps33
      go_wp2
      go_loopw [16] (fun i wr => ∃ k : Nat, k ≤ n ∧ i = .int .i64 k ∧ Below w.heap.size w wr ∧ (∀ j (hj : j < x.cs.length), j < k → goodC x.cs[j].1 = true)) (fun i _ => n - (intOf i).toNat)
      case atStart => exact ⟨0, Nat.zero_le _, rfl, (Below.refl _ _).alloc (Nat.le_refl _) _, fun j hj h0 => absurd h0 (Nat.not_lt_zero _)⟩
      case round =>
        obtain ⟨k, hk, rfl, hb, hg⟩ := hrel
        by_cases hlt : k < n
        · have hkl : k < x.cs.length := by rw [← HN.out]; exact hlt
          obtain ⟨g, off, rfl, hgl, c0, c1, c2, c3⟩ := HC2.out k hkl
          obtain ⟨ba, bc, hbv, hbm⟩ := HB2.out k hkl
          rw [hbv] at c3
          rw [← hb.cell (p := ⟨g, off + k * 4, none⟩) hgl] at c0
          rw [← hb.cell (p := ⟨g, off + k * 4 + 1, none⟩) hgl] at c1
          rw [← hb.cell (p := ⟨g, off + k * 4 + 2, none⟩) hgl] at c2
          rw [← hb.cell (p := ⟨g, off + k * 4 + 3, none⟩) hgl] at c3
          have HBad : Hid (goodC x.cs[k].1 = false → goodR r = false) := fun hf => by
            rw [HE.out, List.all_eq_false]
            exact ⟨_, List.getElem_mem hkl, by rw [hf]; exact Bool.false_ne_true⟩
          have HYes : Hid (goodC x.cs[k].1 = true → ∀ j (hj : j < x.cs.length), j < k + 1 → goodC x.cs[j].1 = true) := fun ht j hj hjk => by
            rcases Nat.lt_or_ge j k with h1 | h1
            · exact hg j hj h1
            · obtain rfl : j = k := by omega
              exact ht
          have hBe : Below w.heap.size w (wr.alloc (.cells #[.int .i64 x.cs[k].1.page, .int .i64 x.cs[k].1.at_, .bool x.cs[k].1.whole, .slice ba x.cs[k].1.b.length bc] 81)) := hb.alloc hb.size _
          have Hb := Lib.hid hBe
          clear hg hb hbv hBe
          generalize x.cs[k].1 = pc at c0 c1 c2 c3 hbm HBad HYes Hb
          have HG1 : Hid (GoodC pc → goodC pc = true) := (goodC_iff pc).2
          have HG0 : Hid (¬ GoodC pc → goodC pc = false) := fun h => by rw [Bool.eq_false_iff]; exact fun h1 => h ((goodC_iff pc).1 h1)
          have HL : Hid (pc.b.length = pc.b.length) := rfl
          by_cases q1 : pc.page < 0
          · have HG : Hid (goodR r = false) := HBad.out (HG0.out (fun h => by have := h.p0; omega))
            go_wp2
            go_ret
            exact ⟨by rw [HG.out]; rfl, Hb.out⟩
          by_cases q2 : 65536 ≤ pc.page
          · have HG : Hid (goodR r = false) := HBad.out (HG0.out (fun h => by have := h.p1; omega))
            go_wp2
            go_ret
            exact ⟨by rw [HG.out]; rfl, Hb.out⟩
          by_cases q3 : pc.at_ < 0
          · have HG : Hid (goodR r = false) := HBad.out (HG0.out (fun h => by have := h.a0; omega))
            go_wp2
            go_ret
            exact ⟨by rw [HG.out]; rfl, Hb.out⟩
          by_cases q4 : 512 < pc.at_
          · have HG : Hid (goodR r = false) := HBad.out (HG0.out (fun h => by have := h.a1; omega))
            go_wp2
            go_ret
            exact ⟨by rw [HG.out]; rfl, Hb.out⟩
          have q3' : 0 ≤ pc.at_ := by omega
          have q4' : pc.at_ ≤ 512 := by omega
          by_cases q5 : 512 - pc.at_ < (pc.b.length : Int)
          · have HG : Hid (goodR r = false) := HBad.out (HG0.out (fun h => by have := h.len; omega))
            go_wp2
            go_ret
            exact ⟨by rw [HG.out]; rfl, Hb.out⟩
          cases hw : pc.whole with
          | false =>
            have HG := Lib.hid (HYes.out (HG1.out ⟨by omega, by omega, by omega, by omega, by omega, fun h => by rw [hw] at h; cases h⟩))
            rw [hw] at c2 Hb
            clear hw
            go_wp2
            go_roundw
            case rel => exact ⟨k + 1, by omega, by go_num, Hb.out, HG.out⟩
            case measure => simp [intOf]; omega
          | true =>
            rw [hw] at c2 Hb
            by_cases q6 : pc.at_ = 0
            · by_cases q7 : pc.b.length = 512
              · have HG := Lib.hid (HYes.out (HG1.out ⟨by omega, by omega, by omega, by omega, by omega, fun h => ⟨q6, q7⟩⟩))
                rw [q6] at Hb c1
                rw [q7] at Hb c3
                clear hw
                go_wp2
                go_roundw
                case rel => exact ⟨k + 1, by omega, by go_num, Hb.out, HG.out⟩
                case measure => simp [intOf]; omega
              · have HG : Hid (goodR r = false) := HBad.out (HG0.out (fun h => q7 (h.all hw).2))
                rw [q6] at Hb c1
                clear hw
                have q7' : ((pc.b.length : Int) != 512) = true := by simp; omega
                go_wp2
                go_ret
                exact ⟨by rw [HG.out]; rfl, Hb.out⟩
            · have HG : Hid (goodR r = false) := HBad.out (HG0.out (fun h => q6 (h.all hw).1))
              clear hw
              have q6' : (pc.at_ != 0) = true := by simpa using q6
              go_wp2
              go_ret
              exact ⟨by rw [HG.out]; rfl, Hb.out⟩
        · obtain rfl : k = n := by omega
          have HG : Hid (goodR r = true) := by
            unfold Hid
            rw [HE.out, List.all_eq_true]
            intro p hp
            obtain ⟨j, hj, rfl⟩ := List.getElem_of_mem hp
            exact hg j hj (by rw [HN.out]; exact hj)
          clear hg
          go_wp2_with fail
          go_ret
          exact ⟨by rw [HG.out]; rfl, hb⟩
end Mun
