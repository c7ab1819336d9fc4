/- Texts of mine, one behind the other: W7A, W7B, W7C, W7D. -/
import Derived.Test.YtoblajbffnkkiaaMgC
import Derived.Deep.DeepCutAuto
section
/- Contracts of the reference of chapter 7: digits, chunks, whether a record is good. -/
set_option maxRecDepth 100000
set_option linter.unusedVariables false
set_option linter.unusedSimpArgs false
namespace Mun
open Go Go.RowKit
open Go.Proofs

theorem and127_64 (k : Nat) (h : k < 18446744073709551616) : bits .and .u64 (k : Int) 127 = ((k % 128 : Nat) : Int) := by
  have h1 := u64_and_nat k 127 h (by omega)
  rw [show ((127 : Nat) : Int) = 127 from rfl] at h1
  rw [h1, show (127 : Nat) = 2 ^ 7 - 1 from rfl, Nat.and_two_pow_sub_one_eq_mod]
theorem or128y (y : Nat) (h : y < 128) : bits .or .u8 (y : Int) 128 = ((UInt8.ofNat (y + 128)).toNat : Int) := by
  have key : ∀ a : Nat, a < 128 → bits .or .u8 (a : Int) 128 = ((a + 128 : Nat) : Int) := by decide +kernel
  rw [key y h, UInt8.toNat_ofNat']
  omega

set_option maxHeartbeats 400000 in
/-- a number's digits behind a row of the call's own -/
theorem r7varint (w : World) (base : Nat) (v : Value) (xs : List UInt8) (N : Nat) (hN : N < 18446744073709551616) (ho : OwnB w base 5 v xs) (hbase : base ≤ w.heap.size) (hx : xs.length ≤ 140737488355000) :
    Calls Try.prog 69 #[v, .int .u64 N] w (BO w base v (xs ++ vi N)) := by
  go_enter Try.func69, Try.ntmps69
  go_wp2
  go_loopw [0, 1] (fun u n wr => ∃ (k : Nat) (ys : List UInt8), n = .int .u64 k ∧ k ≤ N ∧ ys ++ vi k = xs ++ vi N ∧ OwnB wr base 5 u ys ∧ Chg (bf v) (bf u) w wr) (fun _ n _ => (intOf n).toNat)
  case atStart => exact ⟨N, xs, rfl, Nat.le_refl _, rfl, ho, Chg.refl _ _⟩
  case round =>
    obtain ⟨k, ys, rfl, hk, he, hown, hc⟩ := hrel
    have hys : ys.length ≤ 140737488355100 := by
      have h1 := congrArg List.length he
      have h2 := vi_length64 N hN
      simp only [List.length_append] at h1
      omega
    have hB : base ≤ wr.heap.size := by have := hc.size; omega
    have t0 : (0 : Int) ≤ (k : Int) := by omega
    have t1 : (k : Int) ≤ 18446744073709551615 := by omega
    by_cases hlt : (k : Int) < 128
    · obtain ⟨g, cap, w', hr, h1, h2, h3, h4, h5⟩ := append_byte (ty := 23) (UInt8.ofNat k) (k : Int) (by rw [UInt8.toNat_ofNat']; omega) hown (by omega) hB
      have hC := hc.trans (chg_byte h2 h5 h1.ownlt.2)
      have HL : Hid (ys.length + 1 = (xs ++ vi N).length) := by rw [← he, vi_lt (by omega), List.length_append]; rfl
      have HO : Hid (OwnB w' base 5 (.slice (some ⟨g, 0, none⟩) (ys.length + 1) cap) (xs ++ vi N)) := by rw [← he, vi_lt (by omega)]; exact h1
      have HR := Lib.hid hr
      clear h1 h2 h4 h5 hr hown hc ho he
      go_wp2_with (at_builtin; refine wpList_append_eq rfl rfl HR.out rfl rfl ?_)
      go_ret
      exact ⟨_, _, _, rfl, HL, HO.out, hC, h3⟩
    · have hand := and127_64 k (by omega)
      obtain ⟨y, hy⟩ : ∃ y, k % 128 = y := ⟨_, rfl⟩
      have hb := or128y y (by omega)
      rw [hy] at hand
      have y0 : (0 : Int) ≤ (y : Int) := by omega
      have y1 : (y : Int) < 128 := by omega
      obtain ⟨g, cap, w', hr, h1, h2, h3, h4, h5⟩ := append_byte (ty := 23) (UInt8.ofNat (y + 128)) (bits .or .u8 (y : Int) 128) hb hown (by omega) hB
      have hC := hc.trans (chg_byte h2 h5 h1.ownlt.2)
      have HR := Lib.hid hr
      have HE : Hid ((ys ++ [UInt8.ofNat (y + 128)]) ++ vi (k / 128) = xs ++ vi N) := by rw [← he, vi_ge (n := k) (by omega), hy, List.append_assoc]; rfl
      have HO := Lib.hid h1
      clear h1 h2 h4 h5 hr hown hc ho he hb hy
      go_wp2_with (at_builtin; refine wpList_append_eq rfl rfl HR.out rfl rfl ?_)
      go_roundw
      case rel => exact ⟨k / 128, _, by go_num, by omega, HE.out, HO.out, by rw [← B1_bf]; exact hC⟩
      case measure => simp [intOf]; omega
set_option maxHeartbeats 400000 in
/-- a chunk behind a row of the call's own -/
theorem r7chunk {F : Foot} (w : World) (base : Nat) (v : Value) (xs : List UInt8) (s : Value) (b : List UInt8) (hb : b.length ≤ 140737488355000) (ho : OwnB w base 5 v xs) (hbase : base ≤ w.heap.size) (hx : xs.length + b.length ≤ 140737488350000)
    (hs : RdB F w s b) (hF : ∀ k, base ≤ k → F k) :
    Calls Try.prog 68 #[v, s] w (BO w base v (xs ++ txt b)) := by
  obtain ⟨a, n, c, rfl, HN, hnc, hcm⟩ := hs.formN
  have hv := r7varint w base v xs n (by rw [HN.out]; omega) ho hbase (by omega)
  have hs2 : ∀ (w1 : World) (g : Nat), Chg (bf v) (B1 g) w w1 → base ≤ g → RdB (B1 g) w1 (.slice a n c) b := fun w1 g hc hg =>
    RdB.chg (RdV.mono hs (fun k hk hb => hF k (ownB_from ho k hb))) hc
  have HS := Lib.hid hs2
  have hn : (n : Int) ≤ 9223372036854775807 := by unfold maxLen at hcm; omega
  have h10 := vi_length64 n (by rw [HN.out]; omega)
  have hxb : xs.length + n ≤ 140737488350000 := by rw [HN.out]; exact hx
  clear hs2 hs ho hF hx hcm hnc hb
  go_enter Try.func68, Try.ntmps68
  go_wp2_with fail
  refine hv.mono ?_
  rintro e w1 ⟨g, m, cp, rfl, HM, hown, hc1, hg⟩
  have hs1 := HS.out w1 g hc1 hg
  have hml : m = (xs ++ vi n).length := HM.out
  obtain ⟨v2, w2, hr, h1, h2, h3, h4⟩ := append_bytes (ty := 23) hown hs1 (by rw [← HN.out]; simp only [List.length_append]; omega) (by have := hc1.size; omega)
  have hp : 0 < ((xs ++ vi n) ++ b).length := by have := vi_pos n; simp only [List.length_append]; omega
  obtain ⟨g2, cp2, rfl, hg2, hlt2, _⟩ := h1.at_ hp
  have hor : (Value.slice (some ⟨g, 0, none⟩) m cp).ownBlock = some g2 ∨ w1.heap.size ≤ g2 := by
    rcases h3 with h3 | h3
    · exact .inl h3.symm
    · simp only [Value.ownBlock, Option.some.injEq] at h3; exact .inr (by omega)
  have hC := hc1.trans (by rw [B1_bf g m cp]; exact chg_rows h2 hor hlt2)
  have HL : Hid (((xs ++ vi n) ++ b).length = (xs ++ txt b).length) := by unfold txt; rw [← HN.out, List.append_assoc]; rfl
  generalize ((xs ++ vi n) ++ b).length = m2 at h1 hr HL
  have HO : Hid (OwnB w2 base 5 (.slice (some ⟨g2, 0, none⟩) m2 cp2) (xs ++ txt b)) := by
    unfold txt
    rw [← HN.out, ← List.append_assoc]; exact h1
  have HR := Lib.hid hr
  clear h1 h2 h3 h4 hr hown hc1 hs1 hml hor
  go_wp2_with (at_builtin; refine wpList_append_eq rfl rfl HR.out rfl rfl ?_)
  go_ret
  exact ⟨_, _, _, rfl, HL, HO.out, hC, hg2⟩

end Mun
end

section
/- Contract of the reference of chapter 7: whether a record is good. -/
set_option maxRecDepth 100000
set_option linter.unusedVariables false
set_option linter.unusedSimpArgs false
namespace Mun
open Go Go.RowKit
open Go.Proofs

set_option maxHeartbeats 1000000 in
theorem r7good {F : Foot} (w : World) (r : PR) (x : RV) (h : RecAt F w r x) :
    Calls Try.prog 49 #[rval r x] w fun e w' => e = .returned (.bool (goodR r)) ∧ Below w.heap.size w w' := by
  unfold rval
  by_cases k1 : r.kind < 1
  · have HG : Hid (goodR r = false) := by
      unfold Hid
      rw [Bool.eq_false_iff]
      intro hg
      have := (goodR_iff r).1 hg
      omega
    go_enter Try.func49, Try.ntmps49
    go_wp2
    go_ret
    exact ⟨by rw [HG.out]; rfl, (Below.refl _ _).alloc (Nat.le_refl _) _⟩
  · by_cases k2 : 9 < r.kind
    · have HG : Hid (goodR r = false) := by
        unfold Hid
        rw [Bool.eq_false_iff]
        intro hg
        have := (goodR_iff r).1 hg
        omega
      go_enter Try.func49, Try.ntmps49
      go_wp2
      go_ret
      exact ⟨by rw [HG.out]; rfl, (Below.refl _ _).alloc (Nat.le_refl _) _⟩
    · have hk1 : 1 ≤ r.kind := by omega
      have hk2 : ¬ 9 < r.kind := k2
      clear k1 k2
      obtain ⟨a, n, c, hcv, HN, hnc, hcm⟩ : ∃ a n c, x.cv = .slice a n c ∧ Hid (n = x.cs.length) ∧ n ≤ c ∧ c ≤ maxLen := by
        obtain ⟨a, c, hv, h1, h2⟩ := h.cs.row.form
        exact ⟨a, _, c, hv, rfl, h1, h2⟩
      have hn : (n : Int) ≤ 9223372036854775807 := by unfold maxLen at hcm; omega
      have HC : ∀ i (hi : i < x.cs.length), ∃ g off, a = some ⟨g, off, none⟩ ∧ g < w.heap.size ∧ w.cell? ⟨g, off + i * 4, none⟩ = some (.int .i64 x.cs[i].1.page) ∧ w.cell? ⟨g, off + i * 4 + 1, none⟩ = some (.int .i64 x.cs[i].1.at_) ∧
          w.cell? ⟨g, off + i * 4 + 2, none⟩ = some (.bool x.cs[i].1.whole) ∧ w.cell? ⟨g, off + i * 4 + 3, none⟩ = some x.cs[i].2 := by
        intro i hi
        obtain ⟨g, off, c', hv, h1, h2, h3, h4, h5, h6, h7, h8⟩ := h.cs.at_ i hi
        rw [hcv] at hv
        injection hv with e1 e2 e3
        exact ⟨g, off, e1, h4, h5, h6, h7, h8⟩
      have HB : ∀ i (hi : i < x.cs.length), ∃ a c, x.cs[i].2 = .slice a x.cs[i].1.b.length c ∧ x.cs[i].1.b.length ≤ 9223372036854775807 := fun i hi => by
        obtain ⟨a, c, hv, h1, h2⟩ := (h.cs.rd _ (List.getElem_mem hi)).form
        exact ⟨a, c, hv, by unfold maxLen at h2; omega⟩
      have HE : Hid (goodR r = (x.cs.all fun p => goodC p.1)) := by
        unfold Hid goodR
        rw [← h.eq, List.all_map]
        have e1 : decide (1 ≤ r.kind) = true := decide_eq_true hk1
        have e2 : decide (r.kind ≤ 9) = true := decide_eq_true (by omega)
        rw [e1, e2]
        rfl
      rw [hcv]
      clear h
      have HC2 := Lib.hid HC
      have HB2 := Lib.hid HB
      clear HC HB hcm
      go_enter Try.func49, Try.ntmps49
      go_wp2
      go_loopw [3] (fun i wr => ∃ k : Nat, k ≤ n ∧ i = .int .i64 k ∧ (Below w.heap.size w wr ∧ w.heap.size < wr.heap.size ∧ wr.cell? ⟨w.heap.size, 5, none⟩ = some (.slice a n c)) ∧ (∀ j (hj : j < x.cs.length), j < k → goodC x.cs[j].1 = true)) (fun i _ => n - (intOf i).toNat)
      case atStart => exact ⟨0, Nat.zero_le _, rfl, ⟨(Below.refl _ _).alloc (Nat.le_refl _) _, by simp, cell_of_row _ _ 5 _ _ _ (heap_alloc_new w _)⟩, fun j hj h0 => absurd h0 (Nat.not_lt_zero _)⟩
      case round =>
        obtain ⟨k, hk, rfl, ⟨hb, hz, a5⟩, hg⟩ := hrel
        by_cases hlt : k < n
        · have hkl : k < x.cs.length := by rw [← HN.out]; exact hlt
          obtain ⟨g, off, rfl, hgl, c0, c1, c2, c3⟩ := HC2.out k hkl
          obtain ⟨ba, bc, hbv, hbm⟩ := HB2.out k hkl
          rw [hbv] at c3
          rw [← hb.cell (p := ⟨g, off + k * 4, none⟩) hgl] at c0
          rw [← hb.cell (p := ⟨g, off + k * 4 + 1, none⟩) hgl] at c1
          rw [← hb.cell (p := ⟨g, off + k * 4 + 2, none⟩) hgl] at c2
          rw [← hb.cell (p := ⟨g, off + k * 4 + 3, none⟩) hgl] at c3
          have HBad : Hid (goodC x.cs[k].1 = false → goodR r = false) := fun hf => by
            rw [HE.out, List.all_eq_false]
            exact ⟨_, List.getElem_mem hkl, by rw [hf]; exact Bool.false_ne_true⟩
          have HYes : Hid (goodC x.cs[k].1 = true → ∀ j (hj : j < x.cs.length), j < k + 1 → goodC x.cs[j].1 = true) := fun ht j hj hjk => by
            rcases Nat.lt_or_ge j k with h1 | h1
            · exact hg j hj h1
            · obtain rfl : j = k := by omega
              exact ht
          have hBe : Below w.heap.size w (wr.alloc (.cells #[.int .i64 x.cs[k].1.page, .int .i64 x.cs[k].1.at_, .bool x.cs[k].1.whole, .slice ba x.cs[k].1.b.length bc] 81)) ∧ w.heap.size < (wr.alloc (.cells #[.int .i64 x.cs[k].1.page, .int .i64 x.cs[k].1.at_, .bool x.cs[k].1.whole, .slice ba x.cs[k].1.b.length bc] 81)).heap.size ∧ (wr.alloc (.cells #[.int .i64 x.cs[k].1.page, .int .i64 x.cs[k].1.at_, .bool x.cs[k].1.whole, .slice ba x.cs[k].1.b.length bc] 81)).cell? ⟨w.heap.size, 5, none⟩ = some (.slice (some ⟨g, off, none⟩) n c) := ⟨hb.alloc hb.size _, by simp; omega, (((Below.refl wr.heap.size wr).alloc (Nat.le_refl _) _).cell (p := ⟨w.heap.size, 5, none⟩) hz).trans a5⟩
          have Hb := Lib.hid hBe
          clear hg hb hbv hBe
          generalize x.cs[k].1 = pc at c0 c1 c2 c3 hbm HBad HYes Hb
          have HG1 : Hid (GoodC pc → goodC pc = true) := (goodC_iff pc).2
          have HG0 : Hid (¬ GoodC pc → goodC pc = false) := fun h => by rw [Bool.eq_false_iff]; exact fun h1 => h ((goodC_iff pc).1 h1)
          have HL : Hid (pc.b.length = pc.b.length) := rfl
          by_cases q1 : pc.page < 0
          · have HG : Hid (goodR r = false) := HBad.out (HG0.out (fun h => by have := h.p0; omega))
            go_wp2
            go_ret
            exact ⟨by rw [HG.out]; rfl, Hb.out.1⟩
          by_cases q2 : 65536 ≤ pc.page
          · have HG : Hid (goodR r = false) := HBad.out (HG0.out (fun h => by have := h.p1; omega))
            go_wp2
            go_ret
            exact ⟨by rw [HG.out]; rfl, Hb.out.1⟩
          by_cases q3 : pc.at_ < 0
          · have HG : Hid (goodR r = false) := HBad.out (HG0.out (fun h => by have := h.a0; omega))
            go_wp2
            go_ret
            exact ⟨by rw [HG.out]; rfl, Hb.out.1⟩
          by_cases q4 : 512 < pc.at_
          · have HG : Hid (goodR r = false) := HBad.out (HG0.out (fun h => by have := h.a1; omega))
            go_wp2
            go_ret
            exact ⟨by rw [HG.out]; rfl, Hb.out.1⟩
          have q3' : 0 ≤ pc.at_ := by omega
          have q4' : pc.at_ ≤ 512 := by omega
          by_cases q5 : 512 - pc.at_ < (pc.b.length : Int)
          · have HG : Hid (goodR r = false) := HBad.out (HG0.out (fun h => by have := h.len; omega))
            go_wp2
            go_ret
            exact ⟨by rw [HG.out]; rfl, Hb.out.1⟩
          cases hw : pc.whole with
          | false =>
            have HG := Lib.hid (HYes.out (HG1.out ⟨by omega, by omega, by omega, by omega, by omega, fun h => by rw [hw] at h; cases h⟩))
            rw [hw] at c2 Hb
            clear hw
            go_wp2
            go_roundw
            case rel => exact ⟨k + 1, by omega, by go_num, Hb.out, HG.out⟩
            case measure => simp [intOf]; omega
          | true =>
            rw [hw] at c2 Hb
            by_cases q6 : pc.at_ = 0
            · by_cases q7 : pc.b.length = 512
              · have HG := Lib.hid (HYes.out (HG1.out ⟨by omega, by omega, by omega, by omega, by omega, fun h => ⟨q6, q7⟩⟩))
                rw [q6] at Hb c1
                rw [q7] at Hb c3
                clear hw
                go_wp2
                go_roundw
                case rel => exact ⟨k + 1, by omega, by go_num, Hb.out, HG.out⟩
                case measure => simp [intOf]; omega
              · have HG : Hid (goodR r = false) := HBad.out (HG0.out (fun h => q7 (h.all hw).2))
                rw [q6] at Hb c1
                clear hw
                have q7' : ((pc.b.length : Int) != 512) = true := by simp; omega
                go_wp2
                go_ret
                exact ⟨by rw [HG.out]; rfl, Hb.out.1⟩
            · have HG : Hid (goodR r = false) := HBad.out (HG0.out (fun h => q6 (h.all hw).1))
              clear hw
              have q6' : (pc.at_ != 0) = true := by simpa using q6
              go_wp2
              go_ret
              exact ⟨by rw [HG.out]; rfl, Hb.out.1⟩
        · obtain rfl : k = n := by omega
          have HG : Hid (goodR r = true) := by
            unfold Hid
            rw [HE.out, List.all_eq_true]
            intro p hp
            obtain ⟨j, hj, rfl⟩ := List.getElem_of_mem hp
            exact hg j hj (by rw [HN.out]; exact hj)
          clear hg
          go_wp2_with fail
          go_ret
          exact ⟨by rw [HG.out]; rfl, hb⟩
end Mun
end

section
/- Contract of the reference's body: the walk. -/
set_option maxRecDepth 100000
set_option linter.unusedVariables false
set_option linter.unusedSimpArgs false
namespace Mun
open Go Go.RowKit
open Go.Proofs

set_option maxHeartbeats 1000000 in
theorem r7body {F : Foot} (w : World) (r : PR) (x : RV) (h : RecAt F w r x) (hg : goodR r = true) (hsz : szR r ≤ 4194304) :
    Calls Try.prog 50 #[rval r x] w (BodyOut w (bodyR r)) := by
  have hG := (goodR_iff r).1 hg
  have hd1 : Hid (∀ k, (hdK r k).length ≤ 31) := fun k => hdK_len r x h k
  have hd2 : Hid (∀ k, (bdK r k).length ≤ 4194400) := fun k => bdK_len r x h hg hsz k
  have hk0 : 0 ≤ r.kind := by omega
  have hk1 : r.kind < 256 := by omega
  obtain ⟨kd, hkd⟩ := Int.eq_ofNat_of_zero_le hk0
  have HKD := Lib.hid hkd
  unfold rval
  rw [hkd]
  obtain ⟨dn, hdn⟩ : ∃ dn, r.data.length = dn := ⟨_, rfl⟩
  obtain ⟨da, dc, hdv, _, _⟩ := h.data.form
  obtain ⟨ca, cc, hcv, hcc, hcm⟩ := h.cs.row.form
  rw [hdn] at hdv
  obtain ⟨n, hnn⟩ : ∃ n, x.cs.length = n := ⟨_, rfl⟩
  rw [hnn] at hcv
  rw [hdv, hcv]
  have HN := Lib.hid hnn
  have HDN := Lib.hid hdn
  have HH := Lib.hid h
  have HDV := Lib.hid hdv
  have HCV := Lib.hid hcv
  have HS := Lib.hid hsz
  have HGG := Lib.hid hG
  have hn1 : n ≤ 4194304 := by rw [← hnn, h.len]; unfold szR at hsz; omega
  have hdl : dn ≤ 4194304 := by rw [← hdn]; unfold szR at hsz; omega
  have hkk : (kd : Int) < 256 := by omega
  have hni : (n : Int) ≤ 4194304 := by omega
  have hni0 : (0 : Int) ≤ (n : Int) := by omega
  clear hG hkd hk0 hk1 hdn hdv hcv hcc hcm hnn h hsz hg
  obtain ⟨w1, hw1⟩ : ∃ w1, w.alloc (.cells #[.int .i64 kd, .int .u64 r.tx, .int .u64 r.prev, .int .u64 r.next, .slice da dn dc, .slice ca n cc] 26) = w1 := ⟨_, rfl⟩
  have hbx : w1.heap[w.heap.size]? = some (.cells #[.int .i64 kd, .int .u64 r.tx, .int .u64 r.prev, .int .u64 r.next, .slice da dn dc, .slice ca n cc] 26 (0, 0)) := by rw [← hw1]; exact heap_alloc_new w _
  have hs1 : w1.heap.size = w.heap.size + 1 := by rw [← hw1]; simp
  have hb1 : Below w.heap.size w w1 := by rw [← hw1]; exact (Below.refl _ _).alloc (Nat.le_refl _) _
  have c0 : w1.cell? ⟨w.heap.size, 0, none⟩ = some (.int .i64 kd) := cell_of_row w1 _ 0 _ _ _ hbx
  have HB1 := Lib.hid (And.intro hb1 (And.intro hbx hs1))
  have hst : BSt (w.heap.size + 1) w1 (w1.alloc (.cells #[.int .u8 kd] 5)) (.slice (some ⟨w1.heap.size, 0, none⟩) 1 1) (hdK r 0) := by
    refine ⟨?_, (Below.refl _ _).alloc (by omega) _, by omega⟩
    have := own_one w1 (UInt8.ofNat r.kind.toNat) kd (by rw [HKD.out, UInt8.toNat_ofNat']; simp; omega)
    rw [hs1] at this ⊢
    exact this
  have HST := Lib.hid hst
  have e1 : w.heap.size + 1 = w1.heap.size := hs1.symm
  have E1 := Lib.hid e1
  clear hst hb1 hbx hs1 e1
  go_enter Try.func50, Try.ntmps50
  go_upto_region 2 with (fail)
  clear hw1 c0
  obtain ⟨w2, hw2⟩ : ∃ w2, w1.alloc (.cells #[.int .u8 kd] 5) = w2 := ⟨_, rfl⟩
  rw [hw2] at HST ⊢
  clear hw2
  have hsd := HST.out.drew
  have HSD := Lib.hid hsd
  have hS0 : w2.drew.cell? ⟨w.heap.size, 1, none⟩ = some (.int .u64 r.tx) ∧ w2.drew.cell? ⟨w.heap.size, 2, none⟩ = some (.int .u64 r.prev) ∧ w2.drew.cell? ⟨w.heap.size, 3, none⟩ = some (.int .u64 r.next) ∧ w2.drew.cell? ⟨w.heap.size, 4, none⟩ = some (.slice da dn dc) := ⟨hsd.boxcell HB1.out.2.1 (Nat.lt_succ_self _) 1, hsd.boxcell HB1.out.2.1 (Nat.lt_succ_self _) 2, hsd.boxcell HB1.out.2.1 (Nat.lt_succ_self _) 3, hsd.boxcell HB1.out.2.1 (Nat.lt_succ_self _) 4⟩
  have hv0 := r7varint w2.drew (w.heap.size + 1) _ _ r.tx HH.out.tx hsd.own hsd.size (by have := hd1.out 0; omega)
  have HV0 := Lib.hid hv0
  clear hsd hv0
  refine wp_region_U (fun W => W.cell? ⟨w.heap.size, 1, none⟩ = some (.int .u64 r.tx) ∧ W.cell? ⟨w.heap.size, 2, none⟩ = some (.int .u64 r.prev) ∧ W.cell? ⟨w.heap.size, 3, none⟩ = some (.int .u64 r.next) ∧ W.cell? ⟨w.heap.size, 4, none⟩ = some (.slice da dn dc)) [] (by kernel_rfl) ?_
  refine wpAnyU_take (i := 0) [3, 6, 9, 12, 13] rfl (by as_aux_lemma => kernel_rfl) (by as_aux_lemma => kernel_rfl) (by as_aux_lemma => kernel_rfl) (by as_aux_lemma => kernel_rfl) (by as_aux_lemma => kernel_rfl) (by as_aux_lemma => kernel_rfl) (fun _ _ _ h => h) (Or.inl ⟨by rfl, (by intro W hSW; (try dsimp only at hSW); (try go_split_ands); go_simp <;> with_reducible rfl)⟩) hS0 ?_
  try simp only [Act.put, List.getElem_toArray, List.getElem_cons_succ, List.getElem_cons_zero, List.setIfInBounds_toArray, List.set_cons_zero, List.set_cons_succ]
  refine wpAnyU_take (i := 1) [2, 3, 6, 9, 12, 13] rfl (by as_aux_lemma => kernel_rfl) (by as_aux_lemma => kernel_rfl) (by as_aux_lemma => kernel_rfl) (by as_aux_lemma => kernel_rfl) (by as_aux_lemma => kernel_rfl) (by as_aux_lemma => kernel_rfl) (fun _ _ _ h => h) (Or.inl ⟨by rfl, (by intro W hSW; (try dsimp only at hSW); (try go_split_ands); go_simp <;> with_reducible rfl)⟩) hS0 ?_
  try simp only [Act.put, List.getElem_toArray, List.getElem_cons_succ, List.getElem_cons_zero, List.setIfInBounds_toArray, List.set_cons_zero, List.set_cons_succ]
  refine wpAnyU_take (i := 2) [3, 6, 9, 12, 13] rfl (by as_aux_lemma => kernel_rfl) (by as_aux_lemma => kernel_rfl) (by as_aux_lemma => kernel_rfl) (by as_aux_lemma => kernel_rfl) (by as_aux_lemma => kernel_rfl) (by as_aux_lemma => kernel_rfl) (fun _ _ _ h => h) (Or.inl ⟨by rfl, (by intro W hSW; (try dsimp only at hSW); (try go_split_ands); go_simp <;> with_reducible rfl)⟩) hS0 ?_
  try simp only [Act.put, List.getElem_toArray, List.getElem_cons_succ, List.getElem_cons_zero, List.setIfInBounds_toArray, List.set_cons_zero, List.set_cons_succ]
  refine wpAnyU_take (i := 4) [5, 6, 9, 12, 13] rfl (by as_aux_lemma => kernel_rfl) (by as_aux_lemma => kernel_rfl) (by as_aux_lemma => kernel_rfl) (by as_aux_lemma => kernel_rfl) (by as_aux_lemma => kernel_rfl) (by as_aux_lemma => kernel_rfl) (fun _ _ _ h => h) (Or.inl ⟨by rfl, (by intro W hSW; (try dsimp only at hSW); (try go_split_ands); go_simp <;> with_reducible rfl)⟩) hS0 ?_
  try simp only [Act.put, List.getElem_toArray, List.getElem_cons_succ, List.getElem_cons_zero, List.setIfInBounds_toArray, List.set_cons_zero, List.set_cons_succ]
  refine wpAnyU_take (i := 5) [6, 9, 12, 13] rfl (by as_aux_lemma => kernel_rfl) (by as_aux_lemma => kernel_rfl) (by as_aux_lemma => kernel_rfl) (by as_aux_lemma => kernel_rfl) (by as_aux_lemma => kernel_rfl) (by as_aux_lemma => kernel_rfl) (fun _ _ _ h => h) (Or.inl ⟨by rfl, (by intro W hSW; (try dsimp only at hSW); (try go_split_ands); go_simp <;> with_reducible rfl)⟩) hS0 ?_
  try simp only [Act.put, List.getElem_toArray, List.getElem_cons_succ, List.getElem_cons_zero, List.setIfInBounds_toArray, List.set_cons_zero, List.set_cons_succ]
  refine wpAnyU_take (i := 7) [8, 9, 12, 13] rfl (by as_aux_lemma => kernel_rfl) (by as_aux_lemma => kernel_rfl) (by as_aux_lemma => kernel_rfl) (by as_aux_lemma => kernel_rfl) (by as_aux_lemma => kernel_rfl) (by as_aux_lemma => kernel_rfl) (fun _ _ _ h => h) (Or.inl ⟨by rfl, (by intro W hSW; (try dsimp only at hSW); (try go_split_ands); go_simp <;> with_reducible rfl)⟩) hS0 ?_
  try simp only [Act.put, List.getElem_toArray, List.getElem_cons_succ, List.getElem_cons_zero, List.setIfInBounds_toArray, List.set_cons_zero, List.set_cons_succ]
  refine wpAnyU_take (i := 8) [9, 12, 13] rfl (by as_aux_lemma => kernel_rfl) (by as_aux_lemma => kernel_rfl) (by as_aux_lemma => kernel_rfl) (by as_aux_lemma => kernel_rfl) (by as_aux_lemma => kernel_rfl) (by as_aux_lemma => kernel_rfl) (fun _ _ _ h => h) (Or.inl ⟨by rfl, (by intro W hSW; (try dsimp only at hSW); (try go_split_ands); go_simp <;> with_reducible rfl)⟩) hS0 ?_
  try simp only [Act.put, List.getElem_toArray, List.getElem_cons_succ, List.getElem_cons_zero, List.setIfInBounds_toArray, List.set_cons_zero, List.set_cons_succ]
  refine wpAnyU_take (i := 10) [11, 12, 13] rfl (by as_aux_lemma => kernel_rfl) (by as_aux_lemma => kernel_rfl) (by as_aux_lemma => kernel_rfl) (by as_aux_lemma => kernel_rfl) (by as_aux_lemma => kernel_rfl) (by as_aux_lemma => kernel_rfl) (fun _ _ _ h => h) (Or.inl ⟨by rfl, (by intro W hSW; (try dsimp only at hSW); (try go_split_ands); go_simp <;> with_reducible rfl)⟩) hS0 ?_
  try simp only [Act.put, List.getElem_toArray, List.getElem_cons_succ, List.getElem_cons_zero, List.setIfInBounds_toArray, List.set_cons_zero, List.set_cons_succ]
  refine wpAnyU_take (i := 11) [12, 13] rfl (by as_aux_lemma => kernel_rfl) (by as_aux_lemma => kernel_rfl) (by as_aux_lemma => kernel_rfl) (by as_aux_lemma => kernel_rfl) (by as_aux_lemma => kernel_rfl) (by as_aux_lemma => kernel_rfl) (fun _ _ _ h => h) (Or.inl ⟨by rfl, (by intro W hSW; (try dsimp only at hSW); (try go_split_ands); go_simp <;> with_reducible rfl)⟩) hS0 ?_
  try simp only [Act.put, List.getElem_toArray, List.getElem_cons_succ, List.getElem_cons_zero, List.setIfInBounds_toArray, List.set_cons_zero, List.set_cons_succ]
  refine wpAnyU_one (i := 3) (by kernel_rfl) rfl (fun K hK => ?_)
  go_simp
  go_at_call 69
  (with_reducible refine HV0.out.mono ?_)
  rintro e w3 ⟨gw3, mw3, cpw3, rfl, hm, ho, hc, hgg⟩
  have HX3 := Lib.hid (HSD.out.step ho hc)
  have hSw3 : w3.cell? ⟨w.heap.size, 1, none⟩ = some (.int .u64 r.tx) ∧ w3.cell? ⟨w.heap.size, 2, none⟩ = some (.int .u64 r.prev) ∧ w3.cell? ⟨w.heap.size, 3, none⟩ = some (.int .u64 r.next) ∧ w3.cell? ⟨w.heap.size, 4, none⟩ = some (.slice da dn dc) := ⟨HX3.out.boxcell HB1.out.2.1 (Nat.lt_succ_self _) 1, HX3.out.boxcell HB1.out.2.1 (Nat.lt_succ_self _) 2, HX3.out.boxcell HB1.out.2.1 (Nat.lt_succ_self _) 3, HX3.out.boxcell HB1.out.2.1 (Nat.lt_succ_self _) 4⟩
  have hv1 := r7varint w3 (w.heap.size + 1) _ _ r.prev HH.out.prev HX3.out.own HX3.out.size (by have := hd1.out 1; exact Nat.le_trans this (by omega))
  have HV1 := Lib.hid hv1
  clear hv1
  clear hm ho hc hgg HV0
  refine hK.out _ _ (fun _ => hSw3) (fun _ => ?_)
  clear hK K
  try simp only [Act.put, List.getElem_toArray, List.getElem_cons_succ, List.getElem_cons_zero, List.setIfInBounds_toArray, List.set_cons_zero, List.set_cons_succ]
  refine wpAnyU_one (i := 6) (by kernel_rfl) rfl (fun K hK => ?_)
  go_simp
  go_at_call 69
  (with_reducible refine HV1.out.mono ?_)
  rintro e w4 ⟨gw4, mw4, cpw4, rfl, hm, ho, hc, hgg⟩
  have HX4 := Lib.hid (HX3.out.step ho hc)
  have hSw4 : w4.cell? ⟨w.heap.size, 1, none⟩ = some (.int .u64 r.tx) ∧ w4.cell? ⟨w.heap.size, 2, none⟩ = some (.int .u64 r.prev) ∧ w4.cell? ⟨w.heap.size, 3, none⟩ = some (.int .u64 r.next) ∧ w4.cell? ⟨w.heap.size, 4, none⟩ = some (.slice da dn dc) := ⟨HX4.out.boxcell HB1.out.2.1 (Nat.lt_succ_self _) 1, HX4.out.boxcell HB1.out.2.1 (Nat.lt_succ_self _) 2, HX4.out.boxcell HB1.out.2.1 (Nat.lt_succ_self _) 3, HX4.out.boxcell HB1.out.2.1 (Nat.lt_succ_self _) 4⟩
  have hv2 := r7varint w4 (w.heap.size + 1) _ _ r.next HH.out.next HX4.out.own HX4.out.size (by have := hd1.out 2; exact Nat.le_trans this (by omega))
  have HV2 := Lib.hid hv2
  clear hv2
  clear hm ho hc hgg HV1
  refine hK.out _ _ (fun _ => hSw4) (fun _ => ?_)
  clear hK K
  try simp only [Act.put, List.getElem_toArray, List.getElem_cons_succ, List.getElem_cons_zero, List.setIfInBounds_toArray, List.set_cons_zero, List.set_cons_succ]
  refine wpAnyU_one (i := 9) (by kernel_rfl) rfl (fun K hK => ?_)
  go_simp
  go_at_call 69
  (with_reducible refine HV2.out.mono ?_)
  rintro e w5 ⟨gw5, mw5, cpw5, rfl, hm, ho, hc, hgg⟩
  have HX5 := Lib.hid (HX4.out.step ho hc)
  have hSw5 : w5.cell? ⟨w.heap.size, 1, none⟩ = some (.int .u64 r.tx) ∧ w5.cell? ⟨w.heap.size, 2, none⟩ = some (.int .u64 r.prev) ∧ w5.cell? ⟨w.heap.size, 3, none⟩ = some (.int .u64 r.next) ∧ w5.cell? ⟨w.heap.size, 4, none⟩ = some (.slice da dn dc) := ⟨HX5.out.boxcell HB1.out.2.1 (Nat.lt_succ_self _) 1, HX5.out.boxcell HB1.out.2.1 (Nat.lt_succ_self _) 2, HX5.out.boxcell HB1.out.2.1 (Nat.lt_succ_self _) 3, HX5.out.boxcell HB1.out.2.1 (Nat.lt_succ_self _) 4⟩
  have hrd5 := (HH.out.newer HB1.out.1 HX5.out.bl (Nat.le_succ _)).data
  rw [HDV.out] at hrd5
  have ht5 := r7chunk w5 (w.heap.size + 1) _ _ _ _ (by rw [HDN.out]; omega) HX5.out.own HX5.out.size (by have h9 : (hdK r 0 ++ vi r.tx ++ vi r.prev ++ vi r.next).length ≤ 31 := hd1.out 3; rw [HDN.out]; omega) hrd5 (fun _ h => h)
  have HT5 := Lib.hid ht5
  clear hrd5 ht5
  clear hm ho hc hgg HV2
  refine hK.out _ _ (fun _ => hSw5) (fun _ => ?_)
  clear hK K
  try simp only [Act.put, List.getElem_toArray, List.getElem_cons_succ, List.getElem_cons_zero, List.setIfInBounds_toArray, List.set_cons_zero, List.set_cons_succ]
  refine wpAnyU_one (i := 12) (by kernel_rfl) rfl (fun K hK => ?_)
  go_simp
  go_at_call 68
  (with_reducible refine HT5.out.mono ?_)
  rintro e w6 ⟨gw6, mw6, cpw6, rfl, hm, ho, hc, hgg⟩
  have HX6 := Lib.hid (HX5.out.step ho hc)
  have hSw6 : w6.cell? ⟨w.heap.size, 1, none⟩ = some (.int .u64 r.tx) ∧ w6.cell? ⟨w.heap.size, 2, none⟩ = some (.int .u64 r.prev) ∧ w6.cell? ⟨w.heap.size, 3, none⟩ = some (.int .u64 r.next) ∧ w6.cell? ⟨w.heap.size, 4, none⟩ = some (.slice da dn dc) := ⟨HX6.out.boxcell HB1.out.2.1 (Nat.lt_succ_self _) 1, HX6.out.boxcell HB1.out.2.1 (Nat.lt_succ_self _) 2, HX6.out.boxcell HB1.out.2.1 (Nat.lt_succ_self _) 3, HX6.out.boxcell HB1.out.2.1 (Nat.lt_succ_self _) 4⟩
  clear hm ho hc hgg HT5
  refine hK.out _ _ (fun _ => hSw6) (fun _ => ?_)
  clear hK K
  try simp only [Act.put, List.getElem_toArray, List.getElem_cons_succ, List.getElem_cons_zero, List.setIfInBounds_toArray, List.set_cons_zero, List.set_cons_succ]
  refine wpAnyU_take (i := 13) [] rfl (by as_aux_lemma => kernel_rfl) (by as_aux_lemma => kernel_rfl) (by as_aux_lemma => kernel_rfl) (by as_aux_lemma => kernel_rfl) (by as_aux_lemma => kernel_rfl) (by as_aux_lemma => kernel_rfl) (fun _ _ _ h => h) (Or.inl ⟨by rfl, (by intro W hSW; (try dsimp only at hSW); (try go_split_ands); go_simp <;> with_reducible rfl)⟩) hSw6 ?_
  try simp only [Act.put, List.getElem_toArray, List.getElem_cons_succ, List.getElem_cons_zero, List.setIfInBounds_toArray, List.set_cons_zero, List.set_cons_succ]
  refine wpAnyU_done (by kernel_rfl) ?_ _
  have q5 : w6.cell? ⟨w.heap.size, 5, none⟩ = some (.slice ca n cc) := HX6.out.boxcell HB1.out.2.1 (Nat.lt_succ_self _) 5
  have hl6 : (hdK r 0 ++ vi r.tx ++ vi r.prev ++ vi r.next ++ txt r.data).length ≤ 140737488355000 := by
    have h9 : (hdK r 0 ++ vi r.tx ++ vi r.prev ++ vi r.next).length ≤ 31 := hd1.out 3
    have := vi_length64 r.data.length (by rw [HDN.out]; omega)
    rw [List.length_append]
    simp only [txt, List.length_append]
    rw [HDN.out] at *
    simp only [List.length_append] at h9
    omega
  have hv6 := r7varint w6 (w.heap.size + 1) _ _ n (by omega) HX6.out.own HX6.out.size hl6
  have HV6 := Lib.hid hv6
  clear hS0 hSw3 hSw4 hSw5 hSw6 HX3 HX4 HX5 hl6 hv6
  go_upto_region 4 with (go_at_call 69; refine HV6.out.mono ?_; rintro e w7 ⟨gw7, mw7, cpw7, rfl, hm, ho, hc, hgg⟩; have HX7 := Lib.hid (HX6.out.step ho hc); clear hm ho hc hgg)
  have HX8 : Hid (BSt (w.heap.size + 1) w1 w7 (.slice (some ⟨gw7, 0, none⟩) mw7 cpw7) (bdK r 0)) := by
    have h9 := HX7.out
    unfold Hid
    rw [bdK_zero, ← HH.out.len, HN.out]
    exact h9
  clear q5 HX7
  go_wp2
  go_loopw [3, 4] (fun u i wr => ∃ k : Nat, k ≤ n ∧ i = .int .i64 k ∧ BSt (w.heap.size + 1) w1 wr u (bdK r k)) (fun _ i _ => n - (intOf i).toNat)
  case atStart => exact ⟨0, Nat.zero_le _, rfl, HX8.out⟩
  case round =>
    obtain ⟨k, hk, rfl, hs⟩ := hrel
    obtain ⟨ua, un, uc, rfl⟩ := hs.form
    have HSS := Lib.hid hs
    have q55 : wr.cell? ⟨w.heap.size, 5, none⟩ = some (.slice ca n cc) := HSS.out.boxcell HB1.out.2.1 (Nat.lt_succ_self _) 5
    clear hs HX8
    by_cases hlt : k < n
    · have hkl : k < x.cs.length := by rw [HN.out]; exact hlt
      have hN := HH.out.newer HB1.out.1 HSS.out.bl (Nat.le_succ _)
      obtain ⟨g, off, c', hv, -, -, -, -, q0, q1, q2, q3⟩ := hN.cs.at_ k hkl
      rw [HCV.out] at hv
      injection hv with e1 e2 e3
      subst e1
      clear e2 e3
      have hrd := hN.cs.rd _ (List.getElem_mem hkl)
      obtain ⟨pc, hpc⟩ : ∃ pc, x.cs[k].1 = pc := ⟨_, rfl⟩
      obtain ⟨bw, hbw⟩ : ∃ bw, x.cs[k].2 = bw := ⟨_, rfl⟩
      rw [hpc] at q0 q1 q2 hrd
      rw [hbw] at q3 hrd
      obtain ⟨ba, bn, bc, rfl, HBN, -, -⟩ := hrd.formN
      have hget := HH.out.get k hkl
      have hkr : k < r.cs.length := by rw [← HH.out.len]; exact hkl
      have HKR := Lib.hid hkr
      have HPC2 : Hid (r.cs[k] = pc) := hget.trans hpc
      have hgc : GoodC pc := by rw [← HPC2.out]; exact HGG.out.2.2 _ (List.getElem_mem hkr)
      obtain ⟨pg, hpg⟩ := Int.eq_ofNat_of_zero_le hgc.p0
      obtain ⟨ag, hag⟩ := Int.eq_ofNat_of_zero_le hgc.a0
      rw [hpg] at q0
      rw [hag] at q1
      have p1 : (pg : Int) < 65536 := by have := hgc.p1; omega
      have p0 : (0 : Int) ≤ (pg : Int) := by omega
      have a1 : (ag : Int) ≤ 512 := by have := hgc.a1; omega
      have a0 : (0 : Int) ≤ (ag : Int) := by omega
      have hbn : bn ≤ 512 := by have := hgc.len; have := HBN.out; omega
      have HPA := Lib.hid (And.intro hpg hag)
      have HPC := Lib.hid (And.intro hpc hbw)
      have HLT := Lib.hid hlt
      obtain ⟨w2, hw2⟩ : ∃ w2, wr.alloc (.cells #[.int .i64 pg, .int .i64 ag, .bool pc.whole, .slice ba bn bc] 81) = w2 := ⟨_, rfl⟩
      have hs2 : BSt (w.heap.size + 1) w1 w2 (.slice ua un uc) (bdK r k) := by rw [← hw2]; exact HSS.out.grow ((Below.refl _ _).alloc (Nat.le_refl _) _)
      have hcb : w2.heap[wr.heap.size]? = some (.cells #[.int .i64 pg, .int .i64 ag, .bool pc.whole, .slice ba bn bc] 81 (0, 0)) := by rw [← hw2]; exact heap_alloc_new wr _
      have HCB : Hid (w2.drew.heap[wr.heap.size]? = some (.cells #[.int .i64 pg, .int .i64 ag, .bool pc.whole, .slice ba bn bc] 81 (0, 0)) ∧ ¬ bf (.slice ua un uc) wr.heap.size) := ⟨hcb, fun h => by have := (HSS.out.own.lt _ h).2; omega⟩
      have HX2 := Lib.hid hs2.drew
      have hL0 := hd2.out k
      have hv3 := r7varint w2.drew (w.heap.size + 1) _ _ pg (by omega) HX2.out.own HX2.out.size (by omega)
      have HV3 := Lib.hid hv3
      have hS0 : w2.drew.cell? ⟨wr.heap.size, 0, none⟩ = some (.int .i64 pg) ∧ w2.drew.cell? ⟨wr.heap.size, 1, none⟩ = some (.int .i64 ag) := ⟨cell_of_row _ _ 0 _ _ _ HCB.out.1, cell_of_row _ _ 1 _ _ _ HCB.out.1⟩
      have HL0 := Lib.hid hL0
      clear hN hrd hpc hbw hget hkr hgc hpg hag hs2 hcb hv3 hL0
      go_upto_region 8 with (fail)
      clear hw2 q0 q1 q2 q3 q55
      have hw64 : IntKind.u64.wrap (pg : Int) = (pg : Int) := wrap_u64_nat pg (by omega)
      have hw65 : IntKind.u64.wrap (ag : Int) = (ag : Int) := wrap_u64_nat ag (by omega)
      refine wp_region_U (fun W => W.cell? ⟨wr.heap.size, 0, none⟩ = some (.int .i64 pg) ∧ W.cell? ⟨wr.heap.size, 1, none⟩ = some (.int .i64 ag)) [] (by kernel_rfl) ?_
      refine wpAnyU_take (i := 0) [4, 8, 9] rfl (by as_aux_lemma => kernel_rfl) (by as_aux_lemma => kernel_rfl) (by as_aux_lemma => kernel_rfl) (by as_aux_lemma => kernel_rfl) (by as_aux_lemma => kernel_rfl) (by as_aux_lemma => kernel_rfl) (fun _ _ _ h => h) (Or.inl ⟨by rfl, (by intro W hSW; (try dsimp only at hSW); (try go_split_ands); go_simp <;> with_reducible rfl)⟩) hS0 ?_
      try simp only [Act.put, List.getElem_toArray, List.getElem_cons_succ, List.getElem_cons_zero, List.setIfInBounds_toArray, List.set_cons_zero, List.set_cons_succ]
      refine wpAnyU_take (i := 1) [2, 3, 4, 8, 9] rfl (by as_aux_lemma => kernel_rfl) (by as_aux_lemma => kernel_rfl) (by as_aux_lemma => kernel_rfl) (by as_aux_lemma => kernel_rfl) (by as_aux_lemma => kernel_rfl) (by as_aux_lemma => kernel_rfl) (fun _ _ _ h => h) (Or.inl ⟨by rfl, (by intro W hSW; (try dsimp only at hSW); (try go_split_ands); go_simp <;> with_reducible rfl)⟩) hS0 ?_
      try simp only [Act.put, List.getElem_toArray, List.getElem_cons_succ, List.getElem_cons_zero, List.setIfInBounds_toArray, List.set_cons_zero, List.set_cons_succ]
      refine wpAnyU_take (i := 2) [3, 4, 8, 9] rfl (by as_aux_lemma => kernel_rfl) (by as_aux_lemma => kernel_rfl) (by as_aux_lemma => kernel_rfl) (by as_aux_lemma => kernel_rfl) (by as_aux_lemma => kernel_rfl) (by as_aux_lemma => kernel_rfl) (fun _ _ _ h => h) (Or.inl ⟨by rfl, (by intro W hSW; (try dsimp only at hSW); (try go_split_ands); go_simp <;> with_reducible rfl)⟩) hS0 ?_
      try simp only [Act.put, List.getElem_toArray, List.getElem_cons_succ, List.getElem_cons_zero, List.setIfInBounds_toArray, List.set_cons_zero, List.set_cons_succ]
      refine wpAnyU_take (i := 3) [4, 8, 9] rfl (by as_aux_lemma => kernel_rfl) (by as_aux_lemma => kernel_rfl) (by as_aux_lemma => kernel_rfl) (by as_aux_lemma => kernel_rfl) (by as_aux_lemma => kernel_rfl) (by as_aux_lemma => kernel_rfl) (fun _ _ _ h => h) (Or.inl ⟨by rfl, (by intro W hSW; (try dsimp only at hSW); (try go_split_ands); go_simp <;> with_reducible rfl)⟩) hS0 ?_
      try simp only [Act.put, List.getElem_toArray, List.getElem_cons_succ, List.getElem_cons_zero, List.setIfInBounds_toArray, List.set_cons_zero, List.set_cons_succ]
      refine wpAnyU_take (i := 5) [6, 7, 8, 9] rfl (by as_aux_lemma => kernel_rfl) (by as_aux_lemma => kernel_rfl) (by as_aux_lemma => kernel_rfl) (by as_aux_lemma => kernel_rfl) (by as_aux_lemma => kernel_rfl) (by as_aux_lemma => kernel_rfl) (fun _ _ _ h => h) (Or.inl ⟨by rfl, (by intro W hSW; (try dsimp only at hSW); (try go_split_ands); go_simp <;> with_reducible rfl)⟩) hS0 ?_
      try simp only [Act.put, List.getElem_toArray, List.getElem_cons_succ, List.getElem_cons_zero, List.setIfInBounds_toArray, List.set_cons_zero, List.set_cons_succ]
      refine wpAnyU_take (i := 6) [7, 8, 9] rfl (by as_aux_lemma => kernel_rfl) (by as_aux_lemma => kernel_rfl) (by as_aux_lemma => kernel_rfl) (by as_aux_lemma => kernel_rfl) (by as_aux_lemma => kernel_rfl) (by as_aux_lemma => kernel_rfl) (fun _ _ _ h => h) (Or.inl ⟨by rfl, (by intro W hSW; (try dsimp only at hSW); (try go_split_ands); go_simp <;> with_reducible rfl)⟩) hS0 ?_
      try simp only [Act.put, List.getElem_toArray, List.getElem_cons_succ, List.getElem_cons_zero, List.setIfInBounds_toArray, List.set_cons_zero, List.set_cons_succ]
      refine wpAnyU_take (i := 7) [8, 9] rfl (by as_aux_lemma => kernel_rfl) (by as_aux_lemma => kernel_rfl) (by as_aux_lemma => kernel_rfl) (by as_aux_lemma => kernel_rfl) (by as_aux_lemma => kernel_rfl) (by as_aux_lemma => kernel_rfl) (fun _ _ _ h => h) (Or.inl ⟨by rfl, (by intro W hSW; (try dsimp only at hSW); (try go_split_ands); go_simp <;> with_reducible rfl)⟩) hS0 ?_
      try simp only [Act.put, List.getElem_toArray, List.getElem_cons_succ, List.getElem_cons_zero, List.setIfInBounds_toArray, List.set_cons_zero, List.set_cons_succ]
      refine wpAnyU_one (i := 4) (by kernel_rfl) rfl (fun K hK => ?_)
      go_simp
      go_at_call 69
      (with_reducible refine HV3.out.mono ?_)
      rintro e w4 ⟨g4, m4, cp4, rfl, hm4, ho4, hc4, hgg4⟩
      have HX4 := Lib.hid (HX2.out.step ho4 hc4)
      have HCB4 := Lib.hid (cells_chg HCB.out.1 hc4 HCB.out.2)
      have hS4 : w4.cell? ⟨wr.heap.size, 0, none⟩ = some (.int .i64 pg) ∧ w4.cell? ⟨wr.heap.size, 1, none⟩ = some (.int .i64 ag) := ⟨cell_of_row _ _ 0 _ _ _ HCB4.out.1, cell_of_row _ _ 1 _ _ _ HCB4.out.1⟩
      have hv4 := r7varint w4 (w.heap.size + 1) _ _ ag (by omega) HX4.out.own HX4.out.size (by have := vi_length64 pg (by omega); have := HL0.out; simp only [List.length_append]; omega)
      have HV4 := Lib.hid hv4
      clear hm4 ho4 hc4 hgg4 hv4 HV3
      refine hK.out _ _ (fun _ => hS4) (fun _ => ?_)
      clear hK K
      try simp only [Act.put, List.getElem_toArray, List.getElem_cons_succ, List.getElem_cons_zero, List.setIfInBounds_toArray, List.set_cons_zero, List.set_cons_succ]
      refine wpAnyU_one (i := 8) (by kernel_rfl) rfl (fun K hK => ?_)
      go_simp
      go_at_call 69
      (with_reducible refine HV4.out.mono ?_)
      rintro e w7 ⟨g7, m7, cp7, rfl, HM7, ho7, hc7, hgg7⟩
      have HX7d := Lib.hid (HX4.out.step ho7 hc7)
      have hk7 := cells_chg HCB4.out.1 hc7 (by rw [← B1_bf]; exact HCB4.out.2)
      have HCB7d : Hid (w7.heap[wr.heap.size]? = some (.cells #[.int .i64 pg, .int .i64 ag, .bool pc.whole, .slice ba bn bc] 81 (0, 0)) ∧ ¬ bf (.slice (some ⟨g7, 0, none⟩) m7 cp7) wr.heap.size) := ⟨hk7.1, by rw [← B1_bf]; exact hk7.2⟩
      have hS7 : w7.cell? ⟨wr.heap.size, 0, none⟩ = some (.int .i64 pg) ∧ w7.cell? ⟨wr.heap.size, 1, none⟩ = some (.int .i64 ag) := ⟨cell_of_row _ _ 0 _ _ _ hk7.1, cell_of_row _ _ 1 _ _ _ hk7.1⟩
      have HL7 : Hid (m7 ≤ 4194500) := by
        unfold Hid
        have h1 := HM7.out
        have := vi_length64 pg (by omega)
        have := vi_length64 ag (by omega)
        have := HL0.out
        simp only [List.length_append] at h1
        omega
      clear ho7 hc7 hgg7 hk7 HV4
      refine hK.out _ _ (fun _ => hS7) (fun _ => ?_)
      clear hK K
      try simp only [Act.put, List.getElem_toArray, List.getElem_cons_succ, List.getElem_cons_zero, List.setIfInBounds_toArray, List.set_cons_zero, List.set_cons_succ]
      refine wpAnyU_take (i := 9) [] rfl (by as_aux_lemma => kernel_rfl) (by as_aux_lemma => kernel_rfl) (by as_aux_lemma => kernel_rfl) (by as_aux_lemma => kernel_rfl) (by as_aux_lemma => kernel_rfl) (by as_aux_lemma => kernel_rfl) (fun _ _ _ h => h) (Or.inl ⟨by rfl, (by intro W hSW; (try dsimp only at hSW); (try go_split_ands); go_simp <;> with_reducible rfl)⟩) hS7 ?_
      try simp only [Act.put, List.getElem_toArray, List.getElem_cons_succ, List.getElem_cons_zero, List.setIfInBounds_toArray, List.set_cons_zero, List.set_cons_succ]
      refine wpAnyU_done (by kernel_rfl) ?_ _
      clear hS0 hS4 hS7 HX4 HCB4 HX2 HCB hw64 hw65
      cases hw : pc.whole with
      | true =>
        have HEQ : Hid (bdK r (k + 1) = bdK r k ++ vi pg ++ vi ag ++ [1] ++ txt pc.b) := by
          unfold Hid
          have hwb : wb pc = 1 := by unfold wb; rw [hw]; rfl
          have e2 : r.cs[k]'HKR.out = pc := HPC2.out
          rw [bdK_succ r k HKR.out, e2, hwb, HPA.out.1, HPA.out.2, Int.toNat_natCast, Int.toNat_natCast]
          simp only [List.append_assoc]
        rw [hw] at HCB7d
        have q8 : w7.cell? ⟨wr.heap.size, 2, none⟩ = some (.bool true) := cell_of_row w7 _ 2 _ _ _ HCB7d.out.1
        obtain ⟨g8, cp8, w8, hr8, h81, h82, h83, h84, h85⟩ := append_byte (ty := 23) 1 (1 : Int) (by rfl) HX7d.out.own (by rw [← HM7.out]; have := HL7.out; omega) HX7d.out.size
        rw [← HM7.out] at hr8 h81
        have HX8 := Lib.hid (HX7d.out.step h81 (chg_byte h82 h85 h81.ownlt.2))
        have hk8 := cells_chg HCB7d.out.1 (chg_byte h82 h85 h81.ownlt.2) HCB7d.out.2
        have q9 : w8.cell? ⟨wr.heap.size, 3, none⟩ = some (.slice ba bn bc) := cell_of_row _ _ 3 _ _ _ hk8.1
        have hrd8 := ((HH.out.newer HB1.out.1 HX8.out.bl (Nat.le_succ _)).cs.rd _ (List.getElem_mem hkl))
        rw [HPC.out.1, HPC.out.2] at hrd8
        have ht8 := r7chunk w8 (w.heap.size + 1) _ _ _ _ (by rw [← HBN.out]; omega) HX8.out.own HX8.out.size (by rw [← HBN.out]; have := HL7.out; have := HM7.out; rw [List.length_append]; simp only [List.length_cons, List.length_nil]; omega) hrd8 (fun _ h => h)
        have HR8 := Lib.hid hr8
        have HT8 := Lib.hid ht8
        clear h81 h82 h83 h84 h85 hr8 ht8 hk8 hrd8 hw
        go_wp2_with (first
          | (at_builtin; refine wpList_append_eq rfl rfl HR8.out rfl rfl ?_; clear HR8)
          | (go_at_call 68; refine HT8.out.mono ?_; rintro e w9 ⟨g9, m9, cp9, rfl, hm9, ho9, hc9, hgg9⟩; have HX9 := Lib.hid (HX8.out.step ho9 hc9); clear hm9 ho9 hc9 hgg9))
        go_roundw
        case rel => exact ⟨k + 1, by have := HLT.out; omega, by go_num, by rw [HEQ.out]; exact HX9.out⟩
        case measure => have := HLT.out; simp [intOf]; omega
      | false =>
        have HEQ : Hid (bdK r (k + 1) = bdK r k ++ vi pg ++ vi ag ++ [0] ++ txt pc.b) := by
          unfold Hid
          have hwb : wb pc = 0 := by unfold wb; rw [hw]; rfl
          have e2 : r.cs[k]'HKR.out = pc := HPC2.out
          rw [bdK_succ r k HKR.out, e2, hwb, HPA.out.1, HPA.out.2, Int.toNat_natCast, Int.toNat_natCast]
          simp only [List.append_assoc]
        rw [hw] at HCB7d
        have q8 : w7.cell? ⟨wr.heap.size, 2, none⟩ = some (.bool false) := cell_of_row w7 _ 2 _ _ _ HCB7d.out.1
        obtain ⟨g8, cp8, w8, hr8, h81, h82, h83, h84, h85⟩ := append_byte (ty := 23) 0 (0 : Int) (by rfl) HX7d.out.own (by rw [← HM7.out]; have := HL7.out; omega) HX7d.out.size
        rw [← HM7.out] at hr8 h81
        have HX8 := Lib.hid (HX7d.out.step h81 (chg_byte h82 h85 h81.ownlt.2))
        have hk8 := cells_chg HCB7d.out.1 (chg_byte h82 h85 h81.ownlt.2) HCB7d.out.2
        have q9 : w8.cell? ⟨wr.heap.size, 3, none⟩ = some (.slice ba bn bc) := cell_of_row _ _ 3 _ _ _ hk8.1
        have hrd8 := ((HH.out.newer HB1.out.1 HX8.out.bl (Nat.le_succ _)).cs.rd _ (List.getElem_mem hkl))
        rw [HPC.out.1, HPC.out.2] at hrd8
        have ht8 := r7chunk w8 (w.heap.size + 1) _ _ _ _ (by rw [← HBN.out]; omega) HX8.out.own HX8.out.size (by rw [← HBN.out]; have := HL7.out; have := HM7.out; rw [List.length_append]; simp only [List.length_cons, List.length_nil]; omega) hrd8 (fun _ h => h)
        have HR8 := Lib.hid hr8
        have HT8 := Lib.hid ht8
        clear h81 h82 h83 h84 h85 hr8 ht8 hk8 hrd8 hw
        go_wp2_with (first
          | (at_builtin; refine wpList_append_eq rfl rfl HR8.out rfl rfl ?_; clear HR8)
          | (go_at_call 68; refine HT8.out.mono ?_; rintro e w9 ⟨g9, m9, cp9, rfl, hm9, ho9, hc9, hgg9⟩; have HX9 := Lib.hid (HX8.out.step ho9 hc9); clear hm9 ho9 hc9 hgg9))
        go_roundw
        case rel => exact ⟨k + 1, by have := HLT.out; omega, by go_num, by rw [HEQ.out]; exact HX9.out⟩
        case measure => have := HLT.out; simp [intOf]; omega
    · obtain rfl : k = n := by omega
      have HXE : Hid (OwnB wr (w.heap.size + 1) 5 (.slice ua un uc) (bodyR r)) := by
        have h9 := HSS.out.own
        rw [← HN.out, HH.out.len, bdK_all] at h9
        exact h9
      have hp : 0 < (bodyR r).length := by have := bodyR_pos r; omega
      obtain ⟨g9, c9, hv9, h91, -⟩ := HXE.out.at_ hp
      injection hv9 with e1 e2 e3
      subst e1 e2 e3
      have HBL := Lib.hid (HB1.out.1.trans (HSS.out.bl.mono (Nat.le_succ _)))
      clear hp HXE
      have HXE2 := Lib.hid (HSS.out.own)
      go_wp2
      go_ret
      refine ⟨_, _, _, rfl, rfl, ?_, HBL.out⟩
      have h9 := HXE2.out
      rw [← HN.out, HH.out.len, bdK_all] at h9
      exact ownsRow_base h9 (fun k hk => Nat.le_of_succ_le (h9.lt k hk).1)
end Mun
end

section
/- Contracts of the reference of chapter 7: a record's bytes. -/
set_option maxRecDepth 100000
set_option linter.unusedVariables false
set_option linter.unusedSimpArgs false
namespace Mun
open Go Go.RowKit
open Go.Proofs

theorem r7bytes_no {F : Foot} (w : World) (r : PR) (x : RV) (lsn : Nat) (h : RecAt F w r x) (hg : goodR r = false) :
    Calls Try.prog 23 #[rval r x, .int .u64 lsn] w fun e w' => e = .returned (.tuple #[.slice none 0 0, .int .i64 1]) ∧ Below w.heap.size w w' := by
  obtain ⟨da, dn, dc, ca, cn, cc, e1, e2, -⟩ := h.open
  have hgd := fun w1 (hb : Below w.heap.size w w1) => r7good w1 r x (h.below hb)
  unfold rval at hgd ⊢
  rw [e1, e2, hg] at hgd
  rw [e1, e2]
  have HG := Lib.hid hgd
  clear hgd h e1 e2 hg
  go_enter Try.func23, Try.ntmps23
  go_wp2_with fail
  refine (HG.out _ ((Below.refl _ _).alloc (Nat.le_refl _) _)).mono ?_
  rintro e w2 ⟨rfl, hb2⟩
  have HB : Hid (Below w.heap.size w w2) := ((Below.refl _ _).alloc (Nat.le_refl _) _).trans (hb2.mono (by simp))
  clear hb2
  go_wp2
  go_ret2
  exact ⟨rfl, HB.out⟩

theorem r7bytes_big {F : Foot} (w : World) (r : PR) (x : RV) (lsn : Nat) (h : RecAt F w r x) (hg : goodR r = true) (hsz : szR r ≤ 4194304) (hbig : 1048576 < (bodyR r).length) :
    Calls Try.prog 23 #[rval r x, .int .u64 lsn] w fun e w' => e = .returned (.tuple #[.slice none 0 0, .int .i64 2]) ∧ Below w.heap.size w w' := by
  obtain ⟨da, dn, dc, ca, cn, cc, e1, e2, -⟩ := h.open
  have hgd := fun w1 (hb : Below w.heap.size w w1) => r7good w1 r x (h.below hb)
  have hbd := fun w1 (hb : Below w.heap.size w w1) => r7body w1 r x (h.below hb) hg hsz
  unfold rval at hgd hbd ⊢
  simp only [e1, e2, hg] at hgd hbd
  rw [e1, e2]
  have HG := Lib.hid hgd
  have HD := Lib.hid hbd
  have HBG := Lib.hid hbig
  have hb0 : Below w.heap.size w (w.alloc (.cells (rcs r (.slice da dn dc) (.slice ca cn cc)) 26)) := (Below.refl _ _).alloc (Nat.le_refl _) _
  have HB0 := Lib.hid hb0
  clear hgd hbd h e1 e2 hg hsz hbig hb0
  go_enter Try.func23, Try.ntmps23
  go_wp2_with fail
  refine (HG.out _ ((Below.refl _ _).alloc (Nat.le_refl _) _)).mono ?_
  rintro e w2 ⟨rfl, hb2⟩
  obtain ⟨c0, c1, c2, c3, c4, c5⟩ := box6 (w := w) (r := r) (box_at hb2)
  have HB : Hid (Below w.heap.size w w2) := ((Below.refl _ _).alloc (Nat.le_refl _) _).trans (hb2.mono (by simp))
  clear hb2
  go_wp2_with fail
  refine (HD.out _ HB.out).mono ?_
  rintro e w3 ⟨g, n, cp, rfl, HN, -, hb3⟩
  have HB3 : Hid (Below w.heap.size w w3) := HB.out.trans (hb3.mono HB.out.size)
  have hn : (1048576 : Int) < (n : Int) := by have := HN.out; have := HBG.out; omega
  clear hb3 c0 c1 c2 c3 c4 c5
  go_wp2
  go_ret2
  exact ⟨rfl, HB3.out⟩

set_option maxHeartbeats 1000000 in
theorem r7bytes_ok {F : Foot} (w : World) (r : PR) (x : RV) (lsn : Nat) (hl : lsn < 18446744073709551616) (h : RecAt F w r x) (hg : goodR r = true) (hsz : szR r ≤ 4194304) (hbig : (bodyR r).length ≤ 1048576) :
    Calls Try.prog 23 #[rval r x, .int .u64 lsn] w (RBytesOut w (recB r lsn)) := by
  obtain ⟨da, dn, dc, ca, cn, cc, e1, e2, -⟩ := h.open
  have hgd := fun w1 (hb : Below w.heap.size w w1) => r7good w1 r x (h.below hb)
  have hbd := fun w1 (hb : Below w.heap.size w w1) => r7body w1 r x (h.below hb) hg hsz
  unfold rval at hgd hbd ⊢
  simp only [e1, e2, hg] at hgd hbd
  rw [e1, e2]
  have HG := Lib.hid hgd
  have HD := Lib.hid hbd
  have HBG := Lib.hid hbig
  have HLS := Lib.hid hl
  clear hgd hbd h e1 e2 hg hsz hbig hl
  go_enter Try.func23, Try.ntmps23
  go_wp2_with fail
  refine (HG.out _ ((Below.refl _ _).alloc (Nat.le_refl _) _)).mono ?_
  rintro e w2 ⟨rfl, hb2⟩
  obtain ⟨c0, c1, c2, c3, c4, c5⟩ := box6 (w := w) (r := r) (box_at hb2)
  have HB : Hid (Below w.heap.size w w2) := ((Below.refl _ _).alloc (Nat.le_refl _) _).trans (hb2.mono (by simp))
  clear hb2
  go_wp2_with fail
  refine (HD.out _ HB.out).mono ?_
  rintro e w3 ⟨g, n, cp, rfl, HN, ho3, hb3⟩
  have HB3 : Hid (Below w.heap.size w w3) := HB.out.trans (hb3.mono HB.out.size)
  have hn : (n : Int) ≤ 1048576 := by have := HN.out; have := HBG.out; omega
  have hl4 := refput_any w3 lsn 8 8 rfl HLS.out (by omega)
  have HL4 := Lib.hid hl4
  have HO3 := Lib.hid ho3
  clear ho3 hb3 c0 c1 c2 c3 c4 c5 hl4
  go_wp2_with fail
  refine HL4.out.mono ?_
  rintro e w4 ⟨v4, rfl, ho4, hb4⟩
  obtain ⟨g4, n4, c4, rfl, HN4, hg4, -⟩ := ho4.formN (by rw [leBytes_length]; omega)
  have hrd4 : RdB NoF w4 (.slice (some ⟨g, 0, none⟩) n cp) (bodyR r) := RdB.below (HO3.out.rd (fun _ _ => noF _)) hb4
  obtain ⟨v5, w5, hr5, h51, h52, h53, h54⟩ := append_bytes (ty := 23) ho4 hrd4 (by rw [leBytes_length]; have := HN.out; omega) hb4.size
  obtain ⟨g5, n5, c5, rfl, HN5, hg5, -⟩ := OwnB.formN h51 (by rw [List.length_append, leBytes_length]; omega)
  have hb35 : Below w3.heap.size w3 w5 := hb4.grown h52 hb4.size (fun k hk => (ho4.lt k hk).1)
  have hof := refof_any (F := NoF) w5 _ _ (h51.rd (fun _ _ => noF _))
  have hq : crcOf (leBytes 8 lsn ++ bodyR r) = sumR lsn (bodyR r) := rfl
  rw [hq] at hof
  have hs1 : ((sumR lsn (bodyR r)).toNat : Int) ≤ 4294967295 := by have := (sumR lsn (bodyR r)).isLt; omega
  have hsl : (sumR lsn (bodyR r)).toNat < 18446744073709551616 := by have := (sumR lsn (bodyR r)).isLt; omega
  obtain ⟨q, hqe⟩ : ∃ q, (sumR lsn (bodyR r)).toNat = q := ⟨_, rfl⟩
  have HQ := Lib.hid hqe
  rw [hqe] at hof hs1 hsl
  have hs0 : (0 : Int) ≤ (q : Int) := by omega
  have hn0 : (0 : Int) ≤ (n : Int) := by omega
  have hl6 := refput_any w5 n 4 4 rfl (by omega) (by omega)
  have HR5 := Lib.hid hr5
  have HOF := Lib.hid hof
  have HL6 := Lib.hid hl6
  have HB35 := Lib.hid hb35
  have HSL := Lib.hid hsl
  clear ho4 hb4 hrd4 hr5 h51 h52 h53 h54 hb35 hof hq hl6 hqe hsl
  go_wp2_with (first
    | (at_builtin; refine wpList_append_eq rfl rfl HR5.out rfl rfl ?_; clear HR5)
    | (go_at_call 51; refine HOF.out.mono ?_; rintro e w9 ⟨rfl, rfl⟩))
  refine HL6.out.mono ?_
  rintro e w6 ⟨v6, rfl, ho6, hb6⟩
  obtain ⟨g6, n6, c6, rfl, HN6, hg6, -⟩ := ho6.formN (by rw [leBytes_length]; omega)
  have hl7 := refput_any w6 q 4 4 rfl HSL.out (by omega)
  have HL7 := Lib.hid hl7
  have H6 := Lib.hid (And.intro ho6 hb6)
  clear ho6 hb6 hl7
  go_wp2_with fail
  refine HL7.out.mono ?_
  rintro e w7 ⟨v7, rfl, ho7, hb7⟩
  obtain ⟨g7, n7, c7, rfl, HN7, hg7, -⟩ := ho7.formN (by rw [leBytes_length]; omega)
  have ho67 := H6.out.1.below hb7
  have hb57 : Below w5.heap.size w5 w7 := H6.out.2.trans (hb7.mono H6.out.2.size)
  obtain ⟨v8, w8, hr8, h81, h82, h83, h84⟩ := append_bytes (ty := 23) ho67 (ho7.rd (F := NoF) (fun _ _ => noF _)) (by rw [leBytes_length, leBytes_length]; omega) hb57.size
  obtain ⟨g8, n8, c8, rfl, HN8, hg8, -⟩ := OwnB.formN h81 (by rw [List.length_append, leBytes_length, leBytes_length]; omega)
  have hb58 : Below w5.heap.size w5 w8 := hb57.grown h82 hb57.size (fun k hk => (ho67.lt k hk).1)
  have hb38 : Below w3.heap.size w3 w8 := HB35.out.trans (hb58.mono HB35.out.size)
  have hrd8 : RdB NoF w8 (.slice (some ⟨g, 0, none⟩) n cp) (bodyR r) := RdB.below (HO3.out.rd (fun _ _ => noF _)) hb38
  obtain ⟨v9, w9, hr9, h91, h92, h93, h94⟩ := append_bytes (ty := 23) h81 hrd8 (by rw [List.length_append, leBytes_length, leBytes_length]; have := HN.out; omega) hb58.size
  obtain ⟨g9, n9, c9, rfl, HN9, hg9, -⟩ := OwnB.formN h91 (by rw [List.length_append, List.length_append, leBytes_length, leBytes_length]; omega)
  have hb59 : Below w5.heap.size w5 w9 := hb58.grown h92 hb58.size (fun k hk => (h81.lt k hk).1)
  have hb39 : Below w3.heap.size w3 w9 := HB35.out.trans (hb59.mono HB35.out.size)
  have HE : Hid (leBytes 4 n ++ leBytes 4 q ++ bodyR r = recB r lsn) := by unfold recB; rw [HN.out, ← HQ.out]; rfl
  have HR8 := Lib.hid hr8
  have HR9 := Lib.hid hr9
  have H9 := Lib.hid (And.intro h91 hb39)
  clear ho7 hb7 ho67 hb57 hr8 h81 h82 h83 h84 hb58 hb38 hrd8 hr9 h91 h92 h93 h94 hb59 hb39
  go_wp2_with (first
    | (at_builtin; refine wpList_append_eq rfl rfl HR8.out rfl rfl ?_; clear HR8)
    | (at_builtin; refine wpList_append_eq rfl rfl HR9.out rfl rfl ?_; clear HR9))
  go_ret2
  refine ⟨g9, n9, c9, rfl, ?_, ?_, HB3.out.trans (H9.out.2.mono HB3.out.size)⟩
  · rw [← HE.out]; exact HN9
  · rw [← HE.out]; exact ownsRow_base H9.out.1 (fun k hk => by have := (H9.out.1.lt k hk).1; have := HB3.out.size; have := HB35.out.size; omega)
end Mun
end
