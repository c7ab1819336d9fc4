/- Contracts of Body: a sum that does not fit; a record that stands well. -/
import Derived.Test.YtoblajbffnkkiaaRecK
set_option maxRecDepth 100000
set_option linter.unusedVariables false
set_option linter.unusedSimpArgs false
namespace Mun
open Go Go.RowKit
open Go.Proofs

def noCs : Array Value := #[.int .i64 0, .int .u64 0, .int .u64 0, .int .u64 0, .slice none 0 0, .slice none 0 0]
theorem noCs_one : noCs.all (·.oneCell') = true := by simp [noCs, Value.oneCell']

section
variable {F : Foot} (w : World) (v : Value) (l : List UInt8) (A : Nat) (lsn : Nat)

set_option maxHeartbeats 1000000 in
theorem body_sum (hv : RdB F w v l) (hln : lsn < 18446744073709551616) (hA : A + 8 + leNat ((l.drop A).take 4) ≤ l.length) (hsz : leNat ((l.drop A).take 4) ≤ 1048576)
    (hrest : leNat ((l.drop (A + 4)).take 4) ≠ (sumR lsn ((l.drop (A + 8)).take (leNat ((l.drop A).take 4)))).toNat) : Calls Try.prog 11 #[v, .int .i64 A, .int .u64 lsn] w (BodyNo w 4) := by
  obtain ⟨a, n, c, rfl, HN, hnc, hcm⟩ := hv.formN
  have t0 : (0 : Int) ≤ (A : Int) := by omega
  have t1 : ¬ (n : Int) < (A : Int) := by have := HN.out; omega
  have t3 : (n : Int) ≤ 9223372036854775807 := by unfold maxLen at hcm; omega
  have t5 : (A : Int) ≤ (n : Int) := by omega
  have t6 : ¬ n < A := by omega
  have t7 : ¬ (A : Int) < 0 := by omega
  have t2 : ¬ ((n : Int) - (A : Int) < 8) := by have := HN.out; omega
  have t8 : (A : Int) + 8 ≤ 9223372036854775807 := by have := HN.out; omega
  obtain ⟨w1, hw1⟩ : ∃ w1, w.alloc (.cells #[.int .i64 0, .int .u64 0, .int .u64 0, .int .u64 0, .slice none 0 0, .slice none 0 0] 26) = w1 := ⟨_, rfl⟩
  have hb1 : Below w.heap.size w w1 := by rw [← hw1]; exact (Below.refl _ _).alloc (Nat.le_refl _) _
  have hbk : w1.heap[w.heap.size]? = some (.cells #[.int .i64 0, .int .u64 0, .int .u64 0, .int .u64 0, .slice none 0 0, .slice none 0 0] 26 (0, 0)) := by rw [← hw1]; exact heap_alloc_new w _
  have hv1 := hv.below hb1
  obtain ⟨s, hs⟩ : ∃ s, leNat ((l.drop A).take 4) = s := ⟨_, rfl⟩
  obtain ⟨t, ht⟩ : ∃ t, leNat ((l.drop (A + 4)).take 4) = t := ⟨_, rfl⟩
  rw [hs] at hsz hrest hA
  try rw [hs]
  obtain ⟨a1, c1, hr1, hrd1⟩ := slice_bytes hv1 A (A + 4) (A : Int) ((A : Int) + 4) rfl (by omega) (by omega) (by omega)
  rw [show A + 4 - A = 4 by omega] at hr1 hrd1
  have hwd1 := word_any w1 _ _ hrd1 (by rw [List.length_take]; omega)
  obtain ⟨a2, c2, hr2, hrd2⟩ := slice_bytes hv1 (A + 4) (A + 8) ((A : Int) + 4) ((A : Int) + 8) (by omega) (by omega) (by omega) (by omega)
  rw [show A + 8 - (A + 4) = 4 by omega] at hr2 hrd2
  have hwd2 := word_any w1 _ _ hrd2 (by rw [List.length_take]; omega)
  obtain ⟨a3, c3, hr3, hrd3⟩ := slice_bytes hv1 (A + 8) (A + 8 + s) ((A : Int) + 8) ((A : Int) + 8 + (s : Int)) (by omega) (by omega) (by omega) (by omega)
  rw [show A + 8 + s - (A + 8) = s by omega] at hr3 hrd3
  obtain ⟨x, hx⟩ : ∃ x, (l.drop (A + 8)).take s = x := ⟨_, rfl⟩
  rw [hx] at hrd3 hrest
  have ht32 := le4_lt ((l.drop (A + 4)).take 4) (by rw [List.length_take]; omega)
  rw [hs] at hwd1
  rw [ht] at hwd2 ht32 hrest
  have hsm := summed_any w1 lsn _ x hrd3 hln
  obtain ⟨q, hq⟩ : ∃ q, (sumR lsn x).toNat = q := ⟨_, rfl⟩
  rw [hq] at hsm hrest
  have s0 : (0 : Int) ≤ (s : Int) := by omega
  have s1 : (s : Int) ≤ 1048576 := by omega
  have s2 : ¬ (1048576 : Int) < (s : Int) := by omega
  have s3 : ¬ ((n : Int) - (A : Int) - 8 < (s : Int)) := by have := HN.out; omega
  have s4 : (A : Int) + 8 + (s : Int) ≤ (n : Int) := by have := HN.out; omega
  have z1 : decide ((1048576 : Int) < (s : Int)) = false := decide_eq_false s2
  have z2 : decide ((n : Int) - (A : Int) - 8 < (s : Int)) = false := decide_eq_false s3
  have z3 : decide (1048576 < s) = false := decide_eq_false (by omega)
  have u0 : (0 : Int) ≤ (t : Int) := by omega
  have u1 : IntKind.u32.wrap (t : Int) = (t : Int) := by rw [IntKind.wrap_u32]; omega
  have HBK := Lib.hid hbk
  have HB1 := Lib.hid hb1
  have HW1 := Lib.hid hwd1
  have HW2 := Lib.hid hwd2
  have HSM := Lib.hid hsm
  have HX := Lib.hid hrd3
  have hre := hrest
  have v1 : ((t : Int) != (q : Int)) = true := by simp; omega
  have v2 : (t != q) = true := by simpa using hre
  clear s2 s3 hv hA hsz hln hnc hcm hv1 hrd1 hrd2 hrd3 hwd1 hwd2 hs ht hx ht32 hsm hq hb1 hbk hrest hre
  go_enter Try.func11, Try.ntmps11
  go_wp2_with fail
  refine HW1.out.mono ?_
  rintro e w2 ⟨rfl, rfl⟩
  go_wp2_with fail
  refine HW2.out.mono ?_
  rintro e w2 ⟨rfl, rfl⟩
  go_wp2_with fail
  refine HSM.out.mono ?_
  rintro e w5 ⟨rfl, hb5⟩
  have k5 : w5.heap[w.heap.size]? = some (.cells noCs 26 (0, 0)) := (hb5.block _ (lt_of_block HBK.out)).trans HBK.out
  have hself := setRow_self w5 w.heap.size _ _ _ k5
  have HK5 := Lib.hid k5
  have HSELF := Lib.hid hself
  have HB5 : Hid (Below w.heap.size w w5) := HB1.out.trans (hb5.mono HB1.out.size)
  clear hw1 hb5 k5 hself
  go_wp2_with (refine wpList_store_row rfl _ _ _ rfl w.heap.size noCs rfl rfl _ _ HK5.out infoR rfl noCs_one ?_; rw [HSELF.out])
  have q0 : w5.cell? ⟨w.heap.size, 0, none⟩ = some (.int .i64 0) := cell_of_row _ _ 0 _ _ _ HK5.out
  have q1 : w5.cell? ⟨w.heap.size, 1, none⟩ = some (.int .u64 0) := cell_of_row _ _ 1 _ _ _ HK5.out
  have q2 : w5.cell? ⟨w.heap.size, 2, none⟩ = some (.int .u64 0) := cell_of_row _ _ 2 _ _ _ HK5.out
  have q3 : w5.cell? ⟨w.heap.size, 3, none⟩ = some (.int .u64 0) := cell_of_row _ _ 3 _ _ _ HK5.out
  have q4 : w5.cell? ⟨w.heap.size, 4, none⟩ = some (.slice none 0 0) := cell_of_row _ _ 4 _ _ _ HK5.out
  have q5 : w5.cell? ⟨w.heap.size, 5, none⟩ = some (.slice none 0 0) := cell_of_row _ _ 5 _ _ _ HK5.out
  refine bodyPost_ret (by simp [results, Try.results11, go_sem, q0, q1, q2, q3, q4, q5]; try rfl) rfl ?_
  exact ⟨rfl, HB5.out⟩

/-- what Body hands back where a record stands -/
def BodyYes (w : World) (r : PR) (k : Int) (e : Ending) (w' : World) : Prop := ∃ x, e = .returned (.tuple #[rval r x, .int .i64 k, .int .i64 0]) ∧ RecAt (OldF w.heap.size) w' r x ∧ Below w.heap.size w w'

set_option maxHeartbeats 2000000 in
theorem body_ok' (r : PR) (hg : goodR r = true) (htx : r.tx < 18446744073709551616) (hpv : r.prev < 18446744073709551616) (hnx : r.next < 18446744073709551616)
    (hv : RdB F w v l) (hln : lsn < 18446744073709551616) (hA : A + 8 + leNat ((l.drop A).take 4) ≤ l.length) (hsz : leNat ((l.drop A).take 4) ≤ 1048576)
    (hrest : leNat ((l.drop (A + 4)).take 4) = (sumR lsn ((l.drop (A + 8)).take (leNat ((l.drop A).take 4)))).toNat ∧ (l.drop (A + 8)).take (leNat ((l.drop A).take 4)) = bodyR r) :
    Calls Try.prog 11 #[v, .int .i64 A, .int .u64 lsn] w (BodyYes w r ((A : Int) + 8 + ((leNat ((l.drop A).take 4) : Nat) : Int))) := by
  obtain ⟨a, n, c, rfl, HN, hnc, hcm⟩ := hv.formN
  have t0 : (0 : Int) ≤ (A : Int) := by omega
  have t1 : ¬ (n : Int) < (A : Int) := by have := HN.out; omega
  have t3 : (n : Int) ≤ 9223372036854775807 := by unfold maxLen at hcm; omega
  have t5 : (A : Int) ≤ (n : Int) := by omega
  have t6 : ¬ n < A := by omega
  have t7 : ¬ (A : Int) < 0 := by omega
  have t2 : ¬ ((n : Int) - (A : Int) < 8) := by have := HN.out; omega
  have t8 : (A : Int) + 8 ≤ 9223372036854775807 := by have := HN.out; omega
  obtain ⟨w1, hw1⟩ : ∃ w1, w.alloc (.cells #[.int .i64 0, .int .u64 0, .int .u64 0, .int .u64 0, .slice none 0 0, .slice none 0 0] 26) = w1 := ⟨_, rfl⟩
  have hb1 : Below w.heap.size w w1 := by rw [← hw1]; exact (Below.refl _ _).alloc (Nat.le_refl _) _
  have hbk : w1.heap[w.heap.size]? = some (.cells #[.int .i64 0, .int .u64 0, .int .u64 0, .int .u64 0, .slice none 0 0, .slice none 0 0] 26 (0, 0)) := by rw [← hw1]; exact heap_alloc_new w _
  have hv1 := hv.below hb1
  obtain ⟨s, hs⟩ : ∃ s, leNat ((l.drop A).take 4) = s := ⟨_, rfl⟩
  obtain ⟨t, ht⟩ : ∃ t, leNat ((l.drop (A + 4)).take 4) = t := ⟨_, rfl⟩
  rw [hs] at hsz hrest hA
  try rw [hs]
  obtain ⟨a1, c1, hr1, hrd1⟩ := slice_bytes hv1 A (A + 4) (A : Int) ((A : Int) + 4) rfl (by omega) (by omega) (by omega)
  rw [show A + 4 - A = 4 by omega] at hr1 hrd1
  have hwd1 := word_any w1 _ _ hrd1 (by rw [List.length_take]; omega)
  obtain ⟨a2, c2, hr2, hrd2⟩ := slice_bytes hv1 (A + 4) (A + 8) ((A : Int) + 4) ((A : Int) + 8) (by omega) (by omega) (by omega) (by omega)
  rw [show A + 8 - (A + 4) = 4 by omega] at hr2 hrd2
  have hwd2 := word_any w1 _ _ hrd2 (by rw [List.length_take]; omega)
  obtain ⟨a3, c3, hr3, hrd3⟩ := slice_bytes hv1 (A + 8) (A + 8 + s) ((A : Int) + 8) ((A : Int) + 8 + (s : Int)) (by omega) (by omega) (by omega) (by omega)
  rw [show A + 8 + s - (A + 8) = s by omega] at hr3 hrd3
  obtain ⟨x, hx⟩ : ∃ x, (l.drop (A + 8)).take s = x := ⟨_, rfl⟩
  rw [hx] at hrd3 hrest
  have ht32 := le4_lt ((l.drop (A + 4)).take 4) (by rw [List.length_take]; omega)
  rw [hs] at hwd1
  rw [ht] at hwd2 ht32 hrest
  have hsm := summed_any w1 lsn _ x hrd3 hln
  obtain ⟨q, hq⟩ : ∃ q, (sumR lsn x).toNat = q := ⟨_, rfl⟩
  rw [hq] at hsm hrest
  have s0 : (0 : Int) ≤ (s : Int) := by omega
  have s1 : (s : Int) ≤ 1048576 := by omega
  have s2 : ¬ (1048576 : Int) < (s : Int) := by omega
  have s3 : ¬ ((n : Int) - (A : Int) - 8 < (s : Int)) := by have := HN.out; omega
  have s4 : (A : Int) + 8 + (s : Int) ≤ (n : Int) := by have := HN.out; omega
  have z1 : decide ((1048576 : Int) < (s : Int)) = false := decide_eq_false s2
  have z2 : decide ((n : Int) - (A : Int) - 8 < (s : Int)) = false := decide_eq_false s3
  have z3 : decide (1048576 < s) = false := decide_eq_false (by omega)
  have u0 : (0 : Int) ≤ (t : Int) := by omega
  have u1 : IntKind.u32.wrap (t : Int) = (t : Int) := by rw [IntKind.wrap_u32]; omega
  have HBK := Lib.hid hbk
  have HB1 := Lib.hid hb1
  have HW1 := Lib.hid hwd1
  have HW2 := Lib.hid hwd2
  have HSM := Lib.hid hsm
  have HX := Lib.hid hrd3
  have hre := hrest
  have v1 : ((t : Int) != (q : Int)) = false := by simp; omega
  have v2 : (t != q) = false := by simpa using hre.1
  have hbl : (bodyR r).length ≤ 1048576 := by rw [← hre.2, ← hx, List.length_take]; omega
  have hpa := fun W (hW : Below w1.heap.size w1 W) => parsed_any W _ r hg hbl htx hpv hnx (by rw [← hre.2]; exact hrd3.below hW)
  have HPA := Lib.hid hpa
  clear hpa hbl htx hpv hnx hg
  clear s2 s3 hv hA hsz hln hnc hcm hv1 hrd1 hrd2 hrd3 hwd1 hwd2 hs ht hx ht32 hsm hq hb1 hbk hrest hre
  go_enter Try.func11, Try.ntmps11
  go_wp2_with fail
  refine HW1.out.mono ?_
  rintro e w2 ⟨rfl, rfl⟩
  go_wp2_with fail
  refine HW2.out.mono ?_
  rintro e w2 ⟨rfl, rfl⟩
  go_wp2_with fail
  refine HSM.out.mono ?_
  rintro e w5 ⟨rfl, hb5⟩
  have HB5 := Lib.hid hb5
  clear hb5 hw1
  go_wp2_with fail
  refine (HPA.out w5 HB5.out).mono ?_
  rintro e w6 ⟨x2, rfl, hrec, hb6⟩
  obtain ⟨da, dn, dc, ca, cn, cc, e1, e2, -⟩ := hrec.open
  have hb16 : Below w1.heap.size w1 w6 := HB5.out.trans (hb6.mono HB5.out.size)
  have k6 : w6.heap[w.heap.size]? = some (.cells noCs 26 (0, 0)) := (hb16.block _ (lt_of_block HBK.out)).trans HBK.out
  obtain ⟨w7, hw7⟩ : ∃ w7, w6.setRow w.heap.size (rcs r (.slice da dn dc) (.slice ca cn cc)) = w7 := ⟨_, rfl⟩
  have k7 : w7.heap[w.heap.size]? = some (.cells (rcs r (.slice da dn dc) (.slice ca cn cc)) 26 (0, 0)) := by rw [← hw7]; exact setRow_blk k6
  have hself := setRow_self w7 w.heap.size _ _ _ k7
  have h1c : (rcs r (.slice da dn dc) (.slice ca cn cc)).all (·.oneCell') = true := by simp [rcs, Value.oneCell']
  have hlt5 : w.heap.size < w5.heap.size := Nat.lt_of_lt_of_le (lt_of_block HBK.out) HB5.out.size
  have hrec7 : RecAt (OldF w.heap.size) w7 r x2 := hrec.keep (fun k hk hn => by rw [← hw7]; exact setRow_other (fun e => hn (by unfold OldF; omega))) (fun k hk h => by unfold OldF at *; omega)
  have hs7 : w7.heap.size = w6.heap.size := by rw [← hw7]; simp [World.setRow]
  have hb7 : Below w.heap.size w w7 := by
    have hb := HB1.out.trans (hb16.mono HB1.out.size)
    exact ⟨by rw [← hw7]; exact hb.os, by rw [← hw7]; exact hb.tape, by rw [← hw7]; exact hb.output, by rw [hs7]; exact hb.size, fun k hk => by rw [← hw7, setRow_other (by omega)]; exact hb.block k hk⟩
  have HK6 := Lib.hid k6
  have HK7 := Lib.hid k7
  have HSELF := Lib.hid hself
  have H1C := Lib.hid h1c
  have HREC := Lib.hid hrec7
  have HB7 := Lib.hid hb7
  have HW7 := Lib.hid hw7
  have HE := Lib.hid (And.intro e1 e2)
  unfold rval
  rw [e1, e2]
  clear hrec hb6 e1 e2 hb16 k6 hw7 k7 hself h1c hlt5 hrec7 hs7 hb7
  go_wp2_with (first
    | (refine wpList_store_row rfl _ _ _ rfl w.heap.size (rcs r (.slice da dn dc) (.slice ca cn cc)) rfl rfl _ _ HK6.out infoR rfl H1C.out ?_; rw [HW7.out])
    | (refine wpList_load_row rfl _ _ rfl w.heap.size rfl _ _ (0, 0) _ HK7.out Try.underlying26 rfl infoR ?_)
    | (refine wpList_store_row rfl _ _ _ rfl w.heap.size (rcs r (.slice da dn dc) (.slice ca cn cc)) rfl rfl _ _ HK7.out infoR rfl H1C.out ?_; rw [HSELF.out]))
  obtain ⟨q0, q1, q2, q3, q4, q5⟩ := box6 (w := w) HK7.out
  refine bodyPost_ret (by simp [results, Try.results11, go_sem, q0, q1, q2, q3, q4, q5]; try rfl) rfl ?_
  exact ⟨x2, by unfold rval; rw [HE.out.1, HE.out.2], HREC.out, HB7.out⟩
end
end Mun
