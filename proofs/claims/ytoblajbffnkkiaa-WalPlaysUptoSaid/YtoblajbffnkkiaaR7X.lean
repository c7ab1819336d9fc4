/- The reference of chapter 7: Body at a tail that is shorter than its record. -/
import Derived.Test.YtoblajbffnkkiaaR7B
set_option maxRecDepth 100000
set_option linter.unusedVariables false
set_option linter.unusedSimpArgs false
namespace Mun
open Go Go.RowKit
open Go.Proofs

def Bd7No (w : World) (e : Ending) (w' : World) : Prop := e = .returned (.tuple #[noR, .int .i64 0, .bool false]) ∧ Below w.heap.size w w'

set_option maxHeartbeats 4000000 in
theorem r7body_cut {F : Foot} (w : World) (v : Value) (l : List UInt8) (A : Nat) (r : PR) (lsn k : Nat) (pre : List UInt8) (hv : RdB F w v l) (hlp : l = pre ++ (recB r lsn).take k) (hA : A = pre.length) (hk : k < recLen r) (hbig : (bodyR r).length ≤ 1048576) (hl : l.length ≤ 1073741824) (lsn' : Nat) :
    Calls Try.prog 58 #[v, .int .i64 A, .int .u64 lsn'] w (Bd7No w) := by
  obtain ⟨ba, bn, bc, rfl, HBN, -, -⟩ := hv.formN
  obtain ⟨s, hs⟩ : ∃ s, (bodyR r).length = s := ⟨_, rfl⟩
  have hs6 := bodyR_pos r
  have hlen : l.length = A + k := by rw [hlp, List.length_append, List.length_take, recB_len, Nat.min_eq_left (Nat.le_of_lt hk), hA]
  have hbn : bn = A + k := by rw [HBN.out, hlen]
  have hks : k < 8 + s := by rw [← hs]; exact hk
  have hget : 9 ≤ k → leNat ((l.drop A).take 4) = s := fun h8 => by
    have e : (l.drop A).take 4 = (recB r lsn).take 4 := by
      rw [hlp, hA, List.drop_left, List.take_take]
      congr 1
      omega
    have e2 := (rec_parts (recB r lsn) 0 r lsn [] (by simp) hbig).1
    rw [List.drop_zero] at e2
    rw [e, e2, hs]
  have hgt := fun (h8 : 9 ≤ k) (W : World) (hW : Below w.heap.size w W) => refget_any W (.slice ba bn bc) l (A : Int) 4 A 4 (s : Int) rfl rfl (by rw [hget h8]) (hv.below hW) (by omega) (by decide)
  rw [hs] at hs6 hbig
  obtain ⟨wa, hwa⟩ : ∃ wa, (w.alloc (.cells #[.int .i64 0, .int .u64 0, .int .u64 0, .int .u64 0, .slice none 0 0, .slice none 0 0] 26)).alloc (.cells #[.int .i64 0, .int .u64 0, .int .u64 0, .int .u64 0, .slice none 0 0, .slice none 0 0] 26) = wa := ⟨_, rfl⟩
  have hba : Below w.heap.size w wa := by rw [← hwa]; exact below_more (below_more (Below.refl _ _) _) _
  have ka6 : wa.heap[w.heap.size]? = some (.cells noCs 26 (0, 0)) := by
    rw [← hwa, heap_alloc_old _ _ (by rw [World.size_alloc]; omega)]; exact heap_alloc_new w _
  have ka9 : wa.heap[w.heap.size + 1]? = some (.cells noCs 26 (0, 0)) := by
    rw [← hwa, show w.heap.size + 1 = (w.alloc (.cells noCs 26)).heap.size by rw [World.size_alloc]]; exact heap_alloc_new _ _
  have hA0 : (0 : Int) ≤ (A : Int) := by omega
  have hAi : (A : Int) ≤ 1073741824 := by omega
  have hbi : (bn : Int) ≤ 1073741824 := by omega
  have hb0 : (0 : Int) ≤ (bn : Int) := by omega
  have HBA := Lib.hid hba
  have HWA := Lib.hid hwa
  have KA6 := Lib.hid ka6
  have KA9 := Lib.hid ka9
  by_cases h9 : k < 9
  · have hi1 : ((bn : Int) - (A : Int) < 9) := by omega
    have hself := setRow_self wa w.heap.size _ _ _ ka6
    have HSELF := Lib.hid hself
    obtain ⟨q0, q1, q2, q3, q4, q5⟩ := no_cells ka6
    have HQ := Lib.hid (And.intro q0 (And.intro q1 (And.intro q2 (And.intro q3 (And.intro q4 q5)))))
    clear hv hlp hA hk hbig hl hs6 hlen hbn hks hget hgt hba hwa ka6 ka9 hself q0 q1 q2 q3 q4 q5 h9
    go_enter Try.func58, Try.ntmps58
    go_wp2_with (first | (rw [HWA.out]; refine wpList_load_row rfl _ _ rfl (w.heap.size + 1) rfl _ _ (0, 0) _ KA9.out Try.underlying26 rfl infoR ?_) | (refine wpList_store_row rfl _ _ _ rfl w.heap.size noCs rfl rfl _ _ KA6.out infoR rfl noCs_one ?_; rw [HSELF.out]) | fail)
    obtain ⟨q0, q1, q2, q3, q4, q5⟩ := HQ.out
    refine bodyPost_ret (by simp [results, Try.results58, go_sem, q0, q1, q2, q3, q4, q5]; try rfl) rfl ?_
    exact ⟨rfl, HBA.out⟩
  · have h9' : 9 ≤ k := by omega
    have hgt2 := hgt h9'
    have HGT := Lib.hid hgt2
    have hi1 : ¬ ((bn : Int) - (A : Int) < 9) := by omega
    have hi2 : ¬ ((s : Int) > 1048576) := by omega
    have hi3 : ¬ ((s : Int) < 1) := by omega
    have hi4 : ((bn : Int) - (A : Int) - 8 < (s : Int)) := by omega
    have hcs : IntKind.i64.wrap (s : Int) = (s : Int) := by rw [IntKind.wrap_i64]; omega
    have hs0 : (0 : Int) < (s : Int) := by omega
    have hsi : (s : Int) ≤ 1048576 := by omega
    clear hv hlp hA hk hbig hl hs6 hlen hbn hks hget hgt hgt2 hba hwa ka6 ka9 h9 h9'
    go_enter Try.func58, Try.ntmps58
    go_wp2_with fail
    try rw [HWA.out]
    refine (HGT.out wa HBA.out).mono ?_
    rintro e w1 ⟨rfl, hw1⟩
    rw [← hw1]
    clear hw1 HGT HWA
    have hself := setRow_self wa w.heap.size _ _ _ KA6.out
    have HSELF := Lib.hid hself
    clear hself
    go_wp2_with (first | (refine wpList_load_row rfl _ _ rfl (w.heap.size + 1) rfl _ _ (0, 0) _ KA9.out Try.underlying26 rfl infoR ?_) | (refine wpList_store_row rfl _ _ _ rfl w.heap.size noCs rfl rfl _ _ KA6.out infoR rfl noCs_one ?_; rw [HSELF.out]) | fail)
    obtain ⟨q0, q1, q2, q3, q4, q5⟩ := no_cells KA6.out
    refine bodyPost_ret (by simp [results, Try.results58, go_sem, q0, q1, q2, q3, q4, q5]; try rfl) rfl ?_
    exact ⟨rfl, HBA.out⟩
end Mun
