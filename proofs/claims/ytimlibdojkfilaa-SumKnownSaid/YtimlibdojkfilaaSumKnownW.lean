import Derived.Test.YtimlibdojkfilaaSumJ
set_option maxRecDepth 100000
set_option linter.unusedVariables false
namespace Mun
open Go Go.RowKit
open Go.Proofs

theorem lit_toList : (strOf [0, 2, 1]).toList = [0, 2, 1] := strOf_toList _
theorem lit_toList' : (ByteArray.mk #[0, 2, 1]).toList = [0, 2, 1] := strOf_toList [0, 2, 1]

set_option maxHeartbeats 2000000 in
theorem known_all (w : World) : Calls Try.prog 6 #[] w fun e w' => e = .returned (.bool true) ∧ Below w.heap.size w w' := by
  have kc := conv_bytes
  have C0 : Hid (((crcOf []).toNat : Int) = 0) := by show _ = _; decide +kernel
  have C1 : Hid (((crcOf [49, 50, 51, 52, 53]).toNat : Int) = 3421846044) := by show _ = _; decide +kernel
  have C2 : Hid (((crcOf [54, 55, 56, 57]).toNat : Int) = 2646261639) := by show _ = _; decide +kernel
  have C3 : Hid (((crcOf [49, 50, 51, 52, 53, 54, 55, 56, 57]).toNat : Int) = 3421780262) := by show _ = _; decide +kernel
  have CJ : Hid (((crcIter (8 * 4) 3421846044#32 ^^^ 2646261639#32).toNat : Int) = 3421780262) := by show _ = _; decide +kernel
  have CM : Hid (((crcMore 3421846044#32 [54, 55, 56, 57]).toNat : Int) = 3421780262) := by show _ = _; decide +kernel
  have G1 : Hid (liesB [(0 : UInt8), 0, 0].length 1 2 = true) := by show _ = _; decide
  have G2 : Hid (liesB [(0 : UInt8)].length 0 1 = true) := by show _ = _; decide
  have G3 : Hid (liesB [(0 : UInt8)].length 0 3 = false) := by show _ = _; decide
  have heq := lit_toList
  go_enter Try.func6, Try.ntmps6
  go_wp2_with fail
  refine (of_any (F := NoF) _ _ [49, 50, 51, 52, 53] 3421846044 C1.out (lit_rd _ _ _ [49, 50, 51, 52, 53] rfl _ _ _ (by simp) rfl rfl (by simp [maxLen]) (noF _))).mono ?_
  rintro e w' ⟨rfl, rfl⟩
  go_wp2_with fail
  refine (of_any (F := NoF) _ _ [54, 55, 56, 57] 2646261639 C2.out (lit_rd _ _ _ [54, 55, 56, 57] rfl _ _ _ (by simp) rfl rfl (by simp [maxLen]) (noF _))).mono ?_
  rintro e w' ⟨rfl, rfl⟩
  go_wp2_with fail
  refine (join_ok _ _ _ 4 3421846044#32 2646261639#32 4 (by decide) (by decide) rfl (by omega)).mono ?_
  rintro e w1 ⟨rfl, hb1⟩
  rw [CJ.out]
  go_wp2_with fail
  refine (put_ok (F := NoF) _ _ [0, 0, 0] 1 2 258 1 2 [0, 2, 1] rfl rfl (by decide) (lit_rd _ _ _ [0, 0, 0] rfl _ _ _ (by simp) rfl rfl (by simp [maxLen]) (noF _)) (by simp) G1.out (by decide)).mono ?_
  rintro e w' ⟨rfl, rfl⟩
  have hX1 : RdB NoF ((w1.alloc (.cells #[.int .u8 0, .int .u8 0, .int .u8 0] 5)).alloc (bobj [0, 2, 1])) (.slice (some ⟨w1.heap.size + 1, 0, none⟩) 3 3) [0, 2, 1] := by
    have := bobj_rd (F := NoF) (w1.alloc (.cells #[.int .u8 0, .int .u8 0, .int .u8 0] 5)) [0, 2, 1] 3 rfl (by simp [maxLen]) (noF _)
    rw [World.size_alloc] at this
    exact this
  have HX1 := Lib.hid hX1
  clear hX1
  go_wp2_with fail
  refine (put_big (F := NoF) _ _ [0] 0 1 256 1 rfl (lit_rd _ _ _ [0] rfl _ _ _ (by simp) rfl rfl (by simp [maxLen]) (noF _)) G2.out (by omega) (by decide)).mono ?_
  rintro e w' ⟨rfl, rfl⟩
  go_wp2_with fail
  refine (put_no (F := NoF) _ _ [0] 0 3 1 (lit_rd _ _ _ [0] rfl _ _ _ (by simp) rfl rfl (by simp [maxLen]) (noF _)) (by omega) (by omega) G3.out).mono ?_
  rintro e w' ⟨rfl, rfl⟩
  go_wp2_with fail
  refine (awake1 _).mono ?_
  rintro e w2 ⟨rfl, hb2⟩
  have hX2 : RdB NoF w2 (.slice (some ⟨w1.heap.size + 1, 0, none⟩) 3 3) [0, 2, 1] := by
    refine RdB.below ?_ hb2
    repeat (first | exact HX1.out | refine RdB.alloc ?_ _)
  go_wp2_with fail
  refine (of_any (F := NoF) _ _ [] 0 C0.out (RdB.nil _ _)).mono ?_
  rintro e w' ⟨rfl, rfl⟩
  go_wp2_with fail
  refine (of_any (F := NoF) _ _ [49, 50, 51, 52, 53, 54, 55, 56, 57] 3421780262 C3.out (lit_rd _ _ _ [49, 50, 51, 52, 53, 54, 55, 56, 57] rfl _ _ _ (by simp) rfl rfl (by simp [maxLen]) (noF _))).mono ?_
  rintro e w' ⟨rfl, rfl⟩
  go_wp2_with fail
  refine (of_any (F := NoF) _ _ [49, 50, 51, 52, 53] 3421846044 C1.out (lit_rd _ _ _ [49, 50, 51, 52, 53] rfl _ _ _ (by simp) rfl rfl (by simp [maxLen]) (noF _))).mono ?_
  rintro e w' ⟨rfl, rfl⟩
  go_wp2_with fail
  refine (more_any (F := NoF) _ 3421846044 3421846044#32 _ [54, 55, 56, 57] (by decide) (lit_rd _ _ _ [54, 55, 56, 57] rfl _ _ _ (by simp) rfl rfl (by simp [maxLen]) (noF _))).mono ?_
  rintro e w9 ⟨rfl, hw9⟩
  have hX9 : RdB NoF w9 (.slice (some ⟨w1.heap.size + 1, 0, none⟩) 3 3) [0, 2, 1] := by
    rw [← hw9]
    repeat (first | exact hX2 | refine RdB.alloc ?_ _)
  have hB9 : Below w.heap.size w w9 := by
    rw [← hw9]
    have h1 : Below w.heap.size w w1 := Below.trans (below_more (below_more (Below.refl _ _) _) _) (hb1.mono (below_more (below_more (Below.refl _ _) _) _).size)
    have h2 : Below w1.heap.size w1 w2 := Below.trans (by repeat (first | exact Below.refl _ _ | refine below_more ?_ _)) (hb2.mono (by simp; omega))
    have h3 := h1.trans (h2.mono h1.size)
    repeat (first | exact h3 | refine below_more ?_ _)
  have hs := str_bytes hX9
  clear hw9
  rw [CM.out]
  go_wp2_with fail
  go_ret
  exact ⟨rfl, hB9⟩
end Mun
