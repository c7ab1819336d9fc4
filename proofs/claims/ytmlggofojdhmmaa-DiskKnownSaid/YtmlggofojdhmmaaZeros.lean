/- append(x, make([]byte, n)...): noughts behind a row of the call's own; bytes padded. -/
import Derived.Test.YtmlggofojdhmmaaBase
import Derived.Lib.AppendZerosOnto
import Derived.Test.YtmlggofojdhmmaaLaw
set_option maxRecDepth 100000
set_option linter.unusedVariables false
namespace Mun
open Go Go.RowKit
open Go.Proofs

theorem run_append_room_zeros {P : Program} (w : World) (t tn ty e : TypeId) (i : TypeInfo) (z : Value) (kq kn : IntKind) (ht : P.underlying t = some (.slice e)) (htn : P.underlying tn = some (.int kn)) (hi : P.info? e = some i) (hz : i.zero = some z)
    (g sLen sCap : Nat) (cur : Array Value) (hg : w.heap[g]? = some (.cells cur e (0, 0))) (k : Nat) (h0 : 0 < k) (hs : 0 < i.size) (h48 : k * i.bytes ≤ 281474976710656) (hk63 : (k : Int) ≤ 9223372036854775807)
    (h1 : ∀ u ∈ (Builtin.zeroCells z.cells k).toList, u.oneCell' = true) (hroom : sLen + k ≤ sCap) (hfit : sLen * i.size + (Builtin.zeroCells z.cells k).toList.length ≤ cur.size) :
    (Builtin.append_ #[t, tn] ty #[.slice (some ⟨g, 0, none⟩) sLen sCap, .int kq k]).run P w =
      .ok (.slice (some ⟨g, 0, none⟩) (sLen + k) sCap) (w.setRow g (cur.toList.take (sLen * i.size) ++ (Builtin.zeroCells z.cells k).toList ++ cur.toList.drop (sLen * i.size + (Builtin.zeroCells z.cells k).toList.length)).toArray) := by
  have hst := run_storeCells_at P g (sLen * i.size) e (Builtin.zeroCells z.cells k).toList 0 cur w hg (by simpa using hfit) h1
  simp only [Nat.add_zero] at hst
  have hk : k ≠ 0 := by omega
  have hw : IntKind.i64.wrap (k : Int) = k := by rw [IntKind.wrap_i64]; omega
  have h48i : ¬ (281474976710656 < (k : Int) * (i.bytes : Int)) := by
    rw [← Int.natCast_mul]
    omega
  have hneg : ¬ ((k : Int) < 0) := by omega
  have hns : ¬ (k * i.size = 0) := Nat.mul_ne_zero hk (by omega)
  simp [Builtin.append_, run_underlying ht, run_underlying htn, Go.sizeOf, typeInfo, zeroValue, hi, hz, asInt, asIntOf, hw, hroom, hneg, hns, h48i, Addr.add_lit, hst]

theorem zeroCells_u8 (k : Nat) : (Builtin.zeroCells (Value.int .u8 0).cells k).toList = bv (List.replicate k 0) := by
  simp only [Builtin.zeroCells, Value.cells, bv]
  apply List.ext_getElem?
  intro i
  by_cases h : i < k
  · simp [h, Nat.mod_one]
  · simp [h]

/-- noughts behind bytes of the call's own -/
theorem append_zeros {w : World} {base : Nat} {ty : TypeId} {g n cap : Nat} {xs : List UInt8} (hown : OwnB w base 5 (.slice (some ⟨g, 0, none⟩) n cap) xs) (hn : n = xs.length) (k : Nat) (h0 : 0 < k)
    (hbytes : xs.length + k ≤ 140737488355328) (hbase : base ≤ w.heap.size) :
    ∃ g' cap' w', (Builtin.append_ #[28, 3] ty #[.slice (some ⟨g, 0, none⟩) n cap, .int .i64 k]).run Try.prog w = .ok (.slice (some ⟨g', 0, none⟩) (n + k) cap') w' ∧
      OwnB w' base 5 (.slice (some ⟨g', 0, none⟩) (n + k) cap') (xs ++ List.replicate k 0) ∧ w.grownBy w' (some g) ∧ (g' = g ∨ g' = w.heap.size) := by
  subst hn
  obtain ⟨i, hi, hz, hs, hb⟩ := info_of info_u8
  have hlen : (xs ++ List.replicate k (0 : UInt8)).length = xs.length + k := by simp
  rcases hown.2 with ⟨h, _⟩ | ⟨g1, cap1, cur, hv, hbg, hg, hnc, hcm, hcs, htake⟩
  · cases h
  injection hv with e1 e2 e3
  injection e1 with e1
  injection e1 with e1 _ _
  subst e1 e3
  by_cases hroom : xs.length + k ≤ cap
  · have hr := run_append_room_zeros (P := Try.prog) w 28 3 ty 5 i (.int .u8 0) .i64 .i64 Try.underlying28 Try.underlying3 hi hz g xs.length cap cur hg k h0 (by omega) (by rw [hb]; omega) (by omega)
      (by rw [zeroCells_u8]; exact bv_oneCell _) hroom (by rw [zeroCells_u8, hs]; simp [bv]; omega)
    rw [zeroCells_u8, hs] at hr
    refine ⟨g, cap, _, hr, ?_, ⟨rfl, rfl, rfl, by simp, fun j _ hk => setRow_other w g j _ (fun e => hk (by simp [e]))⟩, .inl rfl⟩
    refine ⟨by simp [bv], .inr ⟨g, cap, _, by rw [hlen], hbg, setRow_heap w g cur _ _ _ hg, by rw [hlen]; exact hroom, hcm, ?_, ?_⟩⟩
    · simp only [List.size_toArray, List.length_append, List.length_take, List.length_drop, Array.length_toList, bv_length, List.length_replicate]
      omega
    · rw [htake, bv_append, hlen]
      have e : (bv xs ++ bv (List.replicate k 0)).length = (xs.length + k) * 1 := by simp [bv]
      rw [← e]
      exact List.take_left
  · have hold := run_firstCells_some (P := Try.prog) w.drew i.size xs.length ⟨g, 0, none⟩ xs.length cap (bv xs) (by rw [hs, bv_length]; omega) (by
      have := hown.cells (g := g) rfl
      simpa using this)
    have hr := Lib.run_append_grow_zeros (P := Try.prog) w 28 3 ty 5 i (.int .u8 0) .i64 .i64 Try.underlying28 Try.underlying3 hi hz (some ⟨g, 0, none⟩) xs.length cap (bv xs) hold k h0 (by omega) (by omega) (by omega) (by rw [hb]; omega)
      (growslice_fits (by omega) (by rw [hb]; omega))
    have hge := grownCap_ge w (xs.length + k) cap 5
    have hcm2 : grownCap w (xs.length + k) cap 5 ≤ maxLen := grownCap_le_maxLen w (xs.length + k) cap 5 (by unfold maxLen; omega)
    refine ⟨w.heap.size, _, _, hr, ?_, ⟨rfl, rfl, rfl, by simp, fun j hj _ => heap_alloc_old (w := w.drew) _ hj⟩, .inr rfl⟩
    refine ⟨by simp [bv], .inr ⟨w.heap.size, _, _, by rw [hlen], hbase, heap_alloc_new w.drew _, by rw [hlen]; exact hge, hcm2, ?_, ?_⟩⟩
    · simp only [Array.size_append, List.size_toArray, size_zeroCells, bv_length]
      simp [Value.cells]
      omega
    · simp only [Array.toList_append, zeroCells_u8, List.append_assoc]
      rw [← List.append_assoc, ← bv_append]
      have e : (bv (xs ++ List.replicate k 0)).length = (xs ++ List.replicate k (0 : UInt8)).length * 1 := by simp [bv]
      rw [← e]
      exact List.take_left

/-- append(append([]byte{}, b...), make([]byte, k)...) -/
theorem padded {F : Foot} {w : World} {ty ty2 : TypeId} {s : Value} {ys : List UInt8} (hs : RdB F w s ys) (k : Nat) (h0 : 0 < k) (hbytes : ys.length + k ≤ 140737488355328) :
    ∃ g cap w1 g' cap' w', (Builtin.append_ #[28, 28] ty #[.slice (some ⟨w.heap.size, 0, none⟩) 0 0, s]).run Try.prog (w.alloc (.cells #[] 5)) = .ok (.slice (some ⟨g, 0, none⟩) ys.length cap) w1 ∧
      (Builtin.append_ #[28, 3] ty2 #[.slice (some ⟨g, 0, none⟩) ys.length cap, .int .i64 k]).run Try.prog w1 = .ok (.slice (some ⟨g', 0, none⟩) (ys.length + k) cap') w' ∧
      OwnB w' w.heap.size 5 (.slice (some ⟨g', 0, none⟩) (ys.length + k) cap') (ys ++ List.replicate k 0) ∧ Below w.heap.size w w' ∧ w.heap.size ≤ g' ∧ ys.length + k ≤ cap' := by
  obtain ⟨g, cap, w1, hr1, ho1, hb1, hg1⟩ := append_empty_bytes (ty := ty) hs (by omega)
  obtain ⟨g', cap', w', hr2, ho2, hgr2, hg2⟩ := append_zeros (ty := ty2) ho1 rfl k h0 hbytes hb1.size
  refine ⟨g, cap, w1, g', cap', w', hr1, hr2, ho2, hb1.grown hgr2 hb1.size (fun j hj => by injection hj with hj; omega), ?_, ?_⟩
  · have := hb1.size
    rcases hg2 with h | h <;> omega
  · obtain ⟨_, c, hv, h1, -⟩ := (OwnB.rd (F := NoF) ho2 (fun _ _ => noF _)).form
    injection hv with _ e2 e3
    omega
end Mun
