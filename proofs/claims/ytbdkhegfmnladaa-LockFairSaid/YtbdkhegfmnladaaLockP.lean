/- Contract of lock.pairs: the table of modes, as one closed row. -/
import Derived.Test.YtbdkhegfmnladaaMapG
import Derived.Test.YtbdkhegfmnladaaBase
import Derived.Great.Walk
import Derived.Laws.CopyRow
import Derived.Great.BuildSlice
set_option maxRecDepth 100000
set_option linter.unusedVariables false
namespace Mun
open Go Go.RowKit
open Go.Proofs
open Go.Great
@[irreducible] def tblB : Array Value := #[.bool false, .bool false, .bool false, .bool false, .bool false, .bool false, .bool true, .bool true, .bool true, .bool false, .bool false, .bool true, .bool true, .bool false, .bool false, .bool false, .bool true, .bool false, .bool true, .bool false, .bool false, .bool false, .bool false, .bool false, .bool false]
@[irreducible] def tbl0 : Array Value := Array.replicate 25 (.bool false)
theorem tblB_size : tblB.size = 25 := by unfold tblB; rfl
theorem tbl0_size : tbl0.size = 25 := by unfold tbl0; rfl
theorem b59 (w : World) : (Instr.build 59 #[(1, .agg #[.bool false, .bool true, .bool true, .bool true, .bool false]), (2, .agg #[.bool false, .bool true, .bool true, .bool false, .bool false]), (3, .agg #[.bool false, .bool true, .bool false, .bool true, .bool false])]).run Try.prog w = .ok (.agg tblB) w := by
  unfold tblB
  exact run_build w _ _ _ (by kernel_rfl)
theorem st59 (w : World) (m : Mode) : (Instr.storeAt 59 (.pointer (some ⟨w.heap.size, 0, none⟩)) (.agg tblB)).run Try.prog (w.alloc (.cells tbl0 59)) = .ok () ((w.alloc (.cells tbl0 59)).setRow w.heap.size tblB) := by
  have h := run_storeVar_row (P := Try.prog) (w.alloc (.cells tbl0 59)) w.heap.size 59 59 tbl0 tblB (heap_alloc_new w _) (by rw [tblB_size]; kernel_rfl) (by rw [tblB_size, tbl0_size]) (by unfold tblB; kernel_rfl)
  simp [Instr.storeAt, Instr.sureAddr, h]
theorem z59 (w : World) : (zeroValue 59).run Try.prog w = .ok (.agg tbl0) w := by
  have h : ((Try.prog.info? 59).bind (·.zero)) = some (.agg tbl0) := by unfold tbl0; kernel_rfl
  cases hq : Try.prog.info? 59 with
  | none => simp [hq] at h
  | some i =>
    simp [hq] at h
    simp [zeroValue, typeInfo, hq, h]
theorem al59 (w : World) : (Instr.alloc 59 true (.tuple #[])).run Try.prog w = .ok (.pointer (some ⟨w.heap.size, 0, none⟩)) (w.alloc (.cells tbl0 59)) := by
  simp only [Instr.alloc, Sem.run_bind, z59, Result.andThen, newVar, newRow, Value.cells]
  rfl
theorem pairs_any (w : World) : Calls Try.prog 28 #[] w fun e w' => e = .returned (.agg tblB) ∧ Below w.heap.size w w' := by
  go_enter Try.func28, Try.ntmps28
  apply wp_seq_k; intro K1 hK1
  apply wp_region_lit
  refine wpList_allocTo rfl (some 0) rfl (.pointer (some ⟨w.heap.size, 0, none⟩)) (.cells tbl0 59) (by simp [execOp, al59]) ?_
  apply wpList_nil
  refine hK1 _ _ ?_
  clear hK1 K1
  try (apply wp_seq_k; intro K2 hK2)
  apply wp_region_lit
  refine wpList_buildTo rfl 58 _ rfl (some 1) rfl #[.bool false, .bool true, .bool true, .bool true, .bool false] (by as_aux_lemma => kernel_rfl) ?_
  refine wpList_buildTo rfl 58 _ rfl (some 2) rfl #[.bool false, .bool true, .bool true, .bool false, .bool false] (by as_aux_lemma => kernel_rfl) ?_
  refine wpList_buildTo rfl 58 _ rfl (some 3) rfl #[.bool false, .bool true, .bool false, .bool true, .bool false] (by as_aux_lemma => kernel_rfl) ?_
  refine wpList_buildTo rfl 59 _ rfl (some 4) rfl tblB (by unfold tblB; as_aux_lemma => kernel_rfl) ?_
  refine wpList_store_rowTo rfl 59 _ _ rfl rfl w.heap.size tblB (by as_aux_lemma => kernel_rfl) (by as_aux_lemma => kernel_rfl) 59 tbl0 (heap_alloc_new w _) (by rw [tblB_size]; as_aux_lemma => kernel_rfl) (by rw [tblB_size, tbl0_size]) (by unfold tblB; as_aux_lemma => kernel_rfl) ?_
  apply wpList_nil
  refine hK2 _ _ ?_
  clear hK2 K2
  apply wp_ret
  refine bodyPost_ret (results_cell_row (fn := Try.f28) (p := 0) (ty := 59) rfl _ _ w.heap.size 59 tblB (0, 0) _ (by as_aux_lemma => kernel_rfl) ?_ Try.underlying59 rfl (by rw [tblB_size]; as_aux_lemma => kernel_rfl)) (by as_aux_lemma => kernel_rfl) ⟨rfl, ?_⟩
  · exact setRow_heap _ _ tbl0 tblB 59 (0, 0) (heap_alloc_new w _)
  · refine ((Below.refl _ _).alloc (Nat.le_refl _) (.cells tbl0 59)).trans ⟨rfl, rfl, rfl, by simp, fun k hk => ?_⟩
    exact setRow_other _ _ _ _ (by omega)
theorem ix59_1 (W : World) : (Instr.index 59 (.agg tblB) (.int .i64 1)).run Try.prog W = .ok (.agg #[.bool false, .bool true, .bool true, .bool true, .bool false]) W := by
  unfold tblB
  kernel_rfl
theorem ix59_2 (W : World) : (Instr.index 59 (.agg tblB) (.int .i64 2)).run Try.prog W = .ok (.agg #[.bool false, .bool true, .bool true, .bool false, .bool false]) W := by
  unfold tblB
  kernel_rfl
theorem ix59_3 (W : World) : (Instr.index 59 (.agg tblB) (.int .i64 3)).run Try.prog W = .ok (.agg #[.bool false, .bool true, .bool false, .bool true, .bool false]) W := by
  unfold tblB
  kernel_rfl
theorem ix59_4 (W : World) : (Instr.index 59 (.agg tblB) (.int .i64 4)).run Try.prog W = .ok (.agg #[.bool false, .bool false, .bool false, .bool false, .bool false]) W := by
  unfold tblB
  kernel_rfl
theorem ix58_1 (a b c d e : Bool) (W : World) : (Instr.index 58 (.agg #[.bool a, .bool b, .bool c, .bool d, .bool e]) (.int .i64 1)).run Try.prog W = .ok (.bool b) W := by
  kernel_rfl
theorem ix58_2 (a b c d e : Bool) (W : World) : (Instr.index 58 (.agg #[.bool a, .bool b, .bool c, .bool d, .bool e]) (.int .i64 2)).run Try.prog W = .ok (.bool c) W := by
  kernel_rfl
theorem ix58_3 (a b c d e : Bool) (W : World) : (Instr.index 58 (.agg #[.bool a, .bool b, .bool c, .bool d, .bool e]) (.int .i64 3)).run Try.prog W = .ok (.bool d) W := by
  kernel_rfl
theorem ix58_4 (a b c d e : Bool) (W : World) : (Instr.index 58 (.agg #[.bool a, .bool b, .bool c, .bool d, .bool e]) (.int .i64 4)).run Try.prog W = .ok (.bool e) W := by
  kernel_rfl
end Mun
