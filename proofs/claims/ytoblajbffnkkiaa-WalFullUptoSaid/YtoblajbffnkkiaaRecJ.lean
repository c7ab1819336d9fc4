/- Contract of parsed: a body that stands well is read, its deferred call finds no panic. -/
import Derived.Test.YtoblajbffnkkiaaRecI
import Derived.Defers
import Derived.Recover
set_option maxRecDepth 100000
set_option linter.unusedVariables false
set_option linter.unusedSimpArgs false
namespace Mun
open Go Go.RowKit
open Go.Proofs

theorem catch_idle (p q : Addr) (w : World) :
    CallsD Try.prog 65 #[.pointer (some p), .pointer (some q)] .returning w fun e u' w' => e = .returned (.tuple #[]) ∧ u' = .returning ∧ w' = w := by
  have hta : ∀ w, (Instr.typeAssert .nilIface 20 28 true).run Try.prog w = .ok (.tuple #[.int .i64 0, .bool false]) w := fun w => by kernel_rfl
  have hne : ∀ w, (binOp .neq 20 .nilIface .nilIface).run Try.prog w = .ok (.bool false) w := fun w => by kernel_rfl
  refine callsD_of_wpS Try.func65 rfl fun c₀ cs hu => ?_
  apply wpS_seq
  apply wpS_region
  simp [wpOpsS, go_sem, recoverD, hu, Try.ntmps65, Exit.thenS]
  apply wpS_seq
  apply wpS_region
  simp [wpOpsS, go_sem, Exit.thenS, hta]
  apply wpS_seq
  apply wpS_region
  simp [wpOpsS, go_sem, Exit.thenS]
  refine wpS_cond (t := false) (by simp [Act.eval, Array.replicate]) ?_
  simp only [Bool.false_eq_true, if_false]
  apply wpS_seq
  apply wpS_region
  simp [wpOpsS, go_sem, Exit.thenS, hne]
  refine wpS_cond (t := false) (by simp [Act.eval, Array.replicate]) ?_
  simp only [Bool.false_eq_true, if_false]
  refine wpS_of_wp (wp_skip ?_)
  cases c₀
  simp_all [bodyPostS, results, Try.results65]

theorem setRow_blk {w : World} {g : Nat} {old cs : Array Value} {t : TypeId} (h : w.heap[g]? = some (.cells old t (0, 0))) : (w.setRow g cs).heap[g]? = some (.cells cs t (0, 0)) := by
  show (w.heap.modify g _)[g]? = _
  rw [Array.getElem?_modify]
  simp [h]
theorem setRow_other {w : World} {g k : Nat} {cs : Array Value} (h : k ≠ g) : (w.setRow g cs).heap[k]? = w.heap[k]? := by
  show (w.heap.modify g _)[k]? = _
  rw [Array.getElem?_modify, if_neg (Ne.symm h)]

set_option maxHeartbeats 1000000 in
theorem parsed_any {F : Foot} (w : World) (v : Value) (r : PR) (hg : goodR r = true) (hbig : (bodyR r).length ≤ 1048576) (ht : r.tx < 18446744073709551616) (hp : r.prev < 18446744073709551616) (hn : r.next < 18446744073709551616) (hv : RdB F w v (bodyR r)) :
    Calls Try.prog 38 #[v] w fun e w' => ∃ x, e = .returned (.tuple #[rval r x, .bool true]) ∧ RecAt (OldF w.heap.size) w' r x ∧ Below w.heap.size w w' := by
  have hmf : ∀ (fn : Fn) (first cap : Array Value) (w : World), (Instr.makeFunc fn first cap).run Try.prog w = .ok (.func fn first cap) w := fun _ _ _ _ => rfl
  obtain ⟨a, c, rfl, -, -⟩ := hv.form
  obtain ⟨m, hm⟩ : ∃ m, (bodyR r).length = m := ⟨_, rfl⟩
  rw [hm] at hv ⊢
  obtain ⟨w1, hw1⟩ : ∃ w1, w.alloc (.cells #[.int .i64 0, .int .u64 0, .int .u64 0, .int .u64 0, .slice none 0 0, .slice none 0 0] 26) = w1 := ⟨_, rfl⟩
  obtain ⟨w2, hw2⟩ : ∃ w2, w1.alloc (.cells #[.bool false] 4) = w2 := ⟨_, rfl⟩
  obtain ⟨w3, hw3⟩ : ∃ w3, w2.alloc (.cells #[.slice a m c] 119) = w3 := ⟨_, rfl⟩
  have s1 : w1.heap.size = w.heap.size + 1 := by rw [← hw1]; simp
  have s2 : w2.heap.size = w.heap.size + 2 := by rw [← hw2]; simp [s1]
  have s3 : w3.heap.size = w.heap.size + 3 := by rw [← hw3]; simp [s2]
  have b1 : Below w.heap.size w w1 := by rw [← hw1]; exact (Below.refl _ _).alloc (Nat.le_refl _) _
  have b2 : Below w.heap.size w w2 := by rw [← hw2]; exact b1.alloc b1.size _
  have b3 : Below w.heap.size w w3 := by rw [← hw3]; exact b2.alloc b2.size _
  have k1 : w3.heap[w.heap.size]? = some (.cells #[.int .i64 0, .int .u64 0, .int .u64 0, .int .u64 0, .slice none 0 0, .slice none 0 0] 26 (0, 0)) := by
    rw [← hw3, heap_alloc_old _ _ (by omega), ← hw2, heap_alloc_old _ _ (by omega), ← hw1]; exact heap_alloc_new w _
  have k2 : w3.heap[w1.heap.size]? = some (.cells #[.bool false] 4 (0, 0)) := by
    rw [← hw3, heap_alloc_old _ _ (by omega), ← hw2]; exact heap_alloc_new w1 _
  have hcur : CurAt (NewF w.heap.size) w3 w2.heap.size (.slice a m c) (bodyR r) := by
    refine ⟨by rw [← hw3]; exact heap_alloc_new w2 _, ?_, by unfold NewF; omega⟩
    exact RdB.below (RdB.mono (F' := NewF w.heap.size) hv (fun k hk h => by unfold NewF at h; omega)) b3
  have hrc := rec_any w3 _ _ r hg hbig ht hp hn hcur (fun k hk => by unfold NewF; omega)
  have HRC := Lib.hid hrc
  have HB3 := Lib.hid (And.intro b3 (And.intro k1 (And.intro k2 (And.intro s1 (And.intro s2 s3)))))
  clear hrc hcur hv hg hbig ht hp hn hm s1 s2 s3 b1 b2 b3 k1 k2
  go_enter_defers Try.func38, Try.ntmps38
  go_wp2_with fail
  clear hw1 hw2 hw3
  refine HRC.out.mono ?_
  rintro e w4 ⟨x, rfl, hrec, hc4⟩
  obtain ⟨da, dn, dc, ca, cn, cc, e1, e2, -⟩ := hrec.open
  obtain ⟨-, k1, k2, s1, s2, s3⟩ := HB3.out
  have hc3 : w3.heap.size ≤ w4.heap.size := hc4.size
  have k1' := (hc4.block _ (by omega) (fun h => by have : w.heap.size = w2.heap.size := h; omega)).trans k1
  have k2' := (hc4.block _ (by omega) (fun h => by have : w1.heap.size = w2.heap.size := h; omega)).trans k2
  have h1c : (rcs r (.slice da dn dc) (.slice ca cn cc)).all (·.oneCell') = true := by simp [rcs, Value.oneCell']
  obtain ⟨w5, hw5⟩ : ∃ w5, w4.setRow w.heap.size (rcs r (.slice da dn dc) (.slice ca cn cc)) = w5 := ⟨_, rfl⟩
  have k3 : w5.heap[w.heap.size]? = some (.cells (rcs r (.slice da dn dc) (.slice ca cn cc)) 26 (0, 0)) := by rw [← hw5]; exact setRow_blk k1'
  have k4 : w5.heap[w1.heap.size]? = some (.cells #[.bool false] 4 (0, 0)) := by rw [← hw5, setRow_other (by omega)]; exact k2'
  have c4 : w5.cell? ⟨w1.heap.size, 0, none⟩ = some (.bool false) := cell_of_row _ _ 0 _ _ _ k4
  have f4 : w5.frozen? ⟨w1.heap.size, 0, none⟩ = false := by simp [World.frozen?, k4]
  obtain ⟨w6, hw6⟩ : ∃ w6, w5.setCell ⟨w1.heap.size, 0, none⟩ (.bool true) = w6 := ⟨_, rfl⟩
  have k5 : w6.heap[w.heap.size]? = some (.cells (rcs r (.slice da dn dc) (.slice ca cn cc)) 26 (0, 0)) := by rw [← hw6, block_setCell_ne _ (by omega)]; exact k3
  have k6 : w6.heap[w1.heap.size]? = some (.cells #[.bool true] 4 (0, 0)) := by rw [← hw6]; exact block_setCell k4 _
  have hsz6 : w6.heap.size = w4.heap.size := by rw [← hw6, ← hw5]; simp [World.setCell, World.setRow]
  have hk6 : ∀ k, k ≠ w.heap.size → k ≠ w1.heap.size → w6.heap[k]? = w4.heap[k]? := fun k h1 h2 => by rw [← hw6, block_setCell_ne _ h2, ← hw5, setRow_other h1]
  have hrec6 : RecAt (OldF w.heap.size) w6 r x := hrec.keep (fun k hk hn => hk6 k (fun e => hn (by unfold OldF; omega)) (fun e => hn (by unfold OldF; omega))) (fun k hk h => by unfold OldF at *; omega)
  have hb6 : Below w.heap.size w w6 := by
    have hb4 : Below w.heap.size w3 w4 := hc4.below (by omega) (fun k hk h => by have : k = w2.heap.size := h; omega)
    have hb := HB3.out.1.trans hb4
    refine ⟨by rw [← hw6, ← hw5]; exact hb.os, by rw [← hw6, ← hw5]; exact hb.tape, by rw [← hw6, ← hw5]; exact hb.output, by rw [hsz6]; exact hb.size, fun k hk => ?_⟩
    rw [hk6 k (by omega) (by omega)]
    exact hb.block k hk
  have HK1 := Lib.hid k1'
  have H1C := Lib.hid h1c
  have HK5 := Lib.hid k5
  have HK6 := Lib.hid k6
  have HREC := Lib.hid hrec6
  have HB6 := Lib.hid hb6
  have HE := Lib.hid (And.intro e1 e2)
  have HW5 := Lib.hid hw5
  unfold rval
  rw [e1, e2]
  clear k1 k2 s1 s2 s3 hc3 k1' k2' h1c hw5 k3 k4 k5 k6 hsz6 hk6 hrec6 hb6 hrec hc4 e1 e2 HRC
  go_wp2_with (refine wpList_store_row rfl _ _ _ rfl w.heap.size (rcs r (.slice da dn dc) (.slice ca cn cc)) rfl rfl _ _ HK1.out infoR rfl H1C.out ?_; rw [HW5.out])
  refine leaves_cons (f := 65) (args := #[.pointer (some ⟨w.heap.size, 0, none⟩), .pointer (some ⟨w1.heap.size, 0, none⟩)]) (by simp) (by simp [go_sem]) ?_
  refine (catch_idle ⟨w.heap.size, 0, none⟩ ⟨w1.heap.size, 0, none⟩ _).mono ?_
  rintro e u' w'' ⟨rfl, rfl, rfl⟩
  obtain ⟨q0, q1, q2, q3, q4, q5⟩ := box6 (w := w) HK5.out
  have q6 : w''.cell? ⟨w1.heap.size, 0, none⟩ = some (.bool true) := cell_of_row _ _ 0 _ _ _ HK6.out
  have HP : ∃ y, Value.agg #[.int .i64 r.kind, .int .u64 r.tx, .int .u64 r.prev, .int .u64 r.next, .slice da dn dc, .slice ca cn cc] = rval r y ∧ RecAt (OldF w.heap.size) w'' r y ∧ Below w.heap.size w w'' :=
    ⟨x, by unfold rval; rw [HE.out.1, HE.out.2], HREC.out, HB6.out⟩
  have HPP := Lib.hid HP
  clear HP
  simp [Leaves, settle, results, Try.results38, go_sem, q0, q1, q2, q3, q4, q5, q6]
  exact HPP.out
end Mun
