/- The reference of chapter 7: a log by value; its End. -/
import Derived.Test.YtoblajbffnkkiaaR7Y
import Derived.Test.YtoblajbffnkkiaaR7X
import Derived.Test.YtoblajbffnkkiaaMgF
set_option maxRecDepth 100000
set_option linter.unusedVariables false
set_option linter.unusedSimpArgs false
namespace Mun
open Go Go.RowKit
open Go.Proofs

/-- the reference's log: its five cells -/
def rlC (m : LM) (bv : Value) (room : Nat) : Array Value := #[.int .u64 m.base, .int .u64 m.check, bv, .int .i64 m.forced, .int .i64 room]
theorem rlC_one (m : LM) (a : Option Addr) (n c room : Nat) : (rlC m (.slice a n c) room).all (·.oneCell') = true := by simp [rlC, Value.oneCell']
theorem infoRL : (Try.prog.info? 59).map (·.size) = some 5 := by kernel_rfl

/-- five cells of a box -/
theorem box5 {W : World} {b : Nat} {m : LM} {bv : Value} {room : Nat} {ty : TypeId} (h : W.heap[b]? = some (.cells (rlC m bv room) ty (0, 0))) :
    W.cell? ⟨b, 0, none⟩ = some (.int .u64 m.base) ∧ W.cell? ⟨b, 1, none⟩ = some (.int .u64 m.check) ∧ W.cell? ⟨b, 2, none⟩ = some bv ∧ W.cell? ⟨b, 3, none⟩ = some (.int .i64 m.forced) ∧ W.cell? ⟨b, 4, none⟩ = some (.int .i64 room) :=
  ⟨cell_of_row _ _ 0 _ _ _ h, cell_of_row _ _ 1 _ _ _ h, cell_of_row _ _ 2 _ _ _ h, cell_of_row _ _ 3 _ _ _ h, cell_of_row _ _ 4 _ _ _ h⟩

/-- its bytes lie there -/
structure RLv (F : Foot) (w : World) (m : LM) (bv : Value) : Prop where
  rd : RdB F w bv m.bytes
  wf : m.Wf
theorem RLv.below {F : Foot} {w w' : World} {m : LM} {bv : Value} (h : RLv F w m bv) (hb : Below w.heap.size w w') : RLv F w' m bv := ⟨h.rd.below hb, h.wf⟩
theorem RLv.drewN {F : Foot} {w : World} {m : LM} {bv : Value} (h : RLv F w m bv) (k : Nat) : RLv F (w.drewN k) m bv := ⟨h.rd, h.wf⟩
theorem RLv.form {F : Foot} {w : World} {m : LM} {bv : Value} (h : RLv F w m bv) : ∃ a n c, bv = .slice a n c ∧ Hid (n = lenL m.recs) := by
  obtain ⟨a, n, c, rfl, HN, -⟩ := h.rd.formN
  refine ⟨a, n, c, rfl, ?_⟩
  have h1 := HN.out
  have h2 : m.bytes.length = lenL m.recs := encL_length _ _
  show n = _
  omega

def EndOut (w : World) (m : LM) (e : Ending) (w' : World) : Prop := e = .returned (.int .u64 m.fin) ∧ Below w.heap.size w w'
set_option maxHeartbeats 1000000 in
theorem r7end {F : Foot} (w : World) (bv : Value) (m : LM) (room : Nat) (h : RLv F w m bv) :
    Calls Try.prog 57 #[.agg (rlC m bv room)] w (EndOut w m) := by
  obtain ⟨ba, bn, bc, rfl, HN⟩ := h.form
  have hb := h.wf.base
  have hl := h.wf.len
  have hbn := HN.out
  obtain ⟨w1, hw1⟩ : ∃ w1, w.alloc (.cells (rlC m (.slice ba bn bc) room) 59) = w1 := ⟨_, rfl⟩
  have hb1 : Below w.heap.size w w1 := by rw [← hw1]; exact (Below.refl _ _).alloc (Nat.le_refl _) _
  have k1 : w1.heap[w.heap.size]? = some (.cells (rlC m (.slice ba bn bc) room) 59 (0, 0)) := by rw [← hw1]; exact heap_alloc_new w _
  obtain ⟨z0, z1, z2, z3, z4⟩ := box5 k1
  have hf : (m.fin : Int) = (m.base : Int) + (bn : Int) := by unfold LM.fin; omega
  have v1 : IntKind.u64.wrap (bn : Int) = (bn : Int) := wrap_u64_nat _ (by omega)
  have v2 : IntKind.u64.wrap ((m.base : Int) + (bn : Int)) = (m.base : Int) + (bn : Int) := by
    have := wrap_u64_nat (m.base + bn) (by omega)
    push_cast at this
    exact this
  have HB1 := Lib.hid hb1
  have HF := Lib.hid hf
  clear h hb hl hbn hb1 k1 z1 z3 z4 hf
  go_enter Try.func57, Try.ntmps57
  go_wp2
  go_ret
  exact ⟨by rw [HF.out]; rfl, HB1.out⟩
end Mun
