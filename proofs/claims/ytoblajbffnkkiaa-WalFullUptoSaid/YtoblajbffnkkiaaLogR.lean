/- How a log lies in memory. -/
import Derived.Test.YtoblajbffnkkiaaRecS
import Derived.Test.YtoblajbffnkkiaaLogP
import Derived.Test.YtoblajbffnkkiaaDiskE
set_option maxRecDepth 100000
set_option linter.unusedVariables false
set_option linter.unusedSimpArgs false
namespace Mun
open Go Go.RowKit
open Go.Proofs

def iv (l : List Nat) : List Value := l.map fun (n : Nat) => Value.int .i64 (n : Int)
def lcells (D : Nat) (m : LM) (bv sv : Value) : Array Value := #[.pointer (some ⟨D, 0, none⟩), .int .u64 m.base, bv, sv, .int .i64 m.forced, .int .u64 m.check]
def lfoot (L : Nat) (bv sv : Value) : Foot := fun k => k = L ∨ bv.ownBlock = some k ∨ sv.ownBlock = some k

/-- a log's own memory -/
structure LMem (w : World) (D L : Nat) (m : LM) (bv sv : Value) : Prop where
  blk : w.heap[L]? = some (.cells (lcells D m bv sv) 86 (0, 0))
  b : OwnB w 0 5 bv m.bytes
  s : w.ownsRow 0 3 1 sv m.recs.length (iv (offs 0 m.recs))
  wf : m.Wf

/-- a log over its device -/
structure LogAt (w : World) (D L : Nat) (F : Foot) (dm : DM) (m : LM) (bv sv : Value) : Prop where
  disk : DiskAt w D (lfoot L bv sv) F dm
  mem : LMem w D L m bv sv

section
variable {w w' : World} {D L : Nat} {F : Foot} {dm dm' : DM} {m m' : LM} {bv sv : Value}

theorem LMem.keep (h : LMem w D L m bv sv) (hk : ∀ k, lfoot L bv sv k → w'.heap[k]? = w.heap[k]?) : LMem w' D L m bv sv :=
  ⟨(hk L (.inl rfl)).trans h.blk, ownsRow_keep h.b (fun k e => hk k (.inr (.inl e))), ownsRow_keep h.s (fun k e => hk k (.inr (.inr e))), h.wf⟩
theorem LMem.lt (h : LMem w D L m bv sv) (k : Nat) (hk : lfoot L bv sv k) : k < w.heap.size := by
  rcases hk with rfl | h1 | h1
  · exact lt_of_block h.blk
  · exact (h.b.lt k h1).2
  · exact (h.s.lt k h1).2
theorem LMem.neB (h : LMem w D L m bv sv) : bv.ownBlock ≠ some L := fun e => by obtain ⟨c, hc⟩ := ownsRow_blk h.b e; exact blk_ne h.blk hc (by decide) rfl
theorem LMem.neS (h : LMem w D L m bv sv) : sv.ownBlock ≠ some L := fun e => by obtain ⟨c, hc⟩ := ownsRow_blk h.s e; exact blk_ne h.blk hc (by decide) rfl
theorem LMem.neBS (h : LMem w D L m bv sv) (k : Nat) (h1 : bv.ownBlock = some k) (h2 : sv.ownBlock = some k) : False := by
  obtain ⟨c, hc⟩ := ownsRow_blk h.b h1
  obtain ⟨c', hc'⟩ := ownsRow_blk h.s h2
  exact blk_ne hc hc' (by decide) rfl
theorem LMem.cell (h : LMem w D L m bv sv) (i : Nat) : w.cell? ⟨L, i, none⟩ = (lcells D m bv sv)[i]? := cell_of_row w L i _ _ _ h.blk
theorem LMem.free (h : LMem w D L m bv sv) (i : Nat) : w.frozen? ⟨L, i, none⟩ = false := by simp [World.frozen?, h.blk]

theorem LogAt.below (h : LogAt w D L F dm m bv sv) (hb : Below w.heap.size w w') : LogAt w' D L F dm m bv sv :=
  ⟨h.disk.below hb, h.mem.keep (fun k hk => hb.block k (h.mem.lt k hk))⟩
theorem LogAt.drewN (h : LogAt w D L F dm m bv sv) (k : Nat) : LogAt (w.drewN k) D L F dm m bv sv := h.below (below_drewN (Below.refl _ _) k)

theorem LMem.forms (h : LMem w D L m bv sv) : ∃ ba bn bc sa sn sc, bv = .slice ba bn bc ∧ sv = .slice sa sn sc ∧ Hid (bn = lenL m.recs ∧ sn = m.recs.length) := by
  obtain ⟨ba, bn, bc, e1, h1, _⟩ := (OwnB.rd (F := NoF) h.b (fun _ _ => noF _)).formN
  obtain ⟨sa, sc, e2, _⟩ := (RdV.of_own (F := NoF) h.s (fun _ _ => noF _)).form
  exact ⟨ba, bn, bc, sa, _, sc, e1, e2, by have := h1.out; unfold LM.bytes at this; rw [encL_length] at this; exact this, rfl⟩

theorem l_first (h : LMem w D L m bv sv) : Calls Try.prog 14 #[.pointer (some ⟨L, 0, none⟩)] w fun e w' => e = .returned (.int .u64 m.base) ∧ w = w' := by
  have c1 : w.cell? ⟨L, 1, none⟩ = some (.int .u64 m.base) := h.cell 1
  clear h
  go_enter Try.func14, Try.ntmps14
  go_wp2
  go_ret
  exact ⟨rfl, rfl⟩

theorem l_end (h : LMem w D L m bv sv) : Calls Try.prog 15 #[.pointer (some ⟨L, 0, none⟩)] w fun e w' => e = .returned (.int .u64 m.fin) ∧ ∃ k, w' = w.drewN k := by
  obtain ⟨ba, bn, bc, sa, sn, sc, rfl, rfl, HN⟩ := h.forms
  have c1 : w.cell? ⟨L, 1, none⟩ = some (.int .u64 m.base) := h.cell 1
  have c2 : w.cell? ⟨L, 2, none⟩ = some (.slice ba bn bc) := h.cell 2
  have hb := h.wf.base
  have hl := h.wf.len
  have hf : m.fin = m.base + bn := by unfold LM.fin; rw [HN.out.1]
  rw [hf]
  have hbn : bn ≤ 16777216 := by rw [HN.out.1]; exact hl
  have v1 : IntKind.u64.wrap (bn : Int) = (bn : Int) := wrap_u64_nat _ (by omega)
  have v2 : IntKind.u64.wrap ((m.base : Int) + (bn : Int)) = (m.base : Int) + (bn : Int) := by
    have := wrap_u64_nat (m.base + bn) (by omega)
    push_cast at this
    exact this
  clear h hb hl hf hbn HN
  go_enter Try.func15, Try.ntmps15
  go_upto_region 1 with (fail)
  go_quiet (fail)
  go_wp2
  go_ret
  exact ⟨ret_int (by push_cast; rfl), _, rfl⟩

theorem l_forced (h : LMem w D L m bv sv) : Calls Try.prog 17 #[.pointer (some ⟨L, 0, none⟩)] w fun e w' => e = .returned (.int .u64 (m.base + m.forced : Nat)) ∧ ∃ k, w' = w.drewN k := by
  have c1 : w.cell? ⟨L, 1, none⟩ = some (.int .u64 m.base) := h.cell 1
  have c4 : w.cell? ⟨L, 4, none⟩ = some (.int .i64 m.forced) := h.cell 4
  have hb := h.wf.base
  have hl := h.wf.len
  have hfo := h.wf.forced
  have v1 : IntKind.u64.wrap (m.forced : Int) = (m.forced : Int) := wrap_u64_nat _ (by omega)
  have v2 : IntKind.u64.wrap ((m.base : Int) + (m.forced : Int)) = (m.base : Int) + (m.forced : Int) := by
    have := wrap_u64_nat (m.base + m.forced) (by omega)
    push_cast at this
    exact this
  clear h hb hl hfo
  go_enter Try.func17, Try.ntmps17
  go_upto_region 1 with (fail)
  go_quiet (fail)
  go_wp2
  go_ret
  exact ⟨ret_int (by push_cast; rfl), _, rfl⟩
end
end Mun
