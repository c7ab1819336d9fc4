/- Contract of Good. -/
import Derived.Test.YtjfepmohoijalaaP5
import Derived.Great.Walk
import Derived.Deep.DeepCutAuto
set_option maxRecDepth 100000
set_option linter.unusedVariables false
set_option linter.unusedSimpArgs false
namespace Mun
open Go Go.RowKit
open Go.Proofs
open Go.Great

@[irreducible] def tk0 : Array Value := Array.replicate 512 (.bool false)
theorem z69 (w : World) : (zeroValue 120).run Try.prog w = .ok (.agg tk0) w := by
  have h : ((Try.prog.info? 120).bind (·.zero)) = some (.agg tk0) := by unfold tk0; kernel_rfl
  cases hq : Try.prog.info? 120 with
  | none => simp [hq] at h
  | some i =>
    simp [hq] at h
    simp [zeroValue, typeInfo, hq, h]
theorem al69 (w : World) : (Instr.alloc 120 true (.tuple #[])).run Try.prog w = .ok (.pointer (some ⟨w.heap.size, 0, none⟩)) (w.alloc (.cells tk0 120)) := by
  simp only [Instr.alloc, Sem.run_bind, z69, Result.andThen, newVar, newRow, Value.cells]
  rfl
/-- a row of bools -/
def tkA (l : List Bool) : Array Value := (l.map Value.bool).toArray
theorem tk0_eq : tk0 = tkA (List.replicate 512 false) := by
  unfold tk0 tkA
  rw [List.map_replicate]
  rfl
theorem tkA_size (l : List Bool) : (tkA l).size = l.length := by simp [tkA]
theorem tkA_get (l : List Bool) (k : Nat) (h : k < l.length) : (tkA l)[k]? = some (.bool l[k]) := by simp [tkA, h]

structure GdR (w0 wr : World) (b T : Nat) (v : Value) (l : List Bool) : Prop where
  bl : Below w0.heap.size w0 wr
  box : wr.cell? ⟨b, 0, none⟩ = some v
  tk : wr.heap[T]? = some (.cells (tkA l) 120 (0, 0))
  len : l.length = 512
  hT : w0.heap.size ≤ T
  ne : b ≠ T

theorem GdR.below {w0 wr w' : World} {b T : Nat} {v : Value} {l : List Bool} (h : GdR w0 wr b T v l) (hb : Below wr.heap.size wr w') : GdR w0 w' b T v l :=
  ⟨h.bl.trans (hb.mono h.bl.size), box_chg h.box (Chg.of_below hb (fun _ => False)) (fun x => x), (hb.block T (Array.getElem?_eq_some_iff.1 h.tk).1).trans h.tk, h.len, h.hT, h.ne⟩
theorem GdR.cell {w0 wr : World} {b T : Nat} {v : Value} {l : List Bool} (h : GdR w0 wr b T v l) (k : Nat) (hk : k < l.length) : wr.cell? ⟨T, k, none⟩ = some (.bool l[k]) := by
  rw [cell_of_row wr T k _ _ _ h.tk, tkA_get l k hk]
theorem GdR.frozen {w0 wr : World} {b T : Nat} {v : Value} {l : List Bool} (h : GdR w0 wr b T v l) (k : Nat) : wr.frozen? ⟨T, k, none⟩ = false := by simp [World.frozen?, h.tk]
theorem GdR.set {w0 wr : World} {b T : Nat} {v : Value} {l : List Bool} (h : GdR w0 wr b T v l) (k : Nat) (hk : k < l.length) : GdR w0 (wr.setCell ⟨T, k, none⟩ (.bool true)) b T v (l.set k true) := by
  have hs : ∀ j, j ≠ T → (wr.setCell ⟨T, k, none⟩ (.bool true)).heap[j]? = wr.heap[j]? := fun j hj => Below.heap_setCell wr ⟨T, k, none⟩ _ j hj
  refine ⟨h.bl.setCell h.hT _, ?_, ?_, by rw [List.length_set]; exact h.len, h.hT, h.ne⟩
  · obtain ⟨_, cur, e, fr, hh, hc⟩ := cell_block h.box
    rw [cell_of_row _ b 0 cur e fr ((hs b h.ne).trans hh)]
    exact hc
  · have h1 := h.tk
    have : (tkA l).setIfInBounds k (.bool true) = tkA (l.set k true) := by simp [tkA, List.map_set]
    rw [← this]
    simp [World.setCell, Array.getElem?_modify, h1]

/-- what is taken when the first i cells are looked at -/
def tkInv (p : PBytes) (i : Nat) (l : List Bool) : Prop := ∀ x, x < 512 → (l[x]? = some true ↔ ∃ j, j < i ∧ inC p j x)
/-- the first i cells are right -/
structure okUpto (p : PBytes) (i : Nat) : Prop where
  cell : ∀ j, j < i → lowP p ≤ sFrom p j ∧ sFrom p j + sSize p j ≤ 512
  apart : ∀ a b, a < b → b < i → ∀ x, ¬ (inC p a x ∧ inC p b x)

theorem tkInv_zero (p : PBytes) : tkInv p 0 (List.replicate 512 false) := by
  intro x hx
  rw [List.getElem?_replicate, if_pos hx]
  constructor
  · intro h; cases h
  · rintro ⟨j, hj, _⟩; omega

/-- in the midst of cell i, up to k -/
def tkMid (p : PBytes) (i k : Nat) (l : List Bool) : Prop := ∀ x, x < 512 → (l[x]? = some true ↔ (∃ j, j < i ∧ inC p j x) ∨ (sFrom p i ≤ x ∧ x < k))
theorem tkMid_start {p : PBytes} {i : Nat} {l : List Bool} (h : tkInv p i l) : tkMid p i (sFrom p i) l := by
  intro x hx
  rw [h x hx]
  constructor
  · exact .inl
  · rintro (h | h)
    · exact h
    · omega
theorem tkMid_step {p : PBytes} {i k : Nat} {l : List Bool} (h : tkMid p i k l) (hl : l.length = 512) (h1 : sFrom p i ≤ k) (hk : k < 512) : tkMid p i (k + 1) (l.set k true) := by
  intro x hx
  rw [List.getElem?_set]
  by_cases hxk : k = x
  · subst hxk
    rw [if_pos rfl, if_pos (by omega)]
    constructor
    · intro _; exact .inr ⟨h1, by omega⟩
    · intro _; rfl
  · rw [if_neg hxk, h x hx]
    constructor
    · rintro (h | h)
      · exact .inl h
      · exact .inr ⟨h.1, by omega⟩
    · rintro (h | h)
      · exact .inl h
      · exact .inr ⟨h.1, by omega⟩
theorem tkMid_end {p : PBytes} {i : Nat} {l : List Bool} (h : tkMid p i (sFrom p i + sSize p i) l) : tkInv p (i + 1) l := by
  intro x hx
  rw [h x hx]
  constructor
  · rintro (⟨j, hj, hc⟩ | hc)
    · exact ⟨j, by omega, hc⟩
    · exact ⟨i, by omega, hc⟩
  · rintro ⟨j, hj, hc⟩
    rcases Nat.lt_or_eq_of_le (Nat.lt_succ_iff.1 hj) with hj | rfl
    · exact .inl ⟨j, hj, hc⟩
    · exact .inr hc
theorem okUpto_succ {p : PBytes} {i : Nat} (h : okUpto p i) (hc : lowP p ≤ sFrom p i ∧ sFrom p i + sSize p i ≤ 512) (hf : ∀ x, inC p i x → ¬ ∃ j, j < i ∧ inC p j x) : okUpto p (i + 1) := by
  refine ⟨fun j hj => ?_, fun a b hab hb x hx => ?_⟩
  · rcases Nat.lt_or_eq_of_le (Nat.lt_succ_iff.1 hj) with hj | rfl
    · exact h.cell j hj
    · exact hc
  · rcases Nat.lt_or_eq_of_le (Nat.lt_succ_iff.1 hb) with hb | rfl
    · exact h.apart a b hab hb x hx
    · exact hf x hx.2 ⟨a, hab, hx.1⟩
/-- what Good looks at first -/
structure headOk (p : PBytes) : Prop where
  len : p.length = 512
  none : p[13]? = some 0
  fit : 26 + 4 * cnt p ≤ lowP p
  low : lowP p ≤ 512
theorem good_of {p : PBytes} (h : headOk p) (ho : okUpto p (cnt p)) : GoodP p := ⟨h.len, h.none, h.fit, h.low, ho.cell, ho.apart⟩
theorem not_good_cell {p : PBytes} {i : Nat} (hi : i < cnt p) (h : ¬ (lowP p ≤ sFrom p i ∧ sFrom p i + sSize p i ≤ 512)) : ¬ GoodP p := fun hg => h (hg.cell i hi)
theorem not_good_taken {p : PBytes} {i k : Nat} (hi : i < cnt p) (h1 : inC p i k) (h2 : ∃ j, j < i ∧ inC p j k) : ¬ GoodP p := fun hg => by
  obtain ⟨j, hj, hc⟩ := h2
  exact hg.apart j i hj hi k ⟨hc, h1⟩
end Mun
