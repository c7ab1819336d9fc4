/- Deeds handed in, with a bound on the bytes that each holds. -/
import Derived.Test.YtmlggofojdhmmaaDiskL
set_option maxRecDepth 100000
set_option linter.unusedVariables false
namespace Mun
open Go Go.RowKit
open Go.Proofs
open Go.ChangeShapes Go.WideShapes

section
variable {H : Type} {enc : TypeId × Value → H}

theorem weightsAll_mem {P : Program} {e : TypeId} {l : List (DataW H)} {d : DataW H} (hd : d ∈ l) {n : Nat} (hn : n ∈ d.weights P e) : n ∈ DataW.weightsAll P e l := by
  induction l with
  | nil => cases hd
  | cons a l ih =>
    simp only [DataW.weightsAll, List.mem_append]
    rcases List.mem_cons.1 hd with rfl | hd
    · exact .inl hn
    · exact .inr (ih hd)

theorem open_bytes_cell_b {w : World} {base fuel : Nat} {spare : Nat → Bool} {held : Bool} {v : Value} {x : DataW H × List MemPlace} (h : DataW.trod enc Try.prog w base spare held fuel 28 [v] = some x)
    (hw : ∀ n ∈ x.1.weights Try.prog 28, n ≤ reachBytes) : ∃ l : List UInt8, RdB NoF w v l ∧ l.length ≤ 140737488355328 := by
  rcases open_ints Try.underlying28 Try.underlying5 (by kernel_rfl) h with ⟨hcs, hx⟩ | ⟨x, len, c, zs, hcs, _, hl, hm, hz, rfl, hcell, hwz⟩
  · obtain rfl : v = .slice none 0 0 := by simpa using hcs
    exact ⟨[], RdB.nil _ _, by simp⟩
  · obtain rfl : v = .slice (some x) len c := by simpa using hcs
    have hlen : len ≤ zs.length := by rw [hz]; split <;> omega
    refine ⟨(zs.take len).map fun n => UInt8.ofNat n.toNat, rd_of_cells (by simp; omega) hl hm (noF _) (fun i hi => ?_), ?_⟩
    · have hi' : i < zs.length := by simp at hi; omega
      rw [hcell i hi']
      have hw := hwz (zs.getD i 0) (by rw [List.getD_eq_getElem?_getD, List.getElem?_eq_getElem hi']; exact List.getElem_mem hi')
      have hb := bounds_u8 hw
      simp only [List.getElem_map, List.getElem_take, UInt8.toNat_ofNat']
      rw [List.getD_eq_getElem?_getD, List.getElem?_eq_getElem hi'] at hb ⊢
      simp only [Option.getD_some] at hb ⊢
      congr 2
      omega
    · have hb : Try.prog.bytesOf 5 = 1 := by kernel_rfl
      have h1 := hw (((lits (H := H) .u8 (zs.take len)).length + (lits (H := H) .u8 (zs.drop len)).length) * Try.prog.bytesOf 5) (by simp [DataW.weights, Try.underlying28])
      rw [hb] at h1
      simp only [lits, List.length_map, List.length_take, List.length_drop, reachBytes] at h1
      simp only [List.length_map, List.length_take]
      omega

theorem open_deeds_b {w : World} {r : Reach} {b0 base : Nat} {spare : Nat → Bool} {held : Bool} {v : Value} {d : DataW H} {p : List MemPlace}
    (hv : Value.okWide Try.prog w r b0 40 v) (h : DataW.Trod enc Try.prog w base spare held 40 v d p) (hwt : ∀ n ∈ d.weights Try.prog 40, n ≤ reachBytes) :
    ∃ l : List Deed, DeedsAt NoF w v l ∧ ((d = .nil ∧ l = []) ∨ ∃ el sp, d = .slice el sp ∧ l.length ≤ el.length + sp.length) ∧ ∀ e ∈ l, e.b.length ≤ 140737488355328 := by
  obtain ⟨a0, len0, cap0, rfl⟩ := okWide_slice Try.underlying40 hv
  obtain ⟨fuel, hf⟩ := h
  rcases Deep.open_slice Try.underlying40 hf with ⟨hcs, hx⟩ | ⟨x, len, c, m, n, D, Pl, hcs, _, hl, hm, hmm, hx, hi⟩
  · simp [Value.cells] at hcs
    obtain ⟨rfl, rfl, rfl⟩ := hcs
    simp only [Prod.mk.injEq] at hx
    exact ⟨[], ⟨RdV.nil _ _ _, by simp, by simp, by simp⟩, .inl ⟨hx.1, rfl⟩, by simp⟩
  · simp [Value.cells] at hcs
    obtain ⟨rfl, rfl, rfl⟩ := hcs
    simp only [Prod.mk.injEq] at hx
    have hC : Try.prog.cellsOf 42 = 3 := by kernel_rfl
    rw [hC] at hi
    have hlm : len0 ≤ m := by rw [hmm]; split <;> omega
    have hel : ∀ i, i < len0 → ∃ e : Deed, (∀ j (hj : j < 3), w.cell? (x.add (i * 3 + j)) = e.cells[j]?) ∧ RdB NoF w e.v e.b ∧ -9223372036854775808 ≤ e.n ∧ e.n ≤ 9223372036854775807 ∧ e.b.length ≤ 140737488355328 := by
      intro i hi0
      obtain ⟨cs', hc, ht'⟩ := hi i (by omega)
      obtain ⟨xs, n', _, hxe, _, hlen, hf'⟩ := DataW.trod_struct Try.underlying42 ht'
      obtain ⟨_, hcl, hat⟩ := World.cells?_some hc
      simp only [Prod.mk.injEq] at hxe
      match cs', hcl with
      | [c0, c1, c2], _ =>
        have e0 : Try.prog.cellsOf 3 = 1 := by kernel_rfl
        have e2 : Try.prog.cellsOf 28 = 1 := by kernel_rfl
        have f0 : DataW.trod enc Try.prog w base spare held n' 3 (([c0, c1, c2].drop 0).take (Try.prog.cellsOf 3)) = xs[0]? := hf' 0 _ rfl
        have f1 : DataW.trod enc Try.prog w base spare held n' 3 (([c0, c1, c2].drop 1).take (Try.prog.cellsOf 3)) = xs[1]? := hf' 1 _ rfl
        have f2 : DataW.trod enc Try.prog w base spare held n' 28 (([c0, c1, c2].drop 2).take (Try.prog.cellsOf 28)) = xs[2]? := hf' 2 _ rfl
        rw [e0] at f0 f1
        rw [e2] at f2
        have hlen3 : xs.length = 3 := hlen
        rw [List.getElem?_eq_getElem (by omega)] at f0 f1 f2
        obtain ⟨z0, h0, _, hw0⟩ := DataW.trod_int Try.underlying3 f0
        obtain ⟨z1, h1, _, hw1⟩ := DataW.trod_int Try.underlying3 f1
        have hwx : ∀ q ∈ (xs[2]'(by omega)).1.weights Try.prog 28, q ≤ reachBytes := fun q hq => by
          refine hwt q ?_
          rw [hx.1]
          have hag : DataW.weights Try.prog 42 (D i) = DataW.weightsEach Try.prog [3, 3, 28] (xs.map (·.1)) := by
            rw [hxe.1]
            simp [DataW.weights, Try.underlying42]
          have h5 : q ∈ DataW.weights Try.prog 42 (D i) := by
            rw [hag]
            exact DataW.weights_mem_each (j := 2) rfl (by rw [List.getElem?_map, List.getElem?_eq_getElem (by omega)]; rfl) q hq
          have h6 := weightsAll_mem (l := (List.range len0).map D) (List.mem_map.2 ⟨i, List.mem_range.2 hi0, rfl⟩) h5
          simp only [DataW.weights, Try.underlying40, List.mem_cons, List.mem_append]
          exact .inr (.inl h6)
        obtain ⟨l2, h2, h2l⟩ := open_bytes_cell_b f2 hwx
        obtain rfl : c0 = .int .i64 z0 := by simpa using h0
        obtain rfl : c1 = .int .i64 z1 := by simpa using h1
        have hb := bounds_i64 hw1
        refine ⟨⟨z0, z1, l2, c2⟩, fun j hj => ?_, h2, hb.1, by have := hb.2; omega, h2l⟩
        have := hat j hj
        rw [Go.Deep.add_add] at this
        exact this
    obtain ⟨l, hll, hP⟩ := list_of_fun hel
    subst hll
    refine ⟨l, ⟨?_, fun e he => ?_, fun e he => ?_, fun e he => ?_⟩, .inr ⟨_, _, hx.1, by simp⟩, fun e he => ?_⟩
    · refine rdV_of_cells (deeds_length l) (by decide) hl hm (noF _) (fun i hi' => ?_)
      have hi3 : i / 3 < l.length := by rw [deeds_length] at hi'; omega
      have := (hP (i / 3) hi3).1 (i % 3) (Nat.mod_lt _ (by decide))
      have e : i / 3 * 3 + i % 3 = i := by omega
      rw [e] at this
      rw [this, ← deeds_get l (i / 3) (i % 3) hi3 (Nat.mod_lt _ (by decide)), e, List.getElem?_eq_getElem hi']
    · obtain ⟨i, hi', rfl⟩ := List.getElem_of_mem he
      exact (hP i hi').2.1
    · obtain ⟨i, hi', rfl⟩ := List.getElem_of_mem he
      exact (hP i hi').2.2.1
    · obtain ⟨i, hi', rfl⟩ := List.getElem_of_mem he
      exact (hP i hi').2.2.2.1
    · obtain ⟨i, hi', rfl⟩ := List.getElem_of_mem he
      exact (hP i hi').2.2.2.2
end
end Mun
