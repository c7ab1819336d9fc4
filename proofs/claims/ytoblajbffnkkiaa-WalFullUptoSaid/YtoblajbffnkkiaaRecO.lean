/- A record that is handed in, opened; what the bound of the second form gives of it. -/
import Derived.Test.YtoblajbffnkkiaaDeedP
import Derived.Test.YtoblajbffnkkiaaRecM
set_option maxRecDepth 100000
set_option linter.unusedVariables false
set_option linter.unusedSimpArgs false
namespace Mun
open Go Go.RowKit Go.ChangeShapes Go.WideShapes
open Go.Proofs

section
open Go.Proofs.Ytoblajbffnkkiaa
theorem bulk_sum {H : Type} {α : Type} (l : List α) (g : α → Nat) (D : Nat → DataW H) : ∀ k, (∀ i (hi : i < l.length), g l[i] ≤ Rows.uptoBulk (D (k + i))) → (l.map g).sum ≤ Rows.uptoBulkAll ((List.range' k l.length).map D) := by
  induction l with
  | nil => intro k _; simp
  | cons a l ih =>
    intro k h
    have h0 := h 0 (by simp)
    have h1 := ih (k + 1) (fun i hi => by
      have := h (i + 1) (by simp; omega)
      rw [show k + 1 + i = k + (i + 1) by omega]
      simpa using this)
    simp only [List.map_cons, List.sum_cons, List.length_cons, List.range'_succ, Rows.uptoBulkAll]
    simp only [List.getElem_cons_zero, Nat.add_zero] at h0
    omega
end

theorem szC_sum (l : List CV) : ((l.map (·.1)).map szC).sum + l.length ≤ 3 * (l.map fun p => 4 + p.1.b.length).sum := by
  induction l with
  | nil => simp
  | cons a l ih => simp only [List.map_cons, List.sum_cons, List.length_cons, szC] at *; omega

/-- a record's cells -/
def rcl (r : PR) (y : RV) : List Value := [.int .i64 r.kind, .int .u64 r.tx, .int .u64 r.prev, .int .u64 r.next, y.dv, y.cv]

section
variable {H : Type} {enc : TypeId × Value → H}

theorem open_chs {w : World} {base fuel : Nat} {spare : Nat → Bool} {held : Bool} {v : Value} {x : DataW H × List MemPlace} (h : DataW.trod enc Try.prog w base spare held fuel 24 [v] = some x) :
    ∃ l : List CV, ChsAt NoF w v l ∧ ((l.map (·.1)).map szC).sum + l.length ≤ 3 * Go.Proofs.Ytoblajbffnkkiaa.Rows.uptoBulk x.1 := by
  rcases Deep.open_slice Try.underlying24 h with ⟨hcs, hx⟩ | ⟨x, len0, c, m, n, D, Pl, hcs, _, hl, hm, hmm, hx, hi⟩
  · obtain rfl : v = .slice none 0 0 := by simpa using hcs
    exact ⟨[], ⟨RdV.nil _ _ _, by simp⟩, by simp⟩
  · obtain rfl : v = .slice (some x) len0 c := by simpa using hcs
    have hC : Try.prog.cellsOf 81 = 4 := by kernel_rfl
    rw [hC] at hi
    have hlm : len0 ≤ m := by rw [hmm]; split <;> omega
    have hel : ∀ i, i < len0 → ∃ e : CV, (∀ j (hj : j < 4), w.cell? (x.add (i * 4 + j)) = (crow1 e)[j]?) ∧ RdB NoF w e.2 e.1.b ∧ 4 + e.1.b.length ≤ Go.Proofs.Ytoblajbffnkkiaa.Rows.uptoBulk (D i) := by
      intro i hi0
      obtain ⟨cs', hc, ht'⟩ := hi i (by omega)
      obtain ⟨xs, n', _, hDi, _, hlen, hf'⟩ := DataW.trod_struct Try.underlying81 ht'
      obtain ⟨_, hcl, hat⟩ := World.cells?_some hc
      match cs', hcl with
      | [c0, c1, c2, c3], _ =>
        have e0 : Try.prog.cellsOf 3 = 1 := by kernel_rfl
        have e1 : Try.prog.cellsOf 4 = 1 := by kernel_rfl
        have e2 : Try.prog.cellsOf 23 = 1 := by kernel_rfl
        have f0 : DataW.trod enc Try.prog w base spare held n' 3 (([c0, c1, c2, c3].drop 0).take (Try.prog.cellsOf 3)) = xs[0]? := hf' 0 _ rfl
        have f1 : DataW.trod enc Try.prog w base spare held n' 3 (([c0, c1, c2, c3].drop 1).take (Try.prog.cellsOf 3)) = xs[1]? := hf' 1 _ rfl
        have f2 : DataW.trod enc Try.prog w base spare held n' 4 (([c0, c1, c2, c3].drop 2).take (Try.prog.cellsOf 4)) = xs[2]? := hf' 2 _ rfl
        have f3 : DataW.trod enc Try.prog w base spare held n' 23 (([c0, c1, c2, c3].drop 3).take (Try.prog.cellsOf 23)) = xs[3]? := hf' 3 _ rfl
        rw [e0] at f0 f1
        rw [e1] at f2
        rw [e2] at f3
        have hlen4 : xs.length = 4 := hlen
        match xs, hlen4 with
        | [y0, y1, y2, y3], _ =>
          obtain ⟨z0, h0, _, hw0⟩ := DataW.trod_int (x := y0) Try.underlying3 f0
          obtain ⟨z1, h1, _, hw1⟩ := DataW.trod_int (x := y1) Try.underlying3 f1
          obtain ⟨z2, h2, _⟩ := DataW.trod_bool (x := y2) Try.underlying4 f2
          obtain ⟨l3, h3, hl3⟩ := open_bytes_cell (x := y3) f3
          obtain rfl : c0 = .int .i64 z0 := by simpa using h0
          obtain rfl : c1 = .int .i64 z1 := by simpa using h1
          obtain rfl : c2 = .bool z2 := by simpa using h2
          refine ⟨(⟨z0, z1, z2, l3⟩, c3), fun j hj => ?_, h3, ?_⟩
          case refine_2 =>
            simp only [Prod.mk.injEq] at hDi
            rw [hDi.1]
            have b0 := bulk_one y0.1
            have b1 := bulk_one y1.1
            have b2 := bulk_one y2.1
            simp only [List.map_cons, List.map_nil, Go.Proofs.Ytoblajbffnkkiaa.Rows.uptoBulk, Go.Proofs.Ytoblajbffnkkiaa.Rows.uptoBulkAll]
            omega
          have := hat j hj
          rw [Go.Deep.add_add] at this
          exact this
    obtain ⟨l, hll, hP⟩ := list_of_fun hel
    subst hll
    refine ⟨l, ⟨?_, fun e he => ?_⟩, ?_⟩
    · refine rdV_of_cells (crow_length l) (by decide) hl hm (noF _) (fun i hi' => ?_)
      have hi4 : i / 4 < l.length := by rw [crow_length] at hi'; omega
      have := (hP (i / 4) hi4).1 (i % 4) (Nat.mod_lt _ (by decide))
      have e : i / 4 * 4 + i % 4 = i := by omega
      rw [e] at this
      rw [this, ← crow_get l (i / 4) (i % 4) hi4 (Nat.mod_lt _ (by decide)), e, List.getElem?_eq_getElem hi']
    · obtain ⟨i, hi', rfl⟩ := List.getElem_of_mem he
      exact (hP i hi').2.1
    · have h1 := szC_sum l
      have h2 := bulk_sum (H := H) l (fun p => 4 + p.1.b.length) D 0 (fun i hi' => by rw [Nat.zero_add]; exact (hP i hi').2.2)
      rw [hx]
      simp only [Go.Proofs.Ytoblajbffnkkiaa.Rows.uptoBulk]
      rw [← List.range_eq_range'] at h2
      omega

/-- a record that lies in six cells -/
theorem open_rec6 {w : World} {base fuel : Nat} {spare : Nat → Bool} {held : Bool} {cs : List Value} {x : DataW H × List MemPlace} (h : DataW.trod enc Try.prog w base spare held fuel 26 cs = some x) :
    ∃ r y, cs = (rcl r y) ∧ RecAt NoF w r y ∧ szR r ≤ 3 * Go.Proofs.Ytoblajbffnkkiaa.Rows.uptoBulk x.1 ∧ -9223372036854775808 ≤ r.kind ∧ r.kind ≤ 9223372036854775807 := by
  obtain ⟨xs, n', _, hDi, hcl, hlen, hf'⟩ := DataW.trod_struct Try.underlying26 h
  have hC : Try.prog.cellsOf 26 = 6 := by kernel_rfl
  rw [hC] at hcl
  match cs, hcl with
  | [c0, c1, c2, c3, c4, c5], _ =>
    have e0 : Try.prog.cellsOf 3 = 1 := by kernel_rfl
    have e1 : Try.prog.cellsOf 22 = 1 := by kernel_rfl
    have e2 : Try.prog.cellsOf 23 = 1 := by kernel_rfl
    have e3 : Try.prog.cellsOf 24 = 1 := by kernel_rfl
    have f0 : DataW.trod enc Try.prog w base spare held n' 3 (([c0, c1, c2, c3, c4, c5].drop 0).take (Try.prog.cellsOf 3)) = xs[0]? := hf' 0 _ rfl
    have f1 : DataW.trod enc Try.prog w base spare held n' 22 (([c0, c1, c2, c3, c4, c5].drop 1).take (Try.prog.cellsOf 22)) = xs[1]? := hf' 1 _ rfl
    have f2 : DataW.trod enc Try.prog w base spare held n' 22 (([c0, c1, c2, c3, c4, c5].drop 2).take (Try.prog.cellsOf 22)) = xs[2]? := hf' 2 _ rfl
    have f3 : DataW.trod enc Try.prog w base spare held n' 22 (([c0, c1, c2, c3, c4, c5].drop 3).take (Try.prog.cellsOf 22)) = xs[3]? := hf' 3 _ rfl
    have f4 : DataW.trod enc Try.prog w base spare held n' 23 (([c0, c1, c2, c3, c4, c5].drop 4).take (Try.prog.cellsOf 23)) = xs[4]? := hf' 4 _ rfl
    have f5 : DataW.trod enc Try.prog w base spare held n' 24 (([c0, c1, c2, c3, c4, c5].drop 5).take (Try.prog.cellsOf 24)) = xs[5]? := hf' 5 _ rfl
    rw [e0] at f0
    rw [e1] at f1 f2 f3
    rw [e2] at f4
    rw [e3] at f5
    have hlen6 : xs.length = 6 := hlen
    match xs, hlen6 with
    | [y0, y1, y2, y3, y4, y5], _ =>
      obtain ⟨z0, h0, _, hw0⟩ := DataW.trod_int (x := y0) Try.underlying3 f0
      obtain ⟨z1, h1, _, hw1⟩ := DataW.trod_int (x := y1) Try.underlying22 f1
      obtain ⟨z2, h2, _, hw2⟩ := DataW.trod_int (x := y2) Try.underlying22 f2
      obtain ⟨z3, h3, _, hw3⟩ := DataW.trod_int (x := y3) Try.underlying22 f3
      obtain ⟨l4, h4, hl4⟩ := open_bytes_cell (x := y4) f4
      obtain ⟨l5, h5, hl5⟩ := open_chs (x := y5) f5
      obtain rfl : c0 = .int .i64 z0 := by simpa using h0
      obtain rfl : c1 = .int .u64 z1 := by simpa using h1
      obtain rfl : c2 = .int .u64 z2 := by simpa using h2
      obtain rfl : c3 = .int .u64 z3 := by simpa using h3
      have b0 := bounds_i64 hw0
      have b1 := bounds_u64 hw1
      have b2 := bounds_u64 hw2
      have b3 := bounds_u64 hw3
      obtain ⟨n1, rfl⟩ := Int.eq_ofNat_of_zero_le b1.1
      obtain ⟨n2, rfl⟩ := Int.eq_ofNat_of_zero_le b2.1
      obtain ⟨n3, rfl⟩ := Int.eq_ofNat_of_zero_le b3.1
      have q1 := b1.2
      have q2 := b2.2
      have q3 := b3.2
      have q0 := b0.2
      refine ⟨⟨z0, n1, n2, n3, l4, l5.map (·.1)⟩, ⟨c4, c5, l5⟩, rfl, ⟨h4, h5, rfl, by show n1 < _; omega, by show n2 < _; omega, by show n3 < _; omega⟩, ?_, b0.1, by show z0 ≤ _; omega⟩
      rw [hDi]
      simp only [szR, List.length_map, List.map_cons, List.map_nil, Go.Proofs.Ytoblajbffnkkiaa.Rows.uptoBulk, Go.Proofs.Ytoblajbffnkkiaa.Rows.uptoBulkAll]
      omega
end
end Mun
