/- Lock's deeds, handed in with a bound on their bulk. -/
import Derived.Test.YtbdkhegfmnladaaMgM
import Derived.Test.YtbdkhegfmnladaaRows
set_option maxRecDepth 100000
set_option linter.unusedVariables false
namespace Mun
open Go Go.RowKit Go.ChangeShapes Go.WideShapes
open Go.Proofs

section
variable {H : Type} {enc : TypeId × Value → H}
theorem bulk_pos : ∀ d : DataW H, 1 ≤ Go.Proofs.Ytbdkhegfmnladaa.Rows.uptoBulk d := by
  intro d
  cases d with
  | lit l => cases l <;> simp [Go.Proofs.Ytbdkhegfmnladaa.Rows.uptoBulk]
  | _ => simp [Go.Proofs.Ytbdkhegfmnladaa.Rows.uptoBulk]
theorem bulkAll_ge : ∀ l : List (DataW H), l.length ≤ Go.Proofs.Ytbdkhegfmnladaa.Rows.uptoBulkAll l
  | [] => by simp
  | a :: l => by
    have := bulkAll_ge l
    have := bulk_pos a
    simp only [List.length_cons, Go.Proofs.Ytbdkhegfmnladaa.Rows.uptoBulkAll]; omega
theorem bulkAll_mem {l : List (DataW H)} {d : DataW H} (h : d ∈ l) : Go.Proofs.Ytbdkhegfmnladaa.Rows.uptoBulk d ≤ Go.Proofs.Ytbdkhegfmnladaa.Rows.uptoBulkAll l := by
  induction l with
  | nil => cases h
  | cons a l ih =>
    simp only [Go.Proofs.Ytbdkhegfmnladaa.Rows.uptoBulkAll]
    rcases List.mem_cons.1 h with rfl | h
    · omega
    · have := ih h; omega
theorem open_ldeeds_b {w : World} {r : Reach} {b0 base : Nat} {spare : Nat → Bool} {held : Bool} {v : Value} {d : DataW H} {p : List MemPlace}
    (hv : Value.okWide Try.prog w r b0 40 v) (h : DataW.Trod enc Try.prog w base spare held 40 v d p) (hbk : Go.Proofs.Ytbdkhegfmnladaa.Rows.uptoBulk d ≤ 1048576) :
    ∃ l : List LDeed, LDeedsAt NoF w v l ∧ l.length ≤ 1048575 := by
  obtain ⟨a0, len0, cap0, rfl⟩ := okWide_slice Try.underlying40 hv
  obtain ⟨fuel, hf⟩ := h
  rcases Deep.open_slice Try.underlying40 hf with ⟨hcs, hx⟩ | ⟨x, len, c, m, n, D, Pl, hcs, _, hl, hm, hmm, hx, hi⟩
  · simp [Value.cells] at hcs
    obtain ⟨rfl, rfl, rfl⟩ := hcs
    simp only [Prod.mk.injEq] at hx
    exact ⟨[], ⟨RdV.nil _ _ _, by simp⟩, by simp⟩
  · simp [Value.cells] at hcs
    obtain ⟨rfl, rfl, rfl⟩ := hcs
    simp only [Prod.mk.injEq] at hx
    have hC : Try.prog.cellsOf 42 = 4 := by kernel_rfl
    rw [hC] at hi
    have hlm : len0 ≤ m := by rw [hmm]; split <;> omega
    have hel : ∀ i, i < len0 → ∃ e : LDeed, (∀ j (hj : j < 4), w.cell? (x.add (i * 4 + j)) = e.cells[j]?) ∧ e.Ok := by
      intro i hi0
      obtain ⟨cs', hc, ht'⟩ := hi i (by omega)
      obtain ⟨xs, n', _, hxe, _, hlen, hf'⟩ := DataW.trod_struct Try.underlying42 ht'
      obtain ⟨_, hcl, hat⟩ := World.cells?_some hc
      simp only [Prod.mk.injEq] at hxe
      match cs', hcl with
      | [c0, c1, c2, c3], _ =>
        have e0 : Try.prog.cellsOf 3 = 1 := by kernel_rfl
        have e1 : Try.prog.cellsOf 29 = 1 := by kernel_rfl
        have e2 : Try.prog.cellsOf 9 = 1 := by kernel_rfl
        have f0 : DataW.trod enc Try.prog w base spare held n' 3 (([c0, c1, c2, c3].drop 0).take (Try.prog.cellsOf 3)) = xs[0]? := hf' 0 _ rfl
        have f1 : DataW.trod enc Try.prog w base spare held n' 29 (([c0, c1, c2, c3].drop 1).take (Try.prog.cellsOf 29)) = xs[1]? := hf' 1 _ rfl
        have f2 : DataW.trod enc Try.prog w base spare held n' 9 (([c0, c1, c2, c3].drop 2).take (Try.prog.cellsOf 9)) = xs[2]? := hf' 2 _ rfl
        have f3 : DataW.trod enc Try.prog w base spare held n' 3 (([c0, c1, c2, c3].drop 3).take (Try.prog.cellsOf 3)) = xs[3]? := hf' 3 _ rfl
        rw [e0] at f0 f3
        rw [e1] at f1
        rw [e2] at f2
        have hlen4 : xs.length = 4 := hlen
        rw [List.getElem?_eq_getElem (by omega)] at f0 f1 f2 f3
        obtain ⟨z0, h0, _, hw0⟩ := DataW.trod_int Try.underlying3 f0
        obtain ⟨z1, h1, _, hw1⟩ := DataW.trod_int Try.underlying29 f1
        obtain ⟨s2, h2, hx2, hs2⟩ := DataW.trod_string Try.underlying9 f2
        obtain ⟨z3, h3, _, hw3⟩ := DataW.trod_int Try.underlying3 f3
        have hb1 := bulkAll_mem (l := (List.range len0).map D) (List.mem_map.2 ⟨i, List.mem_range.2 hi0, rfl⟩)
        have hb2 : Go.Proofs.Ytbdkhegfmnladaa.Rows.uptoBulkAll (xs.map (·.1)) + 1 ≤ Go.Proofs.Ytbdkhegfmnladaa.Rows.uptoBulk (D i) := by
          rw [hxe.1]
          simp [Go.Proofs.Ytbdkhegfmnladaa.Rows.uptoBulk]
        have hb3 := bulkAll_mem (l := xs.map (·.1)) (d := (xs[2]'(by omega)).1) (List.mem_map.2 ⟨_, List.getElem_mem (by omega), rfl⟩)
        have hb4 : s2.size ≤ Go.Proofs.Ytbdkhegfmnladaa.Rows.uptoBulk (xs[2]'(by omega)).1 := by
          rw [hx2]
          simp [Go.Proofs.Ytbdkhegfmnladaa.Rows.uptoBulk]
        have hsz : s2.size ≤ 140737488355328 := by
          rw [hx.1] at hbk
          simp only [Go.Proofs.Ytbdkhegfmnladaa.Rows.uptoBulk] at hbk
          omega
        obtain rfl : c0 = .int .i64 z0 := by simpa using h0
        obtain rfl : c1 = .int .u64 z1 := by simpa using h1
        obtain rfl : c2 = .string s2 := by simpa using h2
        obtain rfl : c3 = .int .i64 z3 := by simpa using h3
        have hb0 := bounds_i64 hw0
        have hb1 := bounds_u64 hw1
        have hb3 := bounds_i64 hw3
        refine ⟨⟨z0, z1, s2, z3⟩, fun j hj => ?_, ⟨hb0.1, by show z0 ≤ _; have := hb0.2; omega⟩, ⟨hb1.1, by show z1 ≤ _; have := hb1.2; omega⟩, hsz, ⟨hb3.1, by show z3 ≤ _; have := hb3.2; omega⟩⟩
        have := hat j hj
        rw [Go.Deep.add_add] at this
        exact this
    obtain ⟨l, hll, hP⟩ := list_of_fun hel
    subst hll
    refine ⟨l, ⟨?_, fun e he => ?_⟩, ?_⟩
    · refine rdV_of_cells (ldeeds_length l) (by decide) hl hm (noF _) (fun i hi' => ?_)
      have hi3 : i / 4 < l.length := by rw [ldeeds_length] at hi'; omega
      have := (hP (i / 4) hi3).1 (i % 4) (Nat.mod_lt _ (by decide))
      have e : i / 4 * 4 + i % 4 = i := by omega
      rw [e] at this
      rw [this, ← ldeeds_get l (i / 4) (i % 4) hi3 (Nat.mod_lt _ (by decide)), e, List.getElem?_eq_getElem hi']
    · obtain ⟨i, hi', rfl⟩ := List.getElem_of_mem he
      exact (hP i hi').2
    · rw [hx.1] at hbk
      simp only [Go.Proofs.Ytbdkhegfmnladaa.Rows.uptoBulk] at hbk
      have h9 := bulkAll_ge ((List.range l.length).map D)
      rw [List.length_map, List.length_range] at h9
      omega
end
end Mun
