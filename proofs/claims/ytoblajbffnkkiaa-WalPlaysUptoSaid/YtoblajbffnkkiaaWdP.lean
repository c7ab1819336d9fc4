/- The deeds that chapter 7's law is handed. -/
import Derived.Test.YtoblajbffnkkiaaMgI
set_option maxRecDepth 100000
set_option linter.unusedVariables false
set_option linter.unusedSimpArgs false
namespace Mun
open Go Go.RowKit Go.ChangeShapes Go.WideShapes
open Go.Proofs

structure WDeed where
  op : Int
  lsn : Nat
  r : PR
  y : RV
  v : Value
  b : List UInt8
def WDeed.cells (d : WDeed) : List Value := [.int .i64 d.op, .int .u64 d.lsn, .int .i64 d.r.kind, .int .u64 d.r.tx, .int .u64 d.r.prev, .int .u64 d.r.next, d.y.dv, d.y.cv, d.v]

/-- a slice of deeds -/
structure WDeedsAt (F : Foot) (w : World) (v : Value) (l : List WDeed) : Prop where
  row : RdV F w 9 v l.length (l.flatMap WDeed.cells)
  rd : ∀ d ∈ l, RecAt F w d.r d.y ∧ RdB F w d.v d.b ∧ szR d.r ≤ 4194304 ∧ d.lsn < 18446744073709551616
theorem WDeedsAt.below {F : Foot} {w w' : World} {v : Value} {l : List WDeed} (h : WDeedsAt F w v l) (hb : Below w.heap.size w w') : WDeedsAt F w' v l :=
  ⟨h.row.below hb, fun d hd => ⟨(h.rd d hd).1.below hb, (h.rd d hd).2.1.below hb, (h.rd d hd).2.2⟩⟩

theorem wdeeds_length (l : List WDeed) : (l.flatMap WDeed.cells).length = l.length * 9 := by
  induction l with
  | nil => rfl
  | cons a l ih => simp only [List.flatMap_cons, List.length_append, ih, WDeed.cells, List.length_cons, List.length_nil]; omega
theorem wdeeds_get (l : List WDeed) (i j : Nat) (h : i < l.length) (hj : j < 9) : (l.flatMap WDeed.cells)[i * 9 + j]? = (l[i].cells)[j]? := by
  induction l generalizing i with
  | nil => simp at h
  | cons a l ih =>
    cases i with
    | zero =>
      rw [List.flatMap_cons, List.getElem?_append_left (by simp [WDeed.cells]; omega)]
      simp
    | succ i =>
      rw [List.flatMap_cons, List.getElem?_append_right (by simp [WDeed.cells]; omega)]
      have : (i + 1) * 9 + j - (WDeed.cells a).length = i * 9 + j := by simp [WDeed.cells]; omega
      rw [this, ih i (by simpa using h)]
      simp

theorem bulk_posW {H : Type} : ∀ d : DataW H, 1 ≤ Go.Proofs.Ytoblajbffnkkiaa.Rows.uptoBulk d := by
  intro d
  cases d with
  | lit l => cases l <;> simp [Go.Proofs.Ytoblajbffnkkiaa.Rows.uptoBulk]
  | _ => simp [Go.Proofs.Ytoblajbffnkkiaa.Rows.uptoBulk]
theorem bulkAll_geW {H : Type} : ∀ l : List (DataW H), l.length ≤ Go.Proofs.Ytoblajbffnkkiaa.Rows.uptoBulkAll l
  | [] => by simp
  | a :: l => by
    have := bulkAll_geW l
    have := bulk_posW a
    simp only [List.length_cons, Go.Proofs.Ytoblajbffnkkiaa.Rows.uptoBulkAll]; omega
theorem bulkAll_memW {H : Type} {l : List (DataW H)} {d : DataW H} (h : d ∈ l) : Go.Proofs.Ytoblajbffnkkiaa.Rows.uptoBulk d ≤ Go.Proofs.Ytoblajbffnkkiaa.Rows.uptoBulkAll l := by
  induction l with
  | nil => cases h
  | cons a l ih =>
    simp only [Go.Proofs.Ytoblajbffnkkiaa.Rows.uptoBulkAll]
    rcases List.mem_cons.1 h with rfl | h
    · omega
    · have := ih h; omega

section
variable {H : Type} {enc : TypeId × Value → H}
theorem open_wdeeds {w : World} {r : Reach} {b0 base : Nat} {spare : Nat → Bool} {held : Bool} {v : Value} {d : DataW H} {p : List MemPlace}
    (hv : Value.okWide Try.prog w r b0 57 v) (h : DataW.Trod enc Try.prog w base spare held 57 v d p) (hbk : Go.Proofs.Ytoblajbffnkkiaa.Rows.uptoBulk d ≤ 1048576) :
    ∃ l : List WDeed, WDeedsAt NoF w v l ∧ l.length ≤ 1048575 := by
  obtain ⟨a0, len0, cap0, rfl⟩ := okWide_slice Try.underlying57 hv
  obtain ⟨fuel, hf⟩ := h
  rcases Deep.open_slice Try.underlying57 hf with ⟨hcs, hx⟩ | ⟨x, len, c, m, n, D, Pl, hcs, _, hl, hm, hmm, hx, hi⟩
  · simp [Value.cells] at hcs
    obtain ⟨rfl, rfl, rfl⟩ := hcs
    simp only [Prod.mk.injEq] at hx
    exact ⟨[], ⟨RdV.nil _ _ _, by simp⟩, by simp⟩
  · simp [Value.cells] at hcs
    obtain ⟨rfl, rfl, rfl⟩ := hcs
    simp only [Prod.mk.injEq] at hx
    have hC : Try.prog.cellsOf 61 = 9 := by kernel_rfl
    rw [hC] at hi
    have hlm : len0 ≤ m := by rw [hmm]; split <;> omega
    have hel : ∀ i, i < len0 → ∃ e : WDeed, (∀ j (hj : j < 9), w.cell? (x.add (i * 9 + j)) = e.cells[j]?) ∧ RecAt NoF w e.r e.y ∧ RdB NoF w e.v e.b ∧ szR e.r ≤ 4194304 ∧ e.lsn < 18446744073709551616 := by
      intro i hi0
      obtain ⟨cs', hc, ht'⟩ := hi i (by omega)
      obtain ⟨xs, n', _, hxe, _, hlen, hf'⟩ := DataW.trod_struct Try.underlying61 ht'
      obtain ⟨_, hcl, hat⟩ := World.cells?_some hc
      simp only [Prod.mk.injEq] at hxe
      match cs', hcl with
      | [c0, c1, c2, c3, c4, c5, c6, c7, c8], _ =>
        have e0 : Try.prog.cellsOf 3 = 1 := by kernel_rfl
        have e1 : Try.prog.cellsOf 22 = 1 := by kernel_rfl
        have e2 : Try.prog.cellsOf 26 = 6 := by kernel_rfl
        have e3 : Try.prog.cellsOf 23 = 1 := by kernel_rfl
        have f0 : DataW.trod enc Try.prog w base spare held n' 3 (([c0, c1, c2, c3, c4, c5, c6, c7, c8].drop 0).take (Try.prog.cellsOf 3)) = xs[0]? := hf' 0 _ rfl
        have f1 : DataW.trod enc Try.prog w base spare held n' 22 (([c0, c1, c2, c3, c4, c5, c6, c7, c8].drop 1).take (Try.prog.cellsOf 22)) = xs[1]? := hf' 1 _ rfl
        have f2 : DataW.trod enc Try.prog w base spare held n' 26 (([c0, c1, c2, c3, c4, c5, c6, c7, c8].drop 2).take (Try.prog.cellsOf 26)) = xs[2]? := hf' 2 _ rfl
        have f3 : DataW.trod enc Try.prog w base spare held n' 23 (([c0, c1, c2, c3, c4, c5, c6, c7, c8].drop 8).take (Try.prog.cellsOf 23)) = xs[3]? := hf' 3 _ rfl
        rw [e0] at f0
        rw [e1] at f1
        rw [e2] at f2
        rw [e3] at f3
        have hlen4 : xs.length = 4 := hlen
        rw [List.getElem?_eq_getElem (by omega)] at f0 f1 f2 f3
        obtain ⟨z0, h0, _, hw0⟩ := DataW.trod_int Try.underlying3 f0
        obtain ⟨z1, h1, _, hw1⟩ := DataW.trod_int Try.underlying22 f1
        obtain ⟨rr, y, hcs, hrec, hsz, _, _⟩ := open_rec6 f2
        obtain ⟨l3, h3⟩ := open_bytes_cell f3
        have hb1 := bulkAll_memW (l := (List.range len0).map D) (List.mem_map.2 ⟨i, List.mem_range.2 hi0, rfl⟩)
        have hb2 : Go.Proofs.Ytoblajbffnkkiaa.Rows.uptoBulkAll (xs.map (·.1)) + 1 ≤ Go.Proofs.Ytoblajbffnkkiaa.Rows.uptoBulk (D i) := by
          rw [hxe.1]
          simp [Go.Proofs.Ytoblajbffnkkiaa.Rows.uptoBulk]
        have hb3 := bulkAll_memW (l := xs.map (·.1)) (d := (xs[2]'(by omega)).1) (List.mem_map.2 ⟨_, List.getElem_mem (by omega), rfl⟩)
        have hszr : szR rr ≤ 4194304 := by
          rw [hx.1] at hbk
          simp only [Go.Proofs.Ytoblajbffnkkiaa.Rows.uptoBulk] at hbk
          omega
        obtain rfl : c0 = .int .i64 z0 := by simpa using h0
        obtain rfl : c1 = .int .u64 z1 := by simpa using h1
        simp only [rcl, List.drop, List.take, List.cons.injEq, and_true] at hcs
        obtain ⟨rfl, rfl, rfl, rfl, rfl, rfl⟩ := hcs
        have hb1 := bounds_u64 hw1
        obtain ⟨z2, rfl⟩ := Int.eq_ofNat_of_zero_le hb1.1
        refine ⟨⟨z0, z2, rr, y, c8, l3⟩, fun j hj => ?_, hrec, h3.1, hszr, by show z2 < _; have := hb1.2; omega⟩
        have := hat j hj
        rw [Go.Deep.add_add] at this
        exact this
    obtain ⟨l, hll, hP⟩ := list_of_fun hel
    subst hll
    refine ⟨l, ⟨?_, fun e he => ?_⟩, ?_⟩
    · refine rdV_of_cells (wdeeds_length l) (by decide) hl hm (noF _) (fun i hi' => ?_)
      have hi3 : i / 9 < l.length := by rw [wdeeds_length] at hi'; omega
      have := (hP (i / 9) hi3).1 (i % 9) (Nat.mod_lt _ (by decide))
      have e : i / 9 * 9 + i % 9 = i := by omega
      rw [e] at this
      rw [this, ← wdeeds_get l (i / 9) (i % 9) hi3 (Nat.mod_lt _ (by decide)), e, List.getElem?_eq_getElem hi']
    · obtain ⟨i, hi', rfl⟩ := List.getElem_of_mem he
      exact (hP i hi').2
    · rw [hx.1] at hbk
      simp only [Go.Proofs.Ytoblajbffnkkiaa.Rows.uptoBulk] at hbk
      have h9 := bulkAll_geW ((List.range l.length).map D)
      rw [List.length_map, List.length_range] at h9
      omega
end
end Mun
