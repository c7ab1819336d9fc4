/- Texts of mine, one behind the other: DeedP, RecO, OpR, OpL. -/
import Derived.Test.YtoblajbffnkkiaaRows
import Derived.Test.YtoblajbffnkkiaaMgB
import Derived.Deep.Fields
import Derived.Test.YtoblajbffnkkiaaMgC
section
/- A law's arguments: rows of deeds; what the bound of the second form gives of them. -/
set_option maxRecDepth 100000
set_option linter.unusedVariables false
namespace Mun
open Go Go.RowKit Go.ChangeShapes Go.WideShapes
open Go.Proofs

section
open Go.Proofs.Ytoblajbffnkkiaa
theorem bulk_one {H : Type} (d : DataW H) : 1 ≤ Rows.uptoBulk d := by
  cases d with
  | lit l => cases l <;> simp [Rows.uptoBulk]
  | nil => simp [Rows.uptoBulk]
  | ptr d => simp [Rows.uptoBulk]
  | slice elems spare => simp [Rows.uptoBulk]
  | agg parts => simp [Rows.uptoBulk]
  | iface t d => simp [Rows.uptoBulk]
  | map entries => simp [Rows.uptoBulk]
  | held h => simp [Rows.uptoBulk]
theorem bulk_part {H : Type} {d : DataW H} {l : List (DataW H)} (h : d ∈ l) : Rows.uptoBulk d ≤ Rows.uptoBulkAll l := by
  induction l with
  | nil => cases h
  | cons x r ih =>
    simp only [Rows.uptoBulkAll]
    cases List.mem_cons.1 h with
    | inl e => subst e; omega
    | inr e => have := ih e; omega
theorem bulk_length {H : Type} (l : List (DataW H)) : l.length ≤ Rows.uptoBulkAll l := by
  induction l with
  | nil => simp [Rows.uptoBulkAll]
  | cons x r ih => have := bulk_one x; simp only [Rows.uptoBulkAll, List.length_cons]; omega
end

structure Deed where
  op : Int
  n : Int
  b : List UInt8
  v : Value

def Deed.cells (d : Deed) : List Value := [.int .i64 d.op, .int .i64 d.n, d.v]

/-- a slice of deeds -/
structure DeedsAt (F : Foot) (w : World) (v : Value) (l : List Deed) : Prop where
  row : RdV F w 3 v l.length (l.flatMap Deed.cells)
  rd : ∀ d ∈ l, RdB F w d.v d.b
  lo : ∀ d ∈ l, -9223372036854775808 ≤ d.n
  hi : ∀ d ∈ l, d.n ≤ 9223372036854775807

theorem deeds_length (l : List Deed) : (l.flatMap Deed.cells).length = l.length * 3 := by
  induction l with
  | nil => rfl
  | cons a l ih => simp only [List.flatMap_cons, List.length_append, ih, Deed.cells, List.length_cons, List.length_nil]; omega

theorem deeds_get (l : List Deed) (i j : Nat) (h : i < l.length) (hj : j < 3) : (l.flatMap Deed.cells)[i * 3 + j]? = (l[i].cells)[j]? := by
  induction l generalizing i with
  | nil => simp at h
  | cons a l ih =>
    cases i with
    | zero =>
      rw [List.flatMap_cons, List.getElem?_append_left (by simp [Deed.cells]; omega)]
      simp
    | succ i =>
      rw [List.flatMap_cons, List.getElem?_append_right (by simp [Deed.cells]; omega)]
      have : (i + 1) * 3 + j - (Deed.cells a).length = i * 3 + j := by simp [Deed.cells]; omega
      rw [this, ih i (by simpa using h)]
      simp

/-- a row of whatever size, from its cells -/
theorem rdV_of_cells {F : Foot} {w : World} {x : Addr} {len cap size : Nat} {xs : List Value} (hl : xs.length = len * size) (hs : 0 < size) (hlc : len ≤ cap) (hcm : cap ≤ maxLen) (hF : ¬ F x.block)
    (hc : ∀ i (hi : i < xs.length), w.cell? (x.add i) = some xs[i]) : RdV F w size (.slice (some x) len cap) len xs := by
  refine ⟨hl, _, _, rfl, hlc, hcm, by simp, fun hn => ?_⟩
  have hpos : 0 < xs.length := by rw [hl]; exact Nat.mul_pos hn hs
  have h0 := hc 0 hpos
  rw [show x.add 0 = x by simp [Addr.add]] at h0
  obtain ⟨hs', cur, e, fr, hh, _⟩ := cell_block h0
  obtain ⟨g, off, spot⟩ := x
  simp only at hs' hh hF
  subst hs'
  refine ⟨g, off, cur, e, fr, rfl, hF, hh, ?_⟩
  apply List.ext_getElem?
  intro i
  rw [List.getElem?_take]
  by_cases hi : i < xs.length
  · rw [if_pos (by omega), List.getElem?_drop, List.getElem?_eq_getElem hi]
    have h := hc i hi
    rw [addr_add, cell_of_row w g (off + i) cur e fr hh] at h
    simpa using h
  · rw [if_neg (by omega), List.getElem?_eq_none (by omega)]

section
variable {H : Type} {enc : TypeId × Value → H}

/-- bytes that lie in a cell -/
theorem open_bytes_cell {w : World} {base fuel : Nat} {spare : Nat → Bool} {held : Bool} {v : Value} {x : DataW H × List MemPlace} (h : DataW.trod enc Try.prog w base spare held fuel 23 [v] = some x) :
    ∃ l : List UInt8, RdB NoF w v l ∧ l.length ≤ Go.Proofs.Ytoblajbffnkkiaa.Rows.uptoBulk x.1 := by
  rcases open_ints Try.underlying23 Try.underlying5 (by kernel_rfl) h with ⟨hcs, hx⟩ | ⟨x, len, c, zs, hcs, _, hl, hm, hz, hx, hcell, hwz⟩
  · obtain rfl : v = .slice none 0 0 := by simpa using hcs
    exact ⟨[], RdB.nil _ _, Nat.zero_le _⟩
  · obtain rfl : v = .slice (some x) len c := by simpa using hcs
    have hlen : len ≤ zs.length := by rw [hz]; split <;> omega
    refine ⟨(zs.take len).map fun n => UInt8.ofNat n.toNat, rd_of_cells (by simp; omega) hl hm (noF _) (fun i hi => ?_), ?_⟩
    case refine_2 =>
      rw [hx]
      simp only [Go.Proofs.Ytoblajbffnkkiaa.Rows.uptoBulk]
      have := bulk_length (H := H) (lits .u8 (zs.take len))
      have e : (lits (H := H) .u8 (zs.take len)).length = (zs.take len).length := by simp [lits]
      rw [List.length_map]
      omega
    have hi' : i < zs.length := by simp at hi; omega
    rw [hcell i hi']
    have hw := hwz (zs.getD i 0) (by rw [List.getD_eq_getElem?_getD, List.getElem?_eq_getElem hi']; exact List.getElem_mem hi')
    have hb := bounds_u8 hw
    simp only [List.getElem_map, List.getElem_take, UInt8.toNat_ofNat']
    rw [List.getD_eq_getElem?_getD, List.getElem?_eq_getElem hi'] at hb ⊢
    simp only [Option.getD_some] at hb ⊢
    congr 2
    omega

theorem list_of_fun {α : Type} {n : Nat} {P : Nat → α → Prop} (h : ∀ i, i < n → ∃ x, P i x) : ∃ l : List α, l.length = n ∧ ∀ i (hi : i < l.length), P i l[i] := by
  induction n with
  | zero => exact ⟨[], rfl, fun i hi => absurd hi (Nat.not_lt_zero _)⟩
  | succ n ih =>
    obtain ⟨l, hl, hP⟩ := ih (fun i hi => h i (by omega))
    obtain ⟨x, hx⟩ := h n (by omega)
    refine ⟨l ++ [x], by simp [hl], fun i hi => ?_⟩
    by_cases hin : i < l.length
    · rw [List.getElem_append_left hin]; exact hP i hin
    · have : i = n := by simp [hl] at hi; omega
      subst this
      rw [List.getElem_append_right (by omega)]
      simpa [hl] using hx

end

section
variable {F F' : Foot} {w w' : World} {v : Value} {l : List Deed}

theorem DeedsAt.keep (h : DeedsAt F w v l) (hk : ∀ k, k < w.heap.size → ¬ F k → w'.heap[k]? = w.heap[k]?) (hF : ∀ k, k < w.heap.size → F' k → F k) : DeedsAt F' w' v l :=
  ⟨h.row.keep hk hF, fun d hd => RdV.keep (h.rd d hd) hk hF, h.lo, h.hi⟩
theorem DeedsAt.chg (h : DeedsAt F w v l) (hc : Chg F F' w w') : DeedsAt F' w' v l := ⟨h.row.chg hc, fun d hd => (h.rd d hd).chg hc, h.lo, h.hi⟩
theorem DeedsAt.drewN (h : DeedsAt F w v l) (k : Nat) : DeedsAt F (w.drewN k) v l := ⟨h.row, h.rd, h.lo, h.hi⟩

/-- a deed's cells -/
theorem DeedsAt.at_ (h : DeedsAt F w v l) (i : Nat) (hi : i < l.length) : ∃ g off c, v = .slice (some ⟨g, off, none⟩) l.length c ∧ l.length ≤ c ∧ c ≤ maxLen ∧
    w.cell? ⟨g, off + i * 3, none⟩ = some (.int .i64 l[i].op) ∧ w.cell? ⟨g, off + i * 3 + 1, none⟩ = some (.int .i64 l[i].n) ∧ w.cell? ⟨g, off + i * 3 + 2, none⟩ = some l[i].v := by
  obtain ⟨g, off, c, hv, h1, h2, _, _, hc⟩ := h.row.at_ (by omega)
  refine ⟨g, off, c, hv, h1, h2, ?_, ?_, ?_⟩
  · have := hc (i * 3 + 0) _ (by rw [deeds_get l i 0 hi (by decide)]; rfl)
    exact this
  · have := hc (i * 3 + 1) _ (by rw [deeds_get l i 1 hi (by decide)]; rfl)
    rwa [← Nat.add_assoc] at this
  · have := hc (i * 3 + 2) _ (by rw [deeds_get l i 2 hi (by decide)]; rfl)
    rwa [← Nat.add_assoc] at this
end

end Mun
end

section
/- A record that is handed in, opened; what the bound of the second form gives of it. -/
set_option maxRecDepth 100000
set_option linter.unusedVariables false
set_option linter.unusedSimpArgs false
namespace Mun
open Go Go.RowKit Go.ChangeShapes Go.WideShapes
open Go.Proofs

section
open Go.Proofs.Ytoblajbffnkkiaa
theorem bulk_sum {H : Type} {α : Type} (l : List α) (g : α → Nat) (D : Nat → DataW H) : ∀ k, (∀ i (hi : i < l.length), g l[i] ≤ Rows.uptoBulk (D (k + i))) → (l.map g).sum ≤ Rows.uptoBulkAll ((List.range' k l.length).map D) := by
  induction l with
  | nil => intro k _; simp
  | cons a l ih =>
    intro k h
    have h0 := h 0 (by simp)
    have h1 := ih (k + 1) (fun i hi => by
      have := h (i + 1) (by simp; omega)
      rw [show k + 1 + i = k + (i + 1) by omega]
      simpa using this)
    simp only [List.map_cons, List.sum_cons, List.length_cons, List.range'_succ, Rows.uptoBulkAll]
    simp only [List.getElem_cons_zero, Nat.add_zero] at h0
    omega
end

theorem szC_sum (l : List CV) : ((l.map (·.1)).map szC).sum + l.length ≤ 3 * (l.map fun p => 4 + p.1.b.length).sum := by
  induction l with
  | nil => simp
  | cons a l ih => simp only [List.map_cons, List.sum_cons, List.length_cons, szC] at *; omega

/-- a record's cells -/
def rcl (r : PR) (y : RV) : List Value := [.int .i64 r.kind, .int .u64 r.tx, .int .u64 r.prev, .int .u64 r.next, y.dv, y.cv]

section
variable {H : Type} {enc : TypeId × Value → H}

theorem open_chs {w : World} {base fuel : Nat} {spare : Nat → Bool} {held : Bool} {v : Value} {x : DataW H × List MemPlace} (h : DataW.trod enc Try.prog w base spare held fuel 24 [v] = some x) :
    ∃ l : List CV, ChsAt NoF w v l ∧ ((l.map (·.1)).map szC).sum + l.length ≤ 3 * Go.Proofs.Ytoblajbffnkkiaa.Rows.uptoBulk x.1 := by
  rcases Deep.open_slice Try.underlying24 h with ⟨hcs, hx⟩ | ⟨x, len0, c, m, n, D, Pl, hcs, _, hl, hm, hmm, hx, hi⟩
  · obtain rfl : v = .slice none 0 0 := by simpa using hcs
    exact ⟨[], ⟨RdV.nil _ _ _, by simp⟩, by simp⟩
  · obtain rfl : v = .slice (some x) len0 c := by simpa using hcs
    have hC : Try.prog.cellsOf 81 = 4 := by kernel_rfl
    rw [hC] at hi
    have hlm : len0 ≤ m := by rw [hmm]; split <;> omega
    have hel : ∀ i, i < len0 → ∃ e : CV, (∀ j (hj : j < 4), w.cell? (x.add (i * 4 + j)) = (crow1 e)[j]?) ∧ RdB NoF w e.2 e.1.b ∧ 4 + e.1.b.length ≤ Go.Proofs.Ytoblajbffnkkiaa.Rows.uptoBulk (D i) := by
      intro i hi0
      obtain ⟨cs', hc, ht'⟩ := hi i (by omega)
      obtain ⟨xs, n', _, hDi, _, hlen, hf'⟩ := DataW.trod_struct Try.underlying81 ht'
      obtain ⟨_, hcl, hat⟩ := World.cells?_some hc
      match cs', hcl with
      | [c0, c1, c2, c3], _ =>
        have e0 : Try.prog.cellsOf 3 = 1 := by kernel_rfl
        have e1 : Try.prog.cellsOf 4 = 1 := by kernel_rfl
        have e2 : Try.prog.cellsOf 23 = 1 := by kernel_rfl
        have f0 : DataW.trod enc Try.prog w base spare held n' 3 (([c0, c1, c2, c3].drop 0).take (Try.prog.cellsOf 3)) = xs[0]? := hf' 0 _ rfl
        have f1 : DataW.trod enc Try.prog w base spare held n' 3 (([c0, c1, c2, c3].drop 1).take (Try.prog.cellsOf 3)) = xs[1]? := hf' 1 _ rfl
        have f2 : DataW.trod enc Try.prog w base spare held n' 4 (([c0, c1, c2, c3].drop 2).take (Try.prog.cellsOf 4)) = xs[2]? := hf' 2 _ rfl
        have f3 : DataW.trod enc Try.prog w base spare held n' 23 (([c0, c1, c2, c3].drop 3).take (Try.prog.cellsOf 23)) = xs[3]? := hf' 3 _ rfl
        rw [e0] at f0 f1
        rw [e1] at f2
        rw [e2] at f3
        have hlen4 : xs.length = 4 := hlen
        match xs, hlen4 with
        | [y0, y1, y2, y3], _ =>
          obtain ⟨z0, h0, _, hw0⟩ := DataW.trod_int (x := y0) Try.underlying3 f0
          obtain ⟨z1, h1, _, hw1⟩ := DataW.trod_int (x := y1) Try.underlying3 f1
          obtain ⟨z2, h2, _⟩ := DataW.trod_bool (x := y2) Try.underlying4 f2
          obtain ⟨l3, h3, hl3⟩ := open_bytes_cell (x := y3) f3
          obtain rfl : c0 = .int .i64 z0 := by simpa using h0
          obtain rfl : c1 = .int .i64 z1 := by simpa using h1
          obtain rfl : c2 = .bool z2 := by simpa using h2
          refine ⟨(⟨z0, z1, z2, l3⟩, c3), fun j hj => ?_, h3, ?_⟩
          case refine_2 =>
            simp only [Prod.mk.injEq] at hDi
            rw [hDi.1]
            have b0 := bulk_one y0.1
            have b1 := bulk_one y1.1
            have b2 := bulk_one y2.1
            simp only [List.map_cons, List.map_nil, Go.Proofs.Ytoblajbffnkkiaa.Rows.uptoBulk, Go.Proofs.Ytoblajbffnkkiaa.Rows.uptoBulkAll]
            omega
          have := hat j hj
          rw [Go.Deep.add_add] at this
          exact this
    obtain ⟨l, hll, hP⟩ := list_of_fun hel
    subst hll
    refine ⟨l, ⟨?_, fun e he => ?_⟩, ?_⟩
    · refine rdV_of_cells (crow_length l) (by decide) hl hm (noF _) (fun i hi' => ?_)
      have hi4 : i / 4 < l.length := by rw [crow_length] at hi'; omega
      have := (hP (i / 4) hi4).1 (i % 4) (Nat.mod_lt _ (by decide))
      have e : i / 4 * 4 + i % 4 = i := by omega
      rw [e] at this
      rw [this, ← crow_get l (i / 4) (i % 4) hi4 (Nat.mod_lt _ (by decide)), e, List.getElem?_eq_getElem hi']
    · obtain ⟨i, hi', rfl⟩ := List.getElem_of_mem he
      exact (hP i hi').2.1
    · have h1 := szC_sum l
      have h2 := bulk_sum (H := H) l (fun p => 4 + p.1.b.length) D 0 (fun i hi' => by rw [Nat.zero_add]; exact (hP i hi').2.2)
      rw [hx]
      simp only [Go.Proofs.Ytoblajbffnkkiaa.Rows.uptoBulk]
      rw [← List.range_eq_range'] at h2
      omega

/-- a record that lies in six cells -/
theorem open_rec6 {w : World} {base fuel : Nat} {spare : Nat → Bool} {held : Bool} {cs : List Value} {x : DataW H × List MemPlace} (h : DataW.trod enc Try.prog w base spare held fuel 26 cs = some x) :
    ∃ r y, cs = (rcl r y) ∧ RecAt NoF w r y ∧ szR r + 3 ≤ 3 * Go.Proofs.Ytoblajbffnkkiaa.Rows.uptoBulk x.1 ∧ -9223372036854775808 ≤ r.kind ∧ r.kind ≤ 9223372036854775807 := by
  obtain ⟨xs, n', _, hDi, hcl, hlen, hf'⟩ := DataW.trod_struct Try.underlying26 h
  have hC : Try.prog.cellsOf 26 = 6 := by kernel_rfl
  rw [hC] at hcl
  match cs, hcl with
  | [c0, c1, c2, c3, c4, c5], _ =>
    have e0 : Try.prog.cellsOf 3 = 1 := by kernel_rfl
    have e1 : Try.prog.cellsOf 22 = 1 := by kernel_rfl
    have e2 : Try.prog.cellsOf 23 = 1 := by kernel_rfl
    have e3 : Try.prog.cellsOf 24 = 1 := by kernel_rfl
    have f0 : DataW.trod enc Try.prog w base spare held n' 3 (([c0, c1, c2, c3, c4, c5].drop 0).take (Try.prog.cellsOf 3)) = xs[0]? := hf' 0 _ rfl
    have f1 : DataW.trod enc Try.prog w base spare held n' 22 (([c0, c1, c2, c3, c4, c5].drop 1).take (Try.prog.cellsOf 22)) = xs[1]? := hf' 1 _ rfl
    have f2 : DataW.trod enc Try.prog w base spare held n' 22 (([c0, c1, c2, c3, c4, c5].drop 2).take (Try.prog.cellsOf 22)) = xs[2]? := hf' 2 _ rfl
    have f3 : DataW.trod enc Try.prog w base spare held n' 22 (([c0, c1, c2, c3, c4, c5].drop 3).take (Try.prog.cellsOf 22)) = xs[3]? := hf' 3 _ rfl
    have f4 : DataW.trod enc Try.prog w base spare held n' 23 (([c0, c1, c2, c3, c4, c5].drop 4).take (Try.prog.cellsOf 23)) = xs[4]? := hf' 4 _ rfl
    have f5 : DataW.trod enc Try.prog w base spare held n' 24 (([c0, c1, c2, c3, c4, c5].drop 5).take (Try.prog.cellsOf 24)) = xs[5]? := hf' 5 _ rfl
    rw [e0] at f0
    rw [e1] at f1 f2 f3
    rw [e2] at f4
    rw [e3] at f5
    have hlen6 : xs.length = 6 := hlen
    match xs, hlen6 with
    | [y0, y1, y2, y3, y4, y5], _ =>
      obtain ⟨z0, h0, _, hw0⟩ := DataW.trod_int (x := y0) Try.underlying3 f0
      obtain ⟨z1, h1, _, hw1⟩ := DataW.trod_int (x := y1) Try.underlying22 f1
      obtain ⟨z2, h2, _, hw2⟩ := DataW.trod_int (x := y2) Try.underlying22 f2
      obtain ⟨z3, h3, _, hw3⟩ := DataW.trod_int (x := y3) Try.underlying22 f3
      obtain ⟨l4, h4, hl4⟩ := open_bytes_cell (x := y4) f4
      obtain ⟨l5, h5, hl5⟩ := open_chs (x := y5) f5
      obtain rfl : c0 = .int .i64 z0 := by simpa using h0
      obtain rfl : c1 = .int .u64 z1 := by simpa using h1
      obtain rfl : c2 = .int .u64 z2 := by simpa using h2
      obtain rfl : c3 = .int .u64 z3 := by simpa using h3
      have b0 := bounds_i64 hw0
      have b1 := bounds_u64 hw1
      have b2 := bounds_u64 hw2
      have b3 := bounds_u64 hw3
      obtain ⟨n1, rfl⟩ := Int.eq_ofNat_of_zero_le b1.1
      obtain ⟨n2, rfl⟩ := Int.eq_ofNat_of_zero_le b2.1
      obtain ⟨n3, rfl⟩ := Int.eq_ofNat_of_zero_le b3.1
      have q1 := b1.2
      have q2 := b2.2
      have q3 := b3.2
      have q0 := b0.2
      refine ⟨⟨z0, n1, n2, n3, l4, l5.map (·.1)⟩, ⟨c4, c5, l5⟩, rfl, ⟨h4, h5, rfl, by show n1 < _; omega, by show n2 < _; omega, by show n3 < _; omega⟩, ?_, b0.1, by show z0 ≤ _; omega⟩
      rw [hDi]
      have b1 := bulk_one y1.1
      simp only [szR, List.length_map, List.map_cons, List.map_nil, Go.Proofs.Ytoblajbffnkkiaa.Rows.uptoBulk, Go.Proofs.Ytoblajbffnkkiaa.Rows.uptoBulkAll]
      omega
end
end Mun
end

section
/- A law's argument of type api.Rec or []byte, opened. -/
set_option maxRecDepth 100000
set_option linter.unusedVariables false
namespace Mun
open Go Go.RowKit
open Go.Proofs

section
variable {H : Type} {enc : TypeId × Value → H}
theorem open_rec {w : World} {rc : Reach} {b0 base : Nat} {spare : Nat → Bool} {held : Bool} {v : Value} {d : DataW H} {p : List MemPlace}
    (hv : Value.okWide Try.prog w rc b0 26 v) (h : DataW.Trod enc Try.prog w base spare held 26 v d p) :
    ∃ r y, v = rval r y ∧ RecAt NoF w r y ∧ szR r ≤ 3 * Go.Proofs.Ytoblajbffnkkiaa.Rows.uptoBulk d ∧ -9223372036854775808 ≤ r.kind ∧ r.kind ≤ 9223372036854775807 := by
  obtain ⟨cs, rfl, _⟩ := Go.WideShapes.okWide_struct Try.underlying26 hv
  obtain ⟨fuel, hf⟩ := h
  obtain ⟨r, y, hc, h1, h2, h3, h4⟩ := open_rec6 hf
  refine ⟨r, y, ?_, h1, Nat.le_trans (Nat.le_add_right _ 3) h2, h3, h4⟩
  have hc' : cs.toList = rcl r y := hc
  have : cs = (rcl r y).toArray := by rw [← hc']
  rw [this]; rfl

theorem open_bytes_b {w : World} {rc : Reach} {b0 base : Nat} {spare : Nat → Bool} {held : Bool} {v : Value} {d : DataW H} {p : List MemPlace}
    (hv : Value.okWide Try.prog w rc b0 23 v) (h : DataW.Trod enc Try.prog w base spare held 23 v d p) :
    ∃ l : List UInt8, RdB NoF w v l ∧ l.length ≤ Go.Proofs.Ytoblajbffnkkiaa.Rows.uptoBulk d := by
  obtain ⟨a0, len0, cap0, rfl⟩ := Go.WideShapes.okWide_slice Try.underlying23 hv
  obtain ⟨fuel, hf⟩ := h
  exact open_bytes_cell (v := .slice a0 len0 cap0) hf
end
end Mun
end

section
/- A law's argument of type []api.Rec, opened. -/
set_option maxRecDepth 100000
set_option linter.unusedVariables false
set_option linter.unusedSimpArgs false
namespace Mun
open Go Go.RowKit
open Go.Proofs

/-- a record, and where it lies -/
abbrev QV := PR × RV

theorem rcl_length (l : List QV) : (l.flatMap fun p => rcl p.1 p.2).length = l.length * 6 := by
  induction l with
  | nil => rfl
  | cons a l ih => rw [List.flatMap_cons, List.length_append, ih, List.length_cons, show (rcl a.1 a.2).length = 6 from rfl]; omega

theorem rcl_get (l : List QV) (i j : Nat) (h : i < l.length) (hj : j < 6) : (l.flatMap fun p => rcl p.1 p.2)[i * 6 + j]? = (rcl l[i].1 l[i].2)[j]? := by
  induction l generalizing i with
  | nil => simp at h
  | cons a l ih =>
    simp only [List.flatMap_cons]
    cases i with
    | zero => rw [Nat.zero_mul, Nat.zero_add, List.getElem?_append_left (by simp [rcl]; omega)]; rfl
    | succ i =>
      have h6 : (rcl a.1 a.2).length = 6 := rfl
      rw [List.getElem?_append_right (by rw [h6]; omega), h6, show (i + 1) * 6 + j - 6 = i * 6 + j by omega, ih i (by simpa using h)]
      rfl

/-- a list of records that is handed in -/
structure RecsAt (F : Foot) (w : World) (v : Value) (l : List QV) : Prop where
  row : RdV F w 6 v l.length (l.flatMap fun p => rcl p.1 p.2)
  rd : ∀ p ∈ l, RecAt F w p.1 p.2

theorem RecsAt.below {F : Foot} {w w' : World} {v : Value} {l : List QV} (h : RecsAt F w v l) (hb : Below w.heap.size w w') : RecsAt F w' v l := ⟨h.row.below hb, fun p hp => (h.rd p hp).below hb⟩

theorem RecsAt.at_ {F : Foot} {w : World} {v : Value} {l : List QV} (h : RecsAt F w v l) (i : Nat) (hi : i < l.length) : ∃ g off c, v = .slice (some ⟨g, off, none⟩) l.length c ∧ l.length ≤ c ∧ c ≤ maxLen ∧ ¬ F g ∧ g < w.heap.size ∧
    (∀ j u, (rcl l[i].1 l[i].2)[j]? = some u → w.cell? ⟨g, off + (i * 6 + j), none⟩ = some u) := by
  obtain ⟨g, off, c, hv, h1, h2, h3, h4, h5⟩ := RdV.at_ h.row (by omega)
  refine ⟨g, off, c, hv, h1, h2, h3, h4, fun j u hu => ?_⟩
  have hj : j < 6 := by
    rcases Nat.lt_or_ge j 6 with h6 | h6
    · exact h6
    · rw [List.getElem?_eq_none (by simpa [rcl] using h6)] at hu; cases hu
  exact h5 _ u (by rw [rcl_get l i j hi hj]; exact hu)

theorem le_sum_nat : ∀ (l : List Nat) (x : Nat), x ∈ l → x ≤ l.sum
  | [], x, h => by cases h
  | a :: l, x, h => by
    rw [List.sum_cons]
    rcases List.mem_cons.1 h with rfl | h
    · omega
    · have := le_sum_nat l x h; omega

theorem length_le_sum {α : Type} (g : α → Nat) (hg : ∀ a, 1 ≤ g a) : ∀ l : List α, l.length ≤ (l.map g).sum
  | [] => by simp
  | a :: l => by
    have := length_le_sum g hg l
    have := hg a
    simp only [List.length_cons, List.map_cons, List.sum_cons]; omega

section
variable {H : Type} {enc : TypeId × Value → H}
theorem open_recs {w : World} {rc : Reach} {b0 base : Nat} {spare : Nat → Bool} {held : Bool} {v : Value} {d : DataW H} {p : List MemPlace}
    (hv : Value.okWide Try.prog w rc b0 46 v) (h : DataW.Trod enc Try.prog w base spare held 46 v d p) :
    ∃ l : List QV, RecsAt NoF w v l ∧ l.length ≤ Go.Proofs.Ytoblajbffnkkiaa.Rows.uptoBulk d ∧ ∀ p ∈ l, szR p.1 ≤ 3 * Go.Proofs.Ytoblajbffnkkiaa.Rows.uptoBulk d := by
  obtain ⟨a0, len0, cap0, rfl⟩ := Go.WideShapes.okWide_slice Try.underlying46 hv
  obtain ⟨fuel, hf⟩ := h
  rcases Deep.open_slice Try.underlying46 hf with ⟨hcs, hx⟩ | ⟨x, len, c, m, n, D, Pl, hcs, _, hl, hm, hmm, hx, hi⟩
  · simp [Value.cells] at hcs
    obtain ⟨rfl, rfl, rfl⟩ := hcs
    exact ⟨[], ⟨RdV.nil _ _ _, by simp⟩, by simp, by simp⟩
  · simp [Value.cells] at hcs
    obtain ⟨rfl, rfl, rfl⟩ := hcs
    simp only [Prod.mk.injEq] at hx
    have hC : Try.prog.cellsOf 26 = 6 := by kernel_rfl
    rw [hC] at hi
    have hlm : len0 ≤ m := by rw [hmm]; split <;> omega
    have hel : ∀ i, i < len0 → ∃ e : QV, (∀ j (hj : j < 6), w.cell? (x.add (i * 6 + j)) = (rcl e.1 e.2)[j]?) ∧ RecAt NoF w e.1 e.2 ∧ szR e.1 + 3 ≤ 3 * Go.Proofs.Ytoblajbffnkkiaa.Rows.uptoBulk (D i) := by
      intro i hi0
      obtain ⟨cs', hc, ht'⟩ := hi i (by omega)
      obtain ⟨_, hcl, hat⟩ := World.cells?_some hc
      obtain ⟨r, y, hcs, h1, h2, _, _⟩ := open_rec6 ht'
      refine ⟨(r, y), fun j hj => ?_, h1, h2⟩
      have := hat j (by omega)
      rw [Go.Deep.add_add] at this
      rw [this, hcs]
    obtain ⟨l, hll, hP⟩ := list_of_fun hel
    subst hll
    have hsum := bulk_sum (H := H) l (fun p => szR p.1 / 3 + 1) D 0 (fun i hi' => by
      rw [Nat.zero_add]
      have := (hP i hi').2.2
      show szR l[i].1 / 3 + 1 ≤ _
      omega)
    have hall : (l.map fun p => szR p.1 / 3 + 1).sum ≤ Go.Proofs.Ytoblajbffnkkiaa.Rows.uptoBulk d := by
      rw [hx.1]
      simp only [Go.Proofs.Ytoblajbffnkkiaa.Rows.uptoBulk]
      rw [← List.range_eq_range'] at hsum
      omega
    refine ⟨l, ⟨?_, fun e he => ?_⟩, ?_, fun e he => ?_⟩
    · refine rdV_of_cells (rcl_length l) (by decide) hl hm (noF _) (fun i hi' => ?_)
      have hi6 : i / 6 < l.length := by rw [rcl_length] at hi'; omega
      have := (hP (i / 6) hi6).1 (i % 6) (Nat.mod_lt _ (by decide))
      have e : i / 6 * 6 + i % 6 = i := by omega
      rw [e] at this
      rw [this, ← rcl_get l (i / 6) (i % 6) hi6 (Nat.mod_lt _ (by decide)), e, List.getElem?_eq_getElem hi']
    · obtain ⟨i, hi', rfl⟩ := List.getElem_of_mem he
      exact (hP i hi').2.1
    · refine Nat.le_trans (length_le_sum (fun p : QV => szR p.1 / 3 + 1) (fun a => by omega) l) hall
    · have := le_sum_nat _ _ (List.mem_map_of_mem (f := fun p : QV => szR p.1 / 3 + 1) he)
      omega
end
end Mun
end
