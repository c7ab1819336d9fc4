/- A law's arguments: rows of deeds; what the bound of the second form gives of them. -/
import Derived.Test.YtoblajbffnkkiaaRows
import Derived.Test.YtoblajbffnkkiaaBase
import Derived.Test.YtoblajbffnkkiaaLaw
import Derived.Deep.Fields
set_option maxRecDepth 100000
set_option linter.unusedVariables false
namespace Mun
open Go Go.RowKit Go.ChangeShapes Go.WideShapes
open Go.Proofs

section
open Go.Proofs.Ytoblajbffnkkiaa
theorem bulk_one {H : Type} (d : DataW H) : 1 ≤ Rows.uptoBulk d := by
  cases d with
  | lit l => cases l <;> simp [Rows.uptoBulk]
  | nil => simp [Rows.uptoBulk]
  | ptr d => simp [Rows.uptoBulk]
  | slice elems spare => simp [Rows.uptoBulk]
  | agg parts => simp [Rows.uptoBulk]
  | iface t d => simp [Rows.uptoBulk]
  | map entries => simp [Rows.uptoBulk]
  | held h => simp [Rows.uptoBulk]
theorem bulk_part {H : Type} {d : DataW H} {l : List (DataW H)} (h : d ∈ l) : Rows.uptoBulk d ≤ Rows.uptoBulkAll l := by
  induction l with
  | nil => cases h
  | cons x r ih =>
    simp only [Rows.uptoBulkAll]
    cases List.mem_cons.1 h with
    | inl e => subst e; omega
    | inr e => have := ih e; omega
theorem bulk_length {H : Type} (l : List (DataW H)) : l.length ≤ Rows.uptoBulkAll l := by
  induction l with
  | nil => simp [Rows.uptoBulkAll]
  | cons x r ih => have := bulk_one x; simp only [Rows.uptoBulkAll, List.length_cons]; omega
end

structure Deed where
  op : Int
  n : Int
  b : List UInt8
  v : Value

def Deed.cells (d : Deed) : List Value := [.int .i64 d.op, .int .i64 d.n, d.v]

/-- a slice of deeds -/
structure DeedsAt (F : Foot) (w : World) (v : Value) (l : List Deed) : Prop where
  row : RdV F w 3 v l.length (l.flatMap Deed.cells)
  rd : ∀ d ∈ l, RdB F w d.v d.b
  lo : ∀ d ∈ l, -9223372036854775808 ≤ d.n
  hi : ∀ d ∈ l, d.n ≤ 9223372036854775807

theorem deeds_length (l : List Deed) : (l.flatMap Deed.cells).length = l.length * 3 := by
  induction l with
  | nil => rfl
  | cons a l ih => simp only [List.flatMap_cons, List.length_append, ih, Deed.cells, List.length_cons, List.length_nil]; omega

theorem deeds_get (l : List Deed) (i j : Nat) (h : i < l.length) (hj : j < 3) : (l.flatMap Deed.cells)[i * 3 + j]? = (l[i].cells)[j]? := by
  induction l generalizing i with
  | nil => simp at h
  | cons a l ih =>
    cases i with
    | zero =>
      rw [List.flatMap_cons, List.getElem?_append_left (by simp [Deed.cells]; omega)]
      simp
    | succ i =>
      rw [List.flatMap_cons, List.getElem?_append_right (by simp [Deed.cells]; omega)]
      have : (i + 1) * 3 + j - (Deed.cells a).length = i * 3 + j := by simp [Deed.cells]; omega
      rw [this, ih i (by simpa using h)]
      simp

/-- a row of whatever size, from its cells -/
theorem rdV_of_cells {F : Foot} {w : World} {x : Addr} {len cap size : Nat} {xs : List Value} (hl : xs.length = len * size) (hs : 0 < size) (hlc : len ≤ cap) (hcm : cap ≤ maxLen) (hF : ¬ F x.block)
    (hc : ∀ i (hi : i < xs.length), w.cell? (x.add i) = some xs[i]) : RdV F w size (.slice (some x) len cap) len xs := by
  refine ⟨hl, _, _, rfl, hlc, hcm, by simp, fun hn => ?_⟩
  have hpos : 0 < xs.length := by rw [hl]; exact Nat.mul_pos hn hs
  have h0 := hc 0 hpos
  rw [show x.add 0 = x by simp [Addr.add]] at h0
  obtain ⟨hs', cur, e, fr, hh, _⟩ := cell_block h0
  obtain ⟨g, off, spot⟩ := x
  simp only at hs' hh hF
  subst hs'
  refine ⟨g, off, cur, e, fr, rfl, hF, hh, ?_⟩
  apply List.ext_getElem?
  intro i
  rw [List.getElem?_take]
  by_cases hi : i < xs.length
  · rw [if_pos (by omega), List.getElem?_drop, List.getElem?_eq_getElem hi]
    have h := hc i hi
    rw [addr_add, cell_of_row w g (off + i) cur e fr hh] at h
    simpa using h
  · rw [if_neg (by omega), List.getElem?_eq_none (by omega)]

section
variable {H : Type} {enc : TypeId × Value → H}

/-- bytes that lie in a cell -/
theorem open_bytes_cell {w : World} {base fuel : Nat} {spare : Nat → Bool} {held : Bool} {v : Value} {x : DataW H × List MemPlace} (h : DataW.trod enc Try.prog w base spare held fuel 23 [v] = some x) :
    ∃ l : List UInt8, RdB NoF w v l ∧ l.length ≤ Go.Proofs.Ytoblajbffnkkiaa.Rows.uptoBulk x.1 := by
  rcases open_ints Try.underlying23 Try.underlying5 (by kernel_rfl) h with ⟨hcs, hx⟩ | ⟨x, len, c, zs, hcs, _, hl, hm, hz, hx, hcell, hwz⟩
  · obtain rfl : v = .slice none 0 0 := by simpa using hcs
    exact ⟨[], RdB.nil _ _, Nat.zero_le _⟩
  · obtain rfl : v = .slice (some x) len c := by simpa using hcs
    have hlen : len ≤ zs.length := by rw [hz]; split <;> omega
    refine ⟨(zs.take len).map fun n => UInt8.ofNat n.toNat, rd_of_cells (by simp; omega) hl hm (noF _) (fun i hi => ?_), ?_⟩
    case refine_2 =>
      rw [hx]
      simp only [Go.Proofs.Ytoblajbffnkkiaa.Rows.uptoBulk]
      have := bulk_length (H := H) (lits .u8 (zs.take len))
      have e : (lits (H := H) .u8 (zs.take len)).length = (zs.take len).length := by simp [lits]
      rw [List.length_map]
      omega
    have hi' : i < zs.length := by simp at hi; omega
    rw [hcell i hi']
    have hw := hwz (zs.getD i 0) (by rw [List.getD_eq_getElem?_getD, List.getElem?_eq_getElem hi']; exact List.getElem_mem hi')
    have hb := bounds_u8 hw
    simp only [List.getElem_map, List.getElem_take, UInt8.toNat_ofNat']
    rw [List.getD_eq_getElem?_getD, List.getElem?_eq_getElem hi'] at hb ⊢
    simp only [Option.getD_some] at hb ⊢
    congr 2
    omega

theorem list_of_fun {α : Type} {n : Nat} {P : Nat → α → Prop} (h : ∀ i, i < n → ∃ x, P i x) : ∃ l : List α, l.length = n ∧ ∀ i (hi : i < l.length), P i l[i] := by
  induction n with
  | zero => exact ⟨[], rfl, fun i hi => absurd hi (Nat.not_lt_zero _)⟩
  | succ n ih =>
    obtain ⟨l, hl, hP⟩ := ih (fun i hi => h i (by omega))
    obtain ⟨x, hx⟩ := h n (by omega)
    refine ⟨l ++ [x], by simp [hl], fun i hi => ?_⟩
    by_cases hin : i < l.length
    · rw [List.getElem_append_left hin]; exact hP i hin
    · have : i = n := by simp [hl] at hi; omega
      subst this
      rw [List.getElem_append_right (by omega)]
      simpa [hl] using hx

end

section
variable {F F' : Foot} {w w' : World} {v : Value} {l : List Deed}

theorem DeedsAt.keep (h : DeedsAt F w v l) (hk : ∀ k, k < w.heap.size → ¬ F k → w'.heap[k]? = w.heap[k]?) (hF : ∀ k, k < w.heap.size → F' k → F k) : DeedsAt F' w' v l :=
  ⟨h.row.keep hk hF, fun d hd => RdV.keep (h.rd d hd) hk hF, h.lo, h.hi⟩
theorem DeedsAt.chg (h : DeedsAt F w v l) (hc : Chg F F' w w') : DeedsAt F' w' v l := ⟨h.row.chg hc, fun d hd => (h.rd d hd).chg hc, h.lo, h.hi⟩
theorem DeedsAt.drewN (h : DeedsAt F w v l) (k : Nat) : DeedsAt F (w.drewN k) v l := ⟨h.row, h.rd, h.lo, h.hi⟩

/-- a deed's cells -/
theorem DeedsAt.at_ (h : DeedsAt F w v l) (i : Nat) (hi : i < l.length) : ∃ g off c, v = .slice (some ⟨g, off, none⟩) l.length c ∧ l.length ≤ c ∧ c ≤ maxLen ∧
    w.cell? ⟨g, off + i * 3, none⟩ = some (.int .i64 l[i].op) ∧ w.cell? ⟨g, off + i * 3 + 1, none⟩ = some (.int .i64 l[i].n) ∧ w.cell? ⟨g, off + i * 3 + 2, none⟩ = some l[i].v := by
  obtain ⟨g, off, c, hv, h1, h2, _, _, hc⟩ := h.row.at_ (by omega)
  refine ⟨g, off, c, hv, h1, h2, ?_, ?_, ?_⟩
  · have := hc (i * 3 + 0) _ (by rw [deeds_get l i 0 hi (by decide)]; rfl)
    exact this
  · have := hc (i * 3 + 1) _ (by rw [deeds_get l i 1 hi (by decide)]; rfl)
    rwa [← Nat.add_assoc] at this
  · have := hc (i * 3 + 2) _ (by rw [deeds_get l i 2 hi (by decide)]; rfl)
    rwa [← Nat.add_assoc] at this
end

end Mun
