/- How a record of the log lies in memory. -/
import Derived.Test.YtoblajbffnkkiaaP1
import Derived.Test.YtoblajbffnkkiaaRecP
set_option maxRecDepth 100000
set_option linter.unusedVariables false
namespace Mun
open Go Go.RowKit
open Go.Proofs

abbrev CV := PC × Value
def crow1 (p : CV) : List Value := [.int .i64 p.1.page, .int .i64 p.1.at_, .bool p.1.whole, p.2]

/-- a slice of changes -/
structure ChsAt (F : Foot) (w : World) (v : Value) (l : List CV) : Prop where
  row : RdV F w 4 v l.length (l.flatMap crow1)
  rd : ∀ p ∈ l, RdB F w p.2 p.1.b

structure RV where
  dv : Value
  cv : Value
  cs : List CV

def rval (r : PR) (x : RV) : Value := .agg #[.int .i64 r.kind, .int .u64 r.tx, .int .u64 r.prev, .int .u64 r.next, x.dv, x.cv]

/-- a record that lies there -/
structure RecAt (F : Foot) (w : World) (r : PR) (x : RV) : Prop where
  data : RdB F w x.dv r.data
  cs : ChsAt F w x.cv x.cs
  eq : x.cs.map (·.1) = r.cs
  tx : r.tx < 18446744073709551616
  prev : r.prev < 18446744073709551616
  next : r.next < 18446744073709551616

theorem crow_length (l : List CV) : (l.flatMap crow1).length = l.length * 4 := by
  induction l with
  | nil => rfl
  | cons a l ih => simp only [List.flatMap_cons, List.length_append, ih, crow1, List.length_cons, List.length_nil]; omega

theorem crow_get (l : List CV) (i j : Nat) (h : i < l.length) (hj : j < 4) : (l.flatMap crow1)[i * 4 + j]? = (crow1 l[i])[j]? := by
  induction l generalizing i with
  | nil => simp at h
  | cons a l ih =>
    cases i with
    | zero =>
      rw [List.flatMap_cons, List.getElem?_append_left (by simp [crow1]; omega)]
      simp
    | succ i =>
      rw [List.flatMap_cons, List.getElem?_append_right (by simp [crow1]; omega)]
      have : (i + 1) * 4 + j - (crow1 a).length = i * 4 + j := by simp [crow1]; omega
      rw [this, ih i (by simpa using h)]
      simp

section
variable {F F' : Foot} {w w' : World} {v : Value} {l : List CV} {r : PR} {x : RV}

theorem ChsAt.keep (h : ChsAt F w v l) (hk : ∀ k, k < w.heap.size → ¬ F k → w'.heap[k]? = w.heap[k]?) (hF : ∀ k, k < w.heap.size → F' k → F k) : ChsAt F' w' v l :=
  ⟨h.row.keep hk hF, fun d hd => RdV.keep (h.rd d hd) hk hF⟩
theorem ChsAt.chg (h : ChsAt F w v l) (hc : Chg F F' w w') : ChsAt F' w' v l := ⟨h.row.chg hc, fun d hd => (h.rd d hd).chg hc⟩
theorem ChsAt.below (h : ChsAt F w v l) (hb : Below w.heap.size w w') : ChsAt F w' v l := ⟨h.row.below hb, fun d hd => (h.rd d hd).below hb⟩
theorem ChsAt.mono (h : ChsAt F w v l) (hF : ∀ k, k < w.heap.size → F' k → F k) : ChsAt F' w v l := ⟨h.row.mono hF, fun d hd => (h.rd d hd).mono hF⟩
theorem ChsAt.drewN (h : ChsAt F w v l) (k : Nat) : ChsAt F (w.drewN k) v l := ⟨h.row, h.rd⟩

theorem ChsAt.at_ (h : ChsAt F w v l) (i : Nat) (hi : i < l.length) : ∃ g off c, v = .slice (some ⟨g, off, none⟩) l.length c ∧ l.length ≤ c ∧ c ≤ maxLen ∧ ¬ F g ∧ g < w.heap.size ∧
    w.cell? ⟨g, off + i * 4, none⟩ = some (.int .i64 l[i].1.page) ∧ w.cell? ⟨g, off + i * 4 + 1, none⟩ = some (.int .i64 l[i].1.at_) ∧ w.cell? ⟨g, off + i * 4 + 2, none⟩ = some (.bool l[i].1.whole) ∧ w.cell? ⟨g, off + i * 4 + 3, none⟩ = some l[i].2 := by
  obtain ⟨g, off, c, hv, h1, h2, h3, h4, hc⟩ := h.row.at_ (by omega)
  refine ⟨g, off, c, hv, h1, h2, h3, h4, ?_, ?_, ?_, ?_⟩
  · have := hc (i * 4 + 0) _ (by rw [crow_get l i 0 hi (by decide)]; rfl)
    exact this
  · have := hc (i * 4 + 1) _ (by rw [crow_get l i 1 hi (by decide)]; rfl)
    rwa [← Nat.add_assoc] at this
  · have := hc (i * 4 + 2) _ (by rw [crow_get l i 2 hi (by decide)]; rfl)
    rwa [← Nat.add_assoc] at this
  · have := hc (i * 4 + 3) _ (by rw [crow_get l i 3 hi (by decide)]; rfl)
    rwa [← Nat.add_assoc] at this

theorem RecAt.keep (h : RecAt F w r x) (hk : ∀ k, k < w.heap.size → ¬ F k → w'.heap[k]? = w.heap[k]?) (hF : ∀ k, k < w.heap.size → F' k → F k) : RecAt F' w' r x :=
  ⟨RdV.keep h.data hk hF, h.cs.keep hk hF, h.eq, h.tx, h.prev, h.next⟩
theorem RecAt.chg (h : RecAt F w r x) (hc : Chg F F' w w') : RecAt F' w' r x := ⟨h.data.chg hc, h.cs.chg hc, h.eq, h.tx, h.prev, h.next⟩
theorem RecAt.below (h : RecAt F w r x) (hb : Below w.heap.size w w') : RecAt F w' r x := ⟨h.data.below hb, h.cs.below hb, h.eq, h.tx, h.prev, h.next⟩
theorem RecAt.mono (h : RecAt F w r x) (hF : ∀ k, k < w.heap.size → F' k → F k) : RecAt F' w r x := ⟨h.data.mono hF, h.cs.mono hF, h.eq, h.tx, h.prev, h.next⟩
theorem RecAt.drewN (h : RecAt F w r x) (k : Nat) : RecAt F (w.drewN k) r x := ⟨h.data, h.cs.drewN k, h.eq, h.tx, h.prev, h.next⟩
theorem RecAt.len (h : RecAt F w r x) : x.cs.length = r.cs.length := by rw [← h.eq, List.length_map]
theorem RecAt.get (h : RecAt F w r x) (i : Nat) (hi : i < x.cs.length) : r.cs[i]'(by rw [← h.len]; exact hi) = x.cs[i].1 := by
  simp [← h.eq]
end
end Mun
