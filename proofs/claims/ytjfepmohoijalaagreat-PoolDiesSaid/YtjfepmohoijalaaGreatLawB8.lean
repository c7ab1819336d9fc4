/- From what a row reads of its byte arguments to my own words (two laws of Law.lean that this seat's merged texts leave out). -/
import Derived.Test.YtjfepmohoijalaaGreatMgA
import Derived.ProofKit
import Derived.OpenShut
import Derived.ShutString
import Derived.ChangeOld
import Derived.Below
import Derived.SizedLaws
import Derived.KernelRfl
set_option linter.unusedVariables false
namespace Mun
open Go Go.RowKit Go.ChangeShapes Go.WideShapes Go.ChangeAt

section
variable {H : Type} {enc : TypeId × Value → H} {P : Program}
theorem open_bytes {w : World} {r : Reach} {b0 base : Nat} {spare : Nat → Bool} {held : Bool} {t e : TypeId} {v : Value} {d : DataW H} {p : List MemPlace} (ht : P.underlying t = some (.slice e)) (he : P.underlying e = some (.int .u8)) (hc : P.cellsOf e = 1)
    (hv : Value.okWide P w r b0 t v) (h : DataW.Trod enc P w base spare held t v d p) :
    ∃ l : List UInt8, RdB NoF w v l ∧ ((d = .nil ∧ l = []) ∨ ∃ el sp, d = .slice el sp ∧ l.length ≤ el.length + sp.length) := by
  obtain ⟨a0, len0, cap0, rfl⟩ := okWide_slice ht hv
  obtain ⟨fuel, hf⟩ := h
  rcases open_ints ht he hc hf with ⟨hcs, hx⟩ | ⟨x, len, c, zs, hcs, _, hl, hm, hz, hx, hcell, hwz⟩
  · simp [Value.cells] at hcs
    obtain ⟨rfl, rfl, rfl⟩ := hcs
    simp only [Prod.mk.injEq] at hx
    exact ⟨[], RdB.nil _ _, .inl ⟨hx.1, rfl⟩⟩
  · simp [Value.cells] at hcs
    obtain ⟨rfl, rfl, rfl⟩ := hcs
    simp only [Prod.mk.injEq] at hx
    have hlen : len0 ≤ zs.length := by rw [hz]; split <;> omega
    refine ⟨(zs.take len0).map fun n => UInt8.ofNat n.toNat, ?_, .inr ⟨_, _, hx.1, ?_⟩⟩
    · refine rd_of_cells (by simp; omega) hl hm (noF _) (fun i hi => ?_)
      have hi' : i < zs.length := by simp at hi; omega
      rw [hcell i hi']
      have hw := hwz (zs.getD i 0) (by rw [List.getD_eq_getElem?_getD, List.getElem?_eq_getElem hi']; exact List.getElem_mem hi')
      have hb := bounds_u8 hw
      simp only [List.getElem_map, List.getElem_take, UInt8.toNat_ofNat']
      rw [List.getD_eq_getElem?_getD, List.getElem?_eq_getElem hi'] at hb ⊢
      simp only [Option.getD_some] at hb ⊢
      congr 2
      omega
    · simp [lits]
theorem bytes_reach {ts : List TypeId} {ds : List (DataW H)} {j : Nat} {t e : TypeId} {d : DataW H} {l : List UInt8} (hsz : (DataW.weightsEach P ts ds).all (· ≤ reachBytes) = true)
    (htj : ts[j]? = some t) (hdj : ds[j]? = some d) (ht : P.underlying t = some (.slice e)) (hb : P.bytesOf e = 1)
    (h : (d = .nil ∧ l = []) ∨ ∃ el sp, d = .slice el sp ∧ l.length ≤ el.length + sp.length) : l.length ≤ 140737488351232 := by
  rcases h with ⟨_, rfl⟩ | ⟨el, sp, rfl, hl⟩
  · simp
  · have := sized_slice hsz htj hdj ht
    rw [hb] at this
    simp only [reachBytes] at this
    omega
end
end Mun
