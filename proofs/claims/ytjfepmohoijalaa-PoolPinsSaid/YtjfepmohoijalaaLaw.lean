/- From what a row reads of its arguments to my own words; and back. -/
import Derived.Test.YtjfepmohoijalaaMem
import Derived.ProofKit
import Derived.OpenShut
import Derived.ShutString
import Derived.ChangeOld
import Derived.Below
import Derived.SizedLaws
import Derived.KernelRfl
set_option linter.unusedVariables false
namespace Mun
open Go Go.RowKit Go.ChangeShapes Go.WideShapes Go.ChangeAt

def NoF : Foot := fun _ => False
theorem noF (k : Nat) : ¬ NoF k := fun h => h

theorem cell_block {w : World} {a : Addr} {v : Value} (h : w.cell? a = some v) : a.spot = none ∧ ∃ cur e fr, w.heap[a.block]? = some (.cells cur e fr) ∧ cur[a.off]? = some v := by
  unfold World.cell? at h
  split at h
  · rename_i c e fr hh
    split at h
    · cases h
    · rename_i hs
      exact ⟨by simpa using hs, c, e, fr, hh, h⟩
  · cases h

theorem rd_of_cells {F : Foot} {w : World} {x : Addr} {len cap : Nat} {l : List UInt8} (hl : l.length = len) (hlc : len ≤ cap) (hcm : cap ≤ maxLen) (hF : ¬ F x.block)
    (hc : ∀ i (hi : i < l.length), w.cell? (x.add i) = some (.int .u8 (l[i].toNat : Int))) : RdB F w (.slice (some x) len cap) l := by
  subst hl
  refine ⟨by simp [bv], _, _, rfl, hlc, hcm, by simp, fun hn => ?_⟩
  have h0 := hc 0 hn
  rw [show x.add 0 = x by simp [Addr.add]] at h0
  obtain ⟨hs, cur, e, fr, hh, _⟩ := cell_block h0
  obtain ⟨g, off, spot⟩ := x
  simp only at hs hh hF
  subst hs
  refine ⟨g, off, cur, e, fr, rfl, hF, hh, ?_⟩
  apply List.ext_getElem?
  intro i
  rw [List.getElem?_take, bv_getElem?]
  by_cases hi : i < l.length
  · rw [if_pos (by omega), List.getElem?_drop, List.getElem?_eq_getElem hi]
    have h := hc i hi
    rw [addr_add, cell_of_row w g (off + i) cur e fr hh] at h
    simpa using h
  · rw [if_neg (by omega), List.getElem?_eq_none (by omega)]; rfl

section
variable {H : Type} {enc : TypeId × Value → H} {P : Program}

/-- an argument that is a slice of bytes -/
theorem open_bytes {w : World} {r : Reach} {b0 base : Nat} {spare : Nat → Bool} {held : Bool} {t e : TypeId} {v : Value} {d : DataW H} {p : List MemPlace} (ht : P.underlying t = some (.slice e)) (he : P.underlying e = some (.int .u8)) (hc : P.cellsOf e = 1)
    (hv : Value.okWide P w r b0 t v) (h : DataW.Trod enc P w base spare held t v d p) :
    ∃ l : List UInt8, RdB NoF w v l ∧ ((d = .nil ∧ l = []) ∨ ∃ el sp, d = .slice el sp ∧ l.length ≤ el.length + sp.length) := by
  obtain ⟨a0, len0, cap0, rfl⟩ := okWide_slice ht hv
  obtain ⟨fuel, hf⟩ := h
  rcases open_ints ht he hc hf with ⟨hcs, hx⟩ | ⟨x, len, c, zs, hcs, _, hl, hm, hz, hx, hcell, hwz⟩
  · simp [Value.cells] at hcs
    obtain ⟨rfl, rfl, rfl⟩ := hcs
    simp only [Prod.mk.injEq] at hx
    exact ⟨[], RdB.nil _ _, .inl ⟨hx.1, rfl⟩⟩
  · simp [Value.cells] at hcs
    obtain ⟨rfl, rfl, rfl⟩ := hcs
    simp only [Prod.mk.injEq] at hx
    have hlen : len0 ≤ zs.length := by rw [hz]; split <;> omega
    refine ⟨(zs.take len0).map fun n => UInt8.ofNat n.toNat, ?_, .inr ⟨_, _, hx.1, ?_⟩⟩
    · refine rd_of_cells (by simp; omega) hl hm (noF _) (fun i hi => ?_)
      have hi' : i < zs.length := by simp at hi; omega
      rw [hcell i hi']
      have hw := hwz (zs.getD i 0) (by rw [List.getD_eq_getElem?_getD, List.getElem?_eq_getElem hi']; exact List.getElem_mem hi')
      have hb := bounds_u8 hw
      simp only [List.getElem_map, List.getElem_take, UInt8.toNat_ofNat']
      rw [List.getD_eq_getElem?_getD, List.getElem?_eq_getElem hi'] at hb ⊢
      simp only [Option.getD_some] at hb ⊢
      congr 2
      omega
    · simp [lits]

theorem bytes_reach {ts : List TypeId} {ds : List (DataW H)} {j : Nat} {t e : TypeId} {d : DataW H} {l : List UInt8} (hsz : (DataW.weightsEach P ts ds).all (· ≤ reachBytes) = true)
    (htj : ts[j]? = some t) (hdj : ds[j]? = some d) (ht : P.underlying t = some (.slice e)) (hb : P.bytesOf e = 1)
    (h : (d = .nil ∧ l = []) ∨ ∃ el sp, d = .slice el sp ∧ l.length ≤ el.length + sp.length) : l.length ≤ 140737488351232 := by
  rcases h with ⟨_, rfl⟩ | ⟨el, sp, rfl, hl⟩
  · simp
  · have := sized_slice hsz htj hdj ht
    rw [hb] at this
    simp only [reachBytes] at this
    omega
end

end Mun
