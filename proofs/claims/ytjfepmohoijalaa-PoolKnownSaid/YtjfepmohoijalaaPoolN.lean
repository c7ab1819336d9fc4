/- Which frame a page is read into. -/
import Derived.Test.YtjfepmohoijalaaPoolR
set_option maxRecDepth 100000
set_option linter.unusedVariables false
set_option linter.unusedSimpArgs false
namespace Mun
open Go Go.RowKit
open Go.Proofs

/-- the first empty frame; none is empty: one that is not pinned -/
theorem FoundIs.where_ {p : PM} {v : PLV} {i : Nat} {p' : PM} {v' : PLV} (h : FoundIs p v (i : Int) p' v') :
    SameFs v.fs v'.fs ∧ ∃ x, v.fs[i]? = some x ∧ ((x.1.pg < 0 ∧ ∀ (j : Nat) (y : FV), v.fs[j]? = some y → j < i → 0 ≤ y.1.pg) ∨ ((∀ x ∈ v.fs, 0 ≤ x.1.pg) ∧ x.1.pins = 0)) := by
  generalize hr : (i : Int) = r at h
  cases h with
  | @free i' x hx hn hall =>
    obtain rfl : i = i' := by omega
    exact ⟨SameFs.refl _, x, hx, .inl ⟨hn, hall⟩⟩
  | full => omega
  | @clock k fs hh i' ha hc =>
    obtain rfl : i = i' := by omega
    obtain ⟨h1, -, x, hx, hp, -⟩ := hc.facts
    have hil : i < v.fs.length := by rw [← h1.1]; exact (List.getElem?_eq_some_iff.1 hx).1
    obtain ⟨y, hy, e1, e2, e3, e4, e5⟩ := h1.2 i _ (List.getElem?_eq_getElem hil)
    rw [hx] at hy
    injection hy with hy
    exact ⟨h1, _, List.getElem?_eq_getElem hil, .inr ⟨ha, by rw [← e3, ← hy]; exact hp⟩⟩

def PinNew2 (w : World) (D L Pb : Nat) (Z Fd : Foot) (dm : DM) (v : PLV) (held : List Int) (k n : Nat) (e : Ending) (w' : World) : Prop :=
  ∃ g p' v' i, e = .returned (.tuple #[.slice (some ⟨g, 0, none⟩) 512 512, .int .i64 0]) ∧ PoolAt w' D L Pb Z Fd dm p' v' ∧
    PinI v'.fs held k dm.base.length ∧ pfoot Pb v' = pfoot Pb v ∧ Chg (pfoot Pb v) (pfoot Pb v) w w' ∧ v'.fs.map (fun x => x.1.pg) = (v.fs.map fun x => x.1.pg).set i (n : Int) ∧
    ∃ x, v.fs[i]? = some x ∧ ((x.1.pg < 0 ∧ ∀ (j : Nat) (y : FV), v.fs[j]? = some y → j < i → 0 ≤ y.1.pg) ∨ ((∀ x ∈ v.fs, 0 ≤ x.1.pg) ∧ x.1.pins = 0))

/-- a page that is in no frame, and there is room: which frame it is read into -/
theorem pin_new2 {w : World} {D L Pb : Nat} {Z Fd : Foot} {dm : DM} {p : PM} {v : PLV} {held : List Int} {k : Nat} (h : PoolAt w D L Pb Z Fd dm p v) (hi : PinI v.fs held k dm.base.length) (hpz : ∀ n, dm.page n = page0) (n : Nat) (hn : n < dm.base.length) (hno : (n : Int) ∉ held) (hk : held.length < k) (hl : alook v.es (n : Int) = none) :
    Calls Try.prog 7 #[.pointer (some ⟨Pb, 0, none⟩), .int .i64 n] w (PinNew2 w D L Pb Z Fd dm v (held ++ [(n : Int)]) k n) := by
  refine (pin_miss h n hn hl (fun x hx => (hi.ok x hx).imp id (fun h => h.1)) (by rw [hpz]; exact page0_chk)).mono ?_
  rintro e w' (⟨p1, v1, hfd, rfl, hat, hcg⟩ | ⟨i, x, p1, v1, g, g0, es, hfd, hx, rfl, ho, hat, hcg⟩)
  · rcases hfd.split with ⟨-, -, -, ha, hp⟩ | ⟨i, x, e, -⟩
    · exact (hi.room h.rep.mok hk ha hp).elim
    · omega
  · rcases hfd.split with ⟨e, -⟩ | ⟨i', x', e, hx', hv1, hs, hfree⟩
    · omega
    · have hii : i = i' := by omega
      subst hii
      rw [hx] at hx'
      injection hx' with hx'
      subst hx'
      have hi1 := hi.same hs
      have hxm := List.mem_of_getElem? hx
      have hnx : x.1.pg ∉ held := fun hh => by
        have h1 := hi1.pins1 hxm hh
        have h2 := (hi1.rng _ hh).1
        omega
      have hnf : ∀ z ∈ v1.fs, z.1.pg ≠ (n : Int) := fun z hz hp => by
        obtain ⟨j, hj, rfl⟩ := List.getElem_of_mem hz
        have hj' : j < v.fs.length := by rw [← hs.1]; exact hj
        obtain ⟨y, hy, e1, -⟩ := hs.2 j _ (List.getElem?_eq_getElem hj')
        rw [List.getElem?_eq_getElem hj] at hy
        injection hy with hy
        rw [hy, e1] at hp
        have := h.rep.mok.here j _ (List.getElem?_eq_getElem hj') (by omega)
        rw [hp, hl] at this
        cases this
      rw [hpz] at ho hat
      obtain ⟨-, hwh⟩ := hfd.where_
      refine ⟨g, _, _, i, rfl, hat, hi1.put hx hnx (by omega) (by omega) hno hnf rfl rfl rfl rfl, by rw [hv1]; rfl, hcg, ?_, hwh⟩
      have hpp : v1.fs.map (fun x => x.1.pg) = v.fs.map (fun x => x.1.pg) := by
        apply List.ext_getElem?
        intro j
        rw [List.getElem?_map, List.getElem?_map]
        cases hj : v.fs[j]? with
        | none => rw [List.getElem?_eq_none (by rw [hs.1]; exact List.getElem?_eq_none_iff.1 hj)]
        | some z =>
          obtain ⟨y, hy, e1, -⟩ := hs.2 j z hj
          rw [hy]
          simp [e1]
      show (v1.fs.set i _).map (fun x => x.1.pg) = _
      rw [List.map_set, hpp]
      rfl
end Mun
