/- Pin and Unpin in the walk of PoolPins. -/
import Derived.Test.YtjfepmohoijalaaPoolP
import Derived.Test.YtjfepmohoijalaaPoolI
set_option maxRecDepth 100000
set_option linter.unusedVariables false
set_option linter.unusedSimpArgs false
namespace Mun
open Go Go.RowKit
open Go.Proofs

section
variable {w : World} {D L Pb : Nat} {Z Fd : Foot} {dm : DM} {p : PM} {v : PLV} {held : List Int} {k : Nat}

def PinNew (w : World) (D L Pb : Nat) (Z Fd : Foot) (dm : DM) (v : PLV) (held : List Int) (k : Nat) (e : Ending) (w' : World) : Prop :=
  ∃ g p' v', e = .returned (.tuple #[.slice (some ⟨g, 0, none⟩) 512 512, .int .i64 0]) ∧ OwnB w' w.heap.size 5 (.slice (some ⟨g, 0, none⟩) 512 512) page0 ∧ PoolAt w' D L Pb Z Fd dm p' v' ∧
    PinI v'.fs held k dm.base.length ∧ pfoot Pb v' = pfoot Pb v ∧ Chg (pfoot Pb v) (pfoot Pb v) w w'

/-- a page that is not pinned, and there is room -/
theorem pin_new (h : PoolAt w D L Pb Z Fd dm p v) (hi : PinI v.fs held k dm.base.length) (hpz : ∀ n, dm.page n = page0) (n : Nat) (hn : n < dm.base.length) (hno : (n : Int) ∉ held) (hk : held.length < k) :
    Calls Try.prog 7 #[.pointer (some ⟨Pb, 0, none⟩), .int .i64 n] w (PinNew w D L Pb Z Fd dm v (held ++ [(n : Int)]) k) := by
  cases hl : alook v.es (n : Int) with
  | some u =>
    obtain ⟨h0, i, x, rfl, hx, hp⟩ := h.rep.mok.there _ _ hl
    have hxm := List.mem_of_getElem? hx
    have hpin : x.1.pins = 0 := by rw [hi.pins x hxm, hp, if_neg hno]
    rcases hi.ok x hxm with h1 | ⟨hc, -, hb⟩
    · omega
    · refine (pin_held h n hn i x hx hp (by omega) (by rw [hb, page0_length]; omega)).mono ?_
      rintro e w' ⟨g, rfl, ho, hat, hcg⟩
      rw [hb, page0_length] at ho
      refine ⟨g, _, _, by rw [hb, page0_length], ho, hat, ?_, rfl, hcg⟩
      refine hi.set h.rep.mok (y := pinned x) (held' := held ++ [(n : Int)]) hx rfl rfl rfl (by omega) (by show x.1.pins + 1 = _; rw [hpin, hp, if_pos (by simp)]) ?_ (fun j hj => ?_) (fun j hj => ?_)
      · rw [List.nodup_append]
        refine ⟨hi.nd, by simp, ?_⟩
        intro a ha b hb e
        simp only [List.mem_singleton] at hb
        subst hb
        exact hno (e ▸ ha)
      · rcases List.mem_append.1 hj with h1 | h1
        · exact hi.rng j h1
        · simp only [List.mem_singleton] at h1; subst h1; omega
      · rw [hp] at hj
        simp [hj]
  | none =>
    refine (pin_miss h n hn hl (fun x hx => (hi.ok x hx).imp id (fun h => h.1)) (by rw [hpz]; exact page0_chk)).mono ?_
    rintro e w' (⟨p1, v1, hfd, rfl, hat, hcg⟩ | ⟨i, x, p1, v1, g, g0, es, hfd, hx, rfl, ho, hat, hcg⟩)
    · rcases hfd.split with ⟨-, -, -, ha, hp⟩ | ⟨i, x, e, -⟩
      · exact (hi.room h.rep.mok hk ha hp).elim
      · omega
    · rcases hfd.split with ⟨e, -⟩ | ⟨i', x', e, hx', hv1, hs, hfree⟩
      · omega
      · have hii : i = i' := by omega
        subst hii
        rw [hx] at hx'
        injection hx' with hx'
        subst hx'
        have hi1 := hi.same hs
        have hxm := List.mem_of_getElem? hx
        have hnx : x.1.pg ∉ held := fun hh => by
          have h1 := hi1.pins1 hxm hh
          have h2 := (hi1.rng _ hh).1
          omega
        have hnf : ∀ z ∈ v1.fs, z.1.pg ≠ (n : Int) := fun z hz hp => by
          obtain ⟨j, hj, rfl⟩ := List.getElem_of_mem hz
          have hj' : j < v.fs.length := by rw [← hs.1]; exact hj
          obtain ⟨y, hy, e1, -⟩ := hs.2 j _ (List.getElem?_eq_getElem hj')
          rw [List.getElem?_eq_getElem hj] at hy
          injection hy with hy
          rw [hy, e1] at hp
          have := h.rep.mok.here j _ (List.getElem?_eq_getElem hj') (by omega)
          rw [hp, hl] at this
          cases this
        rw [hpz] at ho hat
        refine ⟨g, _, _, rfl, ho, hat, hi1.put hx hnx (by omega) (by omega) hno hnf rfl rfl rfl rfl, by rw [hv1]; rfl, hcg⟩

/-- a page that is not pinned, and all frames are -/
theorem pin_full (h : PoolAt w D L Pb Z Fd dm p v) (hi : PinI v.fs held k dm.base.length) (hpz : ∀ n, dm.page n = page0) (n : Nat) (hn : n < dm.base.length) (hno : (n : Int) ∉ held) (hk : held.length = k) :
    Calls Try.prog 7 #[.pointer (some ⟨Pb, 0, none⟩), .int .i64 n] w fun e w' => e = .returned (.tuple #[.slice none 0 0, .int .i64 7]) ∧ PoolAt w' D L Pb Z Fd dm p v ∧ Chg (pfoot Pb v) (pfoot Pb v) w w' := by
  have hall := hi.full hk
  have hl : alook v.es (n : Int) = none := by
    cases hl : alook v.es (n : Int) with
    | none => rfl
    | some u =>
      obtain ⟨h0, i, x, rfl, hx, hp⟩ := h.rep.mok.there _ _ hl
      have := hall x (List.mem_of_getElem? hx)
      rw [hp] at this
      exact (hno this).elim
  refine (pin_miss h n hn hl (fun x hx => (hi.ok x hx).imp id (fun h => h.1)) (by rw [hpz]; exact page0_chk)).mono ?_
  rintro e w' (⟨p1, v1, hfd, rfl, hat, hcg⟩ | ⟨i, x, p1, v1, g, g0, es, hfd, hx, rfl, ho, hat, hcg⟩)
  · rcases hfd.split with ⟨-, rfl, rfl, -, -⟩ | ⟨i, x, e, -⟩
    · exact ⟨rfl, hat, hcg⟩
    · omega
  · rcases hfd.split with ⟨e, -⟩ | ⟨i', x', e, hx', hv1, hs, hfree⟩
    · omega
    · exfalso
      have hi1 := hi.same hs
      have hxm := List.mem_of_getElem? hx'
      have h1 := hi1.full hk _ hxm
      have h2 := hi1.pins1 hxm h1
      have h3 := (hi1.rng _ h1).1
      omega

/-- a pinned page unpinned -/
theorem unpin_at (h : PoolAt w D L Pb Z Fd dm p v) (n : Int) (i : Nat) (x : FV) (hx : v.fs[i]? = some x) (hp : x.1.pg = n) (h0 : 0 ≤ n) (hpin : 0 < x.1.pins) (hsm : x.1.pins < 16777216) :
    Calls Try.prog 8 #[.pointer (some ⟨Pb, 0, none⟩), .int .i64 n] w fun e w' => e = .returned (.int .i64 0) ∧
      PoolAt w' D L Pb Z Fd dm { p with fr := (v.fs.set i ({ x.1 with pins := x.1.pins - 1 }, x.2)).map (·.1) } { v with fs := v.fs.set i ({ x.1 with pins := x.1.pins - 1 }, x.2) } ∧ Chg (pfoot Pb v) (pfoot Pb v) w w' := by
  refine (unpin_yes w Pb D L _ p v h.rep h.foot n i x hx hp h0 hpin (by omega)).mono ?_
  rintro e w' ⟨rfl, hr, hc⟩
  exact ⟨rfl, ⟨h.turn hc, hr, h.alive⟩, hc⟩
end
end Mun
