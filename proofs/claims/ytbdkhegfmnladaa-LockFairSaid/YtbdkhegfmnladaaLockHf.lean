/- hold, with what it leaves: each block that is no map. -/
import Derived.Test.YtbdkhegfmnladaaLockO
set_option maxRecDepth 100000
set_option linter.unusedVariables false
set_option linter.unusedSimpArgs false
namespace Mun
open Go Go.RowKit
open Go.Proofs

theorem hold_fr {W0 w : World} {t : TV} (h : TabL W0 w t) {i : Nat} {x : ByteArray × PV} (hx : t.pl[i]? = some x) (o m : Int) :
    Calls Try.prog 30 #[.pointer (some ⟨t.T, 0, none⟩), .pointer (some ⟨x.2.p, 0, none⟩), .int .u64 o, .string x.1, .int .i64 m] w fun e w' => e = .returned (.tuple #[]) ∧
      ∃ nm, TabL W0 w' (held1 t i x o m nm) ∧ (∀ o2, (klook nm o2).map (·.2) = if o2 = o then some (sadd (((klook t.nm o).map (·.2)).getD []) x.1) else (klook t.nm o2).map (·.2)) ∧ ∀ (k : Nat) (cs : Array Value) (ty : TypeId) (fr : Nat × Nat), w.heap[k]? = some (Obj.cells cs ty fr) → w'.heap[k]? = some (Obj.cells cs ty fr) := by
  obtain ⟨hp, hQ⟩ := h.rep.pls i x hx
  obtain ⟨d1, d2, d3⟩ := h.rep.dH i x hx
  obtain ⟨l1, l2, l3⟩ := h.loP i x hx
  have hHl := hp.hl.lt
  have hhs : ∀ hs : List (Int × Int), gset (hsV hs) o (.int .i64 m) = hsV (kset hs o m) := fun hs => gset_map (fun k : Int => Value.int .i64 k) hs o m
  cases hn : klook t.nm o with
  | none =>
    have hn2 : glook (nmV t.nm) o = none := by
      have h9 := glook_map (fun y : Nat × List ByteArray => Value.map (some y.1)) t.nm o
      rw [hn] at h9
      exact h9
    refine (hold_new w t.T t.P t.W t.N x.2.p x.2.H x.2.q _ _ _ _ o m x.1 h.rep.tab hp hn2 d3 d1 d2 h.rep.d0.2.1.symm h.rep.d0.2.2.symm).mono ?_
    rintro e w' ⟨rfl, t1, p1, s1, x1, x2, x3, g1, k1⟩
    rw [hhs] at p1
    have hmid : TabR (midW w w' x.2.H) { t with pl := t.pl.set i (x.1, { x.2 with hs := kset x.2.hs o m }) } :=
      h.rep.held hx (p1.hl.keep (midW_same hHl (by omega)).symm.symm) (fun k _ hk => midW_other _ _ _ _ hk)
    refine ⟨rfl, t.nm ++ [(o, (w.heap.size, [x.1]))], ⟨?_, ?_, h.lo, fun j y hy => ?_, fun j y hy => ?_⟩, fun o2 => ?_, fun k cs ty fr hk => ?_⟩
    · refine TabR.nameNew (t := { t with pl := t.pl.set i (x.1, { x.2 with hs := kset x.2.hs o m }) }) hmid ?_ g1 (by rw [midW_size]; exact Nat.le_refl _) (fun k hk hkN => ?_)
      · have h9 := gset_map (fun y : Nat × List ByteArray => Value.map (some y.1)) t.nm o (w.heap.size, [x.1])
        rw [kset_new hn] at h9
        have h8 := t1.nm
        unfold nmV at h8
        rw [h9] at h8
        exact h8
      · rw [midW_size] at hk
        by_cases hkH : k = x.2.H
        · subst hkH; exact (midW_same hHl (by omega)).symm
        · rw [midW_other _ _ _ _ hkH]; exact k1 k hk hkH hkN
    · have h5 := h.bl.size
      have h6 := h.lo
      exact ⟨x1.trans h.bl.os, x2.trans h.bl.tape, x3.trans h.bl.output, by omega, fun k hk => by rw [k1 k (by omega) (by omega) (by omega), h.bl.block k hk]⟩
    · rcases set_cases hy with ⟨rfl, rfl, -⟩ | ⟨-, h9⟩
      · exact ⟨l1, l2, l3⟩
      · exact h.loP j y h9
    · rcases snoc_idx hy with h9 | ⟨-, rfl⟩
      · exact h.loN j y h9
      · exact h.bl.size
    · by_cases ho : o2 = o
      · subst ho
        rw [if_pos rfl]
        have h9 : klook (t.nm ++ [(o2, (w.heap.size, [x.1]))]) o2 = some (w.heap.size, [x.1]) := by
          unfold klook at hn ⊢
          rw [List.find?_append]
          simp only [Option.map_eq_none_iff] at hn
          rw [hn]
          simp
        rw [h9]
        simp [sadd]
      · rw [if_neg ho]
        unfold klook
        rw [List.find?_append]
        cases hf : t.nm.find? (fun p => decide (p.1 = o2)) with
        | none => simp [Ne.symm ho]
        | some z => simp
    · rw [k1 k (Array.getElem?_eq_some_iff.1 hk).1 (cells_ne_map hp.hl hk) (cells_ne_map h.rep.tab.nm hk)]; exact hk
  | some y =>
    obtain ⟨j, hj, hset⟩ := klook_set hn
    have hn2 : glook (nmV t.nm) o = some (.map (some y.1)) := by
      have h9 := glook_map (fun y : Nat × List ByteArray => Value.map (some y.1)) t.nm o
      rw [hn] at h9
      exact h9
    obtain ⟨m1, m2, m3⟩ := h.rep.dM j _ hj
    have mH := h.rep.dHM i j x _ hx hj
    have hMl := (h.rep.nms j _ hj).lt
    refine (hold_old w t.T t.P t.W t.N x.2.p x.2.H y.1 x.2.q _ _ _ _ _ o m x.1 h.rep.tab hp hn2 (h.rep.nms j _ hj) d3 d1 d2 m1 m2 m3 mH.symm).mono ?_
    rintro e w' ⟨rfl, t1, p1, g1, s1, x1, x2, x3, k1⟩
    rw [hhs] at p1
    rw [gset_setV] at g1
    have hmid : TabR (midW w w' x.2.H) { t with pl := t.pl.set i (x.1, { x.2 with hs := kset x.2.hs o m }) } :=
      h.rep.held hx (p1.hl.keep (midW_same hHl (by omega)).symm.symm) (fun k _ hk => midW_other _ _ _ _ hk)
    refine ⟨rfl, kset t.nm o (y.1, sadd y.2 x.1), ⟨?_, ?_, h.lo, fun k z hz => ?_, fun k z hz => ?_⟩, fun o2 => ?_, fun k cs ty fr hk => ?_⟩
    · unfold held1
      rw [hset]
      refine TabR.names (t := { t with pl := t.pl.set i (x.1, { x.2 with hs := kset x.2.hs o m }) }) hmid hj g1 (fun k hk hkM => ?_)
      rw [midW_size] at hk
      by_cases hkH : k = x.2.H
      · subst hkH; exact (midW_same hHl (by omega)).symm
      · rw [midW_other _ _ _ _ hkH]; exact k1 k hkH hkM
    · have h5 := h.bl.size
      have h6 : W0.heap.size ≤ y.1 := h.loN j (o, y) hj
      exact ⟨x1.trans h.bl.os, x2.trans h.bl.tape, x3.trans h.bl.output, by omega, fun k hk => by rw [k1 k (by omega) (by omega), h.bl.block k hk]⟩
    · rcases set_cases hz with ⟨rfl, rfl, -⟩ | ⟨-, h9⟩
      · exact ⟨l1, l2, l3⟩
      · exact h.loP k z h9
    · have hz2 : (t.nm.set j (o, (y.1, sadd y.2 x.1)))[k]? = some z := by rw [← hset]; exact hz
      rcases set_cases hz2 with ⟨rfl, rfl, -⟩ | ⟨-, h9⟩
      · exact (h.loN j (o, y) hj : W0.heap.size ≤ y.1)
      · exact h.loN k z h9
    · rw [klook_kset]
      by_cases ho : o2 = o
      · simp [ho]
      · simp [ho]
    · rw [k1 k (cells_ne_map hp.hl hk) (cells_ne_map (h.rep.nms j _ hj) hk)]; exact hk
end Mun
