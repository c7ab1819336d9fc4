/- LockFair's table: made, and asked. -/
import Derived.Test.YtbdkhegfmnladaaFairS
import Derived.Test.YtbdkhegfmnladaaLockYk
set_option maxRecDepth 100000
set_option linter.unusedVariables false
set_option linter.unusedSimpArgs false
namespace Mun
open Go Go.RowKit
open Go.Proofs

theorem tog4 (k : Int) : tog 4 k = false := by
  unfold tog
  split
  all_goals first | rfl | (simp_all) | skip

theorem goes14 (o m : Int) (ho : o ≠ 1) : goesP (hsV [(1, 4)]) o m = false := by
  simp [goesP, hsV, Ne.symm ho, tog4]

theorem FairAt.ask {W0 wr : World} {t : TV} {qs : List (Int × Int)} (h : FairAt W0 wr t [(1, 4)] qs) (o m : Int) (ho : o ≠ 0) (ho1 : o ≠ 1) (him : isM m = true) (hoq : o ∉ qs.map (·.1)) (hql : qs.length ≤ 4398046511104) :
    Calls Try.prog 17 #[.pointer (some ⟨t.T, 0, none⟩), .int .u64 o, .string sA, .int .i64 m] wr fun e w' => e = .returned (.int .i64 10) ∧ KeepU wr w' ∧ ∃ t', t'.T = t.T ∧ FairAt W0 w' t' [(1, 4)] (qs ++ [(o, m)]) := by
  obtain ⟨p, H, q, hpl⟩ := h.pl
  have hx : t.pl[0]? = some (sA, ⟨p, H, q, [(1, 4)], qs⟩) := by rw [hpl]; rfl
  have hpa : klook t.pl sA = some ⟨p, H, q, [(1, 4)], qs⟩ := by rw [hpl]; simp [klook]
  have hh : klook ([(1, 4)] : List (Int × Int)) o = none := by simp [klook, Ne.symm ho1]
  have hg := goes14 o m ho1
  have hfin : ∀ (w' : World) (q' : Value), TabL W0 w' { t with pl := t.pl.set 0 (sA, { (⟨p, H, q, [(1, 4)], qs⟩ : PV) with q := q', qs := qs ++ [(o, m)] }), ws := kset t.ws o (sA, m) } → ∃ t', t'.T = t.T ∧ FairAt W0 w' t' [(1, 4)] (qs ++ [(o, m)]) := fun w' q' ht => by
    refine ⟨{ t with pl := t.pl.set 0 (sA, { (⟨p, H, q, [(1, 4)], qs⟩ : PV) with q := q', qs := qs ++ [(o, m)] }), ws := kset t.ws o (sA, m) }, rfl, ht, ⟨p, H, q', by show t.pl.set 0 _ = _; rw [hpl]; rfl⟩, fun u hu => ?_, h.nm, ?_, fun b rest hb => ?_⟩
    · rw [List.map_append, List.mem_append, not_or] at hu
      show klook (kset t.ws o (sA, m)) u = none
      rw [klook_kset, if_neg (fun e => hu.2 (by rw [e]; simp)), h.ws u hu.1]
    · have hn := h.nd
      rw [List.map_append, ← List.append_assoc, List.nodup_append]
      refine ⟨hn, by simp, fun a ha b hb e => ?_⟩
      simp only [List.map_cons, List.map_nil, List.mem_singleton] at hb
      subst hb
      subst e
      rcases List.mem_append.1 ha with h9 | h9
      · simp at h9; exact ho1 h9
      · exact hoq h9
    · cases qs with
      | nil =>
        simp only [List.nil_append, List.cons.injEq] at hb
        rw [← hb.1]; exact hg
      | cons c qs =>
        simp only [List.cons_append, List.cons.injEq] at hb
        rw [← hb.1]
        exact h.hd c qs rfl
  by_cases hqs : qs = []
  · refine (ask_later2k h.tab hx hpa o m ho him (h.ws o hoq) hh hqs hg).mono ?_
    rintro e w' ⟨rfl, ⟨q', ht⟩, hk⟩
    exact ⟨rfl, hk, hfin w' q' ht⟩
  · refine (ask_behindk h.tab hx hpa o m ho him (h.ws o hoq) hh hqs hql).mono ?_
    rintro e w' ⟨rfl, ⟨q', ht⟩, hk⟩
    exact ⟨rfl, hk, hfin w' q' ht⟩

theorem tab_new (w : World) : Calls Try.prog 16 #[] w fun e w' => ∃ t : TV, e = .returned (.pointer (some ⟨t.T, 0, none⟩)) ∧ TabL w w' t ∧ t.pl = [] ∧ t.ws = [] ∧ t.nm = [] := by
  refine (tabNew_any w).mono ?_
  rintro e w' ⟨rfl, hb, hs, ht⟩
  refine ⟨⟨w.heap.size + 3, w.heap.size, w.heap.size + 1, w.heap.size + 2, [], [], []⟩, rfl, ⟨⟨ht, fun i x hx => by simp at hx, fun i x hx => by simp at hx, ⟨by show w.heap.size ≠ w.heap.size + 1; omega, by show w.heap.size ≠ w.heap.size + 2; omega, by show w.heap.size + 1 ≠ w.heap.size + 2; omega⟩, fun i x hx => by simp at hx, fun i x hx => by simp at hx, fun i j x y _ hx => by simp at hx, fun i j x y _ hx => by simp at hx, fun i j x y hx => by simp at hx⟩, hb, ⟨by show _ ≤ w.heap.size + 3; omega, Nat.le_refl _, by show _ ≤ w.heap.size + 1; omega, by show _ ≤ w.heap.size + 2; omega⟩, fun i x hx => by simp at hx, fun i x hx => by simp at hx⟩, rfl, rfl, rfl⟩

theorem fair_first {W0 w : World} {t : TV} (h : TabL W0 w t) (h1 : t.pl = []) (h2 : t.ws = []) (h3 : t.nm = []) :
    Calls Try.prog 17 #[.pointer (some ⟨t.T, 0, none⟩), .int .u64 1, .string sA, .int .i64 4] w fun e w' => e = .returned (.int .i64 0) ∧ ∃ t', t'.T = t.T ∧ FairAt W0 w' t' [(1, 4)] [] := by
  refine (ask_fresh h 1 4 sA (by decide) (by decide) (by rw [h2]; rfl) (by rw [h1]; rfl)).mono ?_
  rintro e w' ⟨rfl, p, H, nm, ht, hn⟩
  refine ⟨rfl, held1 (plN t sA p H) t.pl.length (sA, ⟨p, H, .slice none 0 0, [], []⟩) 1 4 nm, rfl, ht, ⟨p, H, .slice none 0 0, ?_⟩, fun u _ => ?_, fun u => ?_, by simp, fun b rest hb => by cases hb⟩
  · show ((t.pl ++ _).set t.pl.length _) = _
    rw [h1]; rfl
  · show klook t.ws u = none
    rw [h2]; rfl
  · have h9 := hn u
    show nmGet nm u = _
    unfold nmGet
    rw [h9, h3]
    by_cases hu : u = 1
    · subst hu; rfl
    · rw [if_neg hu, if_neg (by simpa using hu)]; rfl
end Mun
