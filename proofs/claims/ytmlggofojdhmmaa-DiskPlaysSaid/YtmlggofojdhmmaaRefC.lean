/- Contracts of munimentref6: Page, Read, settle. -/
import Derived.Test.YtmlggofojdhmmaaRefB
import Derived.Test.YtmlggofojdhmmaaDiskX
set_option maxRecDepth 100000
set_option linter.unusedVariables false
set_option linter.unusedSimpArgs false
namespace Mun
open Go Go.RowKit
open Go.Proofs

/-- the last of the first k writes to a page -/
theorem lastW_take_succ {α : Type} (ws : List (Nat × α)) (k n : Nat) (h : k < ws.length) : lastW (ws.take (k + 1)) n = if ws[k].1 = n then some ws[k].2 else lastW (ws.take k) n := by
  rw [List.take_succ_eq_append_getElem h, lastW_snoc]

theorem ListsAt.cellAt {F : Foot} {w : World} {v : Value} {cs : List (List UInt8)} {vs : List Value} (h : ListsAt F w v cs vs) (i : Nat) (hi : i < cs.length) :
    ∃ g off c a n c2, v = .slice (some ⟨g, off, none⟩) cs.length c ∧ w.cell? ⟨g, off + i, none⟩ = some (.slice a n c2) ∧ RdB F w (.slice a n c2) cs[i] ∧ g < w.heap.size := by
  obtain ⟨g, off, c, hv, h1, h2, h3, h4, h5⟩ := RdV.at_ h.row (by omega)
  obtain ⟨u, hu1, hu2⟩ := h.rd i hi
  obtain ⟨a, c2, rfl, -, -⟩ := hu2.form
  exact ⟨g, off, c, a, _, c2, hv, h5 i _ hu1, hu2, h4⟩

/-- a waiting write's cells -/
theorem RRep.waitAt {F : Foot} {w : World} {m : DM} {r : RV} (h : RRep F w m r) (i : Nat) (hi : i < r.ws.length) :
    ∃ g off c a n c2, r.wv = .slice (some ⟨g, off, none⟩) r.ws.length c ∧ w.cell? ⟨g, off + i * 2, none⟩ = some (.int .i64 (r.ws[i].1 : Int)) ∧ w.cell? ⟨g, off + i * 2 + 1, none⟩ = some (.slice a n c2) ∧ RdB F w (.slice a n c2) r.ws[i].2.1 ∧ g < w.heap.size := by
  obtain ⟨g, off, c, hv, h1, h2, h3, h4, h5⟩ := RdV.at_ h.wrow (by omega)
  obtain ⟨c1, c2⟩ := wcells_get r.ws i hi
  have hr := h.wrd r.ws[i] (List.getElem_mem hi)
  obtain ⟨a, c3, e, -, -⟩ := hr.form
  rw [e] at hr c2
  exact ⟨g, off, c, a, _, c3, hv, h5 _ _ c1, by have := h5 _ _ c2; rwa [← Nat.add_assoc] at this, hr, h4⟩

set_option maxHeartbeats 2000000 in
theorem r6page {F : Foot} (w : World) (m : DM) (r : RV) (h : RRep F w m r) (n : Nat) (hn : n < m.base.length) : Calls Try.prog 44 #[.agg (rcells m r), .int .i64 n] w (CopOut w (m.page n)) := by
  have hwl : m.waiting.length ≤ 4398046511104 ∨ True := .inr trivial
  have H := Lib.hid h
  have hpl : ∀ k, k ≤ r.ws.length → r.ws.length = m.waiting.length := fun k _ => by rw [h.wws, List.length_map]
  obtain ⟨a0, c0, a1, c1, a2, c2, a3, c3, a4, n4, c4, a5, c5, e0, e1, e2, e3, e4, e5⟩ := h.forms
  have hwm := h.wrow.nmax
  have hbm := h.base.row.nmax
  obtain ⟨bv, wv, lv, mv, lb, tv, lp, bs, ws⟩ := r
  simp only at e0 e1 e2 e3 e4 e5 hwm
  subst e0 e1 e2 e3 e4 e5
  have HN := Lib.hid hn
  obtain ⟨k, hk⟩ : ∃ k, ws.length = k := ⟨_, rfl⟩
  obtain ⟨nb, hnb⟩ : ∃ nb, m.base.length = nb := ⟨_, rfl⟩
  have HK : Hid (ws.length = k ∧ m.base.length = nb) := ⟨hk, hnb⟩
  have hki : (k : Int) ≤ 9223372036854775807 := by unfold maxLen at hwm; omega
  have hk0 : (0 : Int) ≤ (k : Int) := by omega
  have hni : (n : Int) < (nb : Int) := by omega
  have hn0 : (0 : Int) ≤ (n : Int) := by omega
  unfold rcells
  simp only
  rw [hk, hnb]
  obtain ⟨w1, hw1⟩ : ∃ w1, w.alloc (.cells #[.slice a0 nb c0, .slice a1 k c1, .int .i64 m.room, .slice a2 m.log.length c2, .int .i64 m.certain, .slice a3 m.mark.length c3, .int .i64 m.fuse, .int .i64 m.ops, .bool m.dead, .int .i64 lp, .slice a4 n4 c4, .slice a5 m.tail.length c5, .bool m.torn.isSome] 52) = w1 := ⟨_, rfl⟩
  have hb1 : Below w.heap.size w w1 := by rw [← hw1]; exact below_more (Below.refl _ _) _
  have hx0 : w1.cell? ⟨w.heap.size, 0, none⟩ = some (.slice a0 nb c0) := by rw [← hw1]; exact cell_of_row _ _ 0 _ _ _ (heap_alloc_new w _)
  have hx1 : w1.cell? ⟨w.heap.size, 1, none⟩ = some (.slice a1 k c1) := by rw [← hw1]; exact cell_of_row _ _ 1 _ _ _ (heap_alloc_new w _)
  have HB := Lib.hid hb1
  clear h hpl hwl hwm hbm hn hk hnb hb1
  go_enter Try.func44, Try.ntmps44
  go_wp2
  go_loop [5] (fun i => ∃ q : Nat, q ≤ k ∧ i = .int .i64 ((q : Int) - 1) ∧ lastW ws n = lastW (ws.take q) n) (fun i => ((intOf i) + 1).toNat)
  case atStart => exact ⟨k, Nat.le_refl _, rfl, by rw [← HK.out.1, List.take_length]⟩
  case round =>
    obtain ⟨q, hq, rfl, hL⟩ := hrel
    have hr1 := H.out.below HB.out
    have hpm : m.page n = ((lastW ws n).map (·.1)).getD (m.base.getD n page0) := by
      unfold DM.page
      rw [hr1.wws]
      simp only
      rw [lastW_map (fun p : Bytes × Value => p.1)]
    rcases Nat.eq_zero_or_pos q with rfl | hqp
    · rw [List.take_zero, lastW_nil] at hL
      rw [hL] at hpm
      simp only [Option.map_none, Option.getD_none] at hpm
      obtain ⟨g, off, c, a, l, c', e, hc, hrd, hg⟩ := hr1.base.cellAt n HN.out
      simp only at e
      injection e with e6 e7 e8
      subst e6 e8
      have hbl : (m.base[n]'HN.out).length ≤ 140737488355328 := by rw [hr1.wf.pages _ (List.getElem_mem HN.out)]; decide
      have hpe : m.page n = m.base[n]'HN.out := by rw [hpm, List.getD_eq_getElem?_getD, List.getElem?_eq_getElem HN.out]; rfl
      have hcp := r6copied w1 _ _ hrd hbl
      rw [← hpe] at hcp
      have HCP := Lib.hid hcp
      clear hr1 hpm hL hq hrd hbl hpe hcp e7
      go_wp2_with fail
      refine HCP.out.mono ?_
      rintro e w2 ⟨a9, n9, c9, rfl, hn9, ho9, hb9⟩
      have HO : Hid (CopOut w (m.page n) (.returned (.slice a9 n9 c9)) w2) := ⟨a9, n9, c9, rfl, hn9, ownsRow_base ho9 (fun j hj => Nat.le_trans HB.out.size (ho9.lt j hj).1), HB.out.trans (hb9.mono HB.out.size)⟩
      clear hn9 ho9 hb9 HCP
      go_wp2
      go_ret
      exact HO.out
    · obtain ⟨j, rfl⟩ : ∃ j, q = j + 1 := ⟨q - 1, by omega⟩
      have hjl : j < ws.length := by rw [HK.out.1]; omega
      rw [lastW_take_succ ws j n hjl] at hL
      obtain ⟨g, off, c, a, l, c', e, hc0, hc1, hrd, hg⟩ := hr1.waitAt j hjl
      simp only at e hc0 hrd
      rw [HK.out.1] at e
      injection e with e6 _ e8
      subst e6 e8
      obtain ⟨pp, hpp⟩ : ∃ pp, (ws[j]'hjl).1 = pp := ⟨_, rfl⟩
      rw [hpp] at hc0 hL
      have hji : (((j + 1 : Nat)) : Int) - 1 = (j : Int) := by omega
      have hj0 : (0 : Int) ≤ (j : Int) := by omega
      have hjk : (j : Int) < (k : Int) := by omega
      rw [hji]
      by_cases hpn : pp = n
      · rw [if_pos hpn] at hL
        rw [hL] at hpm
        simp only [Option.map_some, Option.getD_some] at hpm
        have hbl : (ws[j]'hjl).2.1.length ≤ 140737488355328 := by
          have h9 : ((ws[j]'hjl).1, (ws[j]'hjl).2.1) ∈ m.waiting := by rw [hr1.wws]; exact List.mem_map.2 ⟨ws[j]'hjl, List.getElem_mem hjl, rfl⟩
          rw [(hr1.wf.waiting _ h9).2]; decide
        have hcp := r6copied w1 _ _ hrd hbl
        rw [← hpm] at hcp
        have HCP := Lib.hid hcp
        have t1 : ((pp : Int) == (n : Int)) = true := by rw [hpn]; simp
        clear hr1 hpm hL hq hrd hbl hcp hpp hpn hji hqp
        go_wp2_with fail
        refine HCP.out.mono ?_
        rintro e w2 ⟨a9, n9, c9, rfl, hn9, ho9, hb9⟩
        have HO : Hid (CopOut w (m.page n) (.returned (.slice a9 n9 c9)) w2) := ⟨a9, n9, c9, rfl, hn9, ownsRow_base ho9 (fun j hj => Nat.le_trans HB.out.size (ho9.lt j hj).1), HB.out.trans (hb9.mono HB.out.size)⟩
        clear hn9 ho9 hb9 HCP
        go_wp2
        go_ret
        exact HO.out
      · rw [if_neg hpn] at hL
        have t1 : ((pp : Int) == (n : Int)) = false := by
          have h3 : ¬ (pp : Int) = (n : Int) := by omega
          simpa using h3
        have HL : Hid (lastW ws n = lastW (ws.take j) n ∧ j ≤ k) := ⟨hL, by omega⟩
        clear hr1 hpm hL hq hrd hpp hpn hji hqp
        go_wp2
        go_round
        case rel => exact ⟨j, HL.out.2, rfl, HL.out.1⟩
        case measure => simp [intOf]

theorem r6read_no {F : Foot} (w : World) (m : DM) (r : RV) (h : RRep F w m r) (n : Int) (hno : m.dead = true ∨ (m.dead = false ∧ (n < 0 ∨ (¬ n < 0 ∧ n ≥ (m.base.length : Int))))) :
    Calls Try.prog 33 #[.agg (rcells m r), .int .i64 n] w fun e w' => e = .returned (.tuple #[.slice none 0 0, .int .i64 (if m.dead = true then 9 else 1)]) ∧ Below w.heap.size w w' := by
  obtain ⟨a0, c0, a1, c1, a2, c2, a3, c3, a4, n4, c4, a5, c5, e0, e1, e2, e3, e4, e5⟩ := h.forms
  have hbm := h.base.row.nmax
  obtain ⟨bv, wv, lv, mv, lb, tv, lp, bs, ws⟩ := r
  simp only at e0 e1 e2 e3 e4 e5
  subst e0 e1 e2 e3 e4 e5
  unfold rcells
  simp only
  have hbi : (m.base.length : Int) ≤ 9223372036854775807 := by unfold maxLen at hbm; omega
  obtain ⟨nb, hnb⟩ : ∃ nb, m.base.length = nb := ⟨_, rfl⟩
  rw [hnb] at hno hbi ⊢
  have HB := Lib.hid (below_more (Below.refl w.heap.size w))
  clear h hbm hnb
  rcases hno with hd | ⟨hd, hr | ⟨hr1, hr2⟩⟩
  · rw [hd]
    go_enter Try.func33, Try.ntmps33
    go_wp2
    go_ret2
    exact ⟨rfl, HB.out _⟩
  · rw [hd]
    go_enter Try.func33, Try.ntmps33
    go_wp2
    go_ret2
    exact ⟨rfl, HB.out _⟩
  · rw [hd]
    go_enter Try.func33, Try.ntmps33
    go_wp2
    go_ret2
    exact ⟨rfl, HB.out _⟩

theorem r6read_yes {F : Foot} (w : World) (m : DM) (r : RV) (h : RRep F w m r) (n : Nat) (hd : m.dead = false) (hn : n < m.base.length) :
    Calls Try.prog 33 #[.agg (rcells m r), .int .i64 n] w fun e w' => ∃ a l c, e = .returned (.tuple #[.slice a l c, .int .i64 0]) ∧ OwnB w' w.heap.size 5 (.slice a l c) (m.page n) ∧ Below w.heap.size w w' := by
  obtain ⟨w1, hw1⟩ : ∃ w1, w.alloc (.cells (rcells m r) 52) = w1 := ⟨_, rfl⟩
  have hb1 : Below w.heap.size w w1 := by rw [← hw1]; exact below_more (Below.refl _ _) _
  have hpg := r6page w1 m r (h.below hb1) n hn
  have HPG := Lib.hid hpg
  have HB := Lib.hid hb1
  have hni : (n : Int) < (m.base.length : Int) := by omega
  have hn0 : (0 : Int) ≤ (n : Int) := by omega
  obtain ⟨a0, c0, a1, c1, a2, c2, a3, c3, a4, n4, c4, a5, c5, e0, e1, e2, e3, e4, e5⟩ := h.forms
  obtain ⟨bv, wv, lv, mv, lb, tv, lp, bs, ws⟩ := r
  simp only at e0 e1 e2 e3 e4 e5
  subst e0 e1 e2 e3 e4 e5
  unfold rcells at hw1 HPG ⊢
  simp only at hw1 HPG ⊢
  rw [hd] at hw1 HPG ⊢
  obtain ⟨nb, hnb⟩ : ∃ nb, m.base.length = nb := ⟨_, rfl⟩
  rw [hnb] at hw1 HPG hni ⊢
  subst hw1
  clear h hpg hb1 hnb hn
  go_enter Try.func33, Try.ntmps33
  go_wp2_with fail
  refine HPG.out.mono ?_
  rintro e w2 ⟨a9, n9, c9, rfl, hn9, ho9, hb9⟩
  have HO : Hid (OwnB w2 w.heap.size 5 (.slice a9 n9 c9) (m.page n) ∧ Below w.heap.size w w2) := ⟨ownsRow_base ho9 (fun j hj => Nat.le_trans HB.out.size (ho9.lt j hj).1), HB.out.trans (hb9.mono HB.out.size)⟩
  clear hn9 ho9 hb9 HPG
  go_wp2
  go_ret2
  exact ⟨_, _, _, rfl, HO.out⟩
end Mun
