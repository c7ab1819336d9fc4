/- The walk of PoolKnown (under way). -/
import Derived.Test.YtjfepmohoijalaaPoolN
import Derived.Test.YtjfepmohoijalaaPoolK
import Derived.Test.YtjfepmohoijalaaR5D
set_option maxRecDepth 100000
set_option linter.unusedVariables false
set_option linter.unusedSimpArgs false
namespace Mun
open Go Go.RowKit
open Go.Proofs

/-- the state of PoolKnown's walk -/
structure K8 (w0 w : World) (D L Pb Bx : Nat) (Fd : Foot) (p : PM) (v : PLV) (held pgs : List Int) : Prop where
  pool : PoolAt w D L Pb NoF Fd (DM.new 4 100) p v
  box : w.heap[Bx]? = some (.cells (bcells D L Pb) 28 (0, 0))
  below : Below w0.heap.size w0 w
  pf : ∀ k, pfoot Pb v k → w0.heap.size ≤ k
  pin : PinI v.fs held 2 4
  pgs : pgsOf v = pgs

theorem K8.turn {w0 w w' : World} {D L Pb Bx : Nat} {Fd : Foot} {p p' : PM} {v v' : PLV} {held held' pgs pgs' : List Int} (h : K8 w0 w D L Pb Bx Fd p v held pgs) (hp : PoolAt w' D L Pb NoF Fd (DM.new 4 100) p' v')
    (hc : Chg (pfoot Pb v) (pfoot Pb v) w w') (hv : pfoot Pb v' = pfoot Pb v) (hi : PinI v'.fs held' 2 4) (hg : pgsOf v' = pgs') : K8 w0 w' D L Pb Bx Fd p' v' held' pgs' := by
  have hnB : ¬ pfoot Pb v Bx := fun hk => by
    rcases hk with hk | hk | hk | hk
    · exact blk_ne h.box h.pool.rep.blk (by decide) hk
    · exact blk_ne h.box h.pool.rep.fbl (by decide) hk
    · exact blk_ne_map h.box h.pool.rep.mp hk
    · exact blk_ne_map h.box h.pool.rep.dm hk
  exact ⟨hp, (hc.block _ (Array.getElem?_eq_some_iff.1 h.box).1 hnB).trans h.box, h.below.trans (hc.below h.below.size (fun k hk hf => by have := h.pf k hf; omega)), fun k hk => h.pf k (hv ▸ hk), hi, hg⟩
theorem K8.more {w0 w w' : World} {D L Pb Bx : Nat} {Fd : Foot} {p : PM} {v : PLV} {held pgs : List Int} (h : K8 w0 w D L Pb Bx Fd p v held pgs) (hb : Below w.heap.size w w') : K8 w0 w' D L Pb Bx Fd p v held pgs :=
  ⟨h.pool.below hb, (hb.block _ (Array.getElem?_eq_some_iff.1 h.box).1).trans h.box, h.below.trans (hb.mono h.below.size), h.pf, h.pin, h.pgs⟩

theorem K8.no {w0 w : World} {D L Pb Bx : Nat} {Fd : Foot} {p : PM} {v : PLV} {held pgs : List Int} (h : K8 w0 w D L Pb Bx Fd p v held pgs) (n : Int) (hno : n ∉ pgs) : alook v.es n = none := by
  cases hl : alook v.es n with
  | none => rfl
  | some u =>
    obtain ⟨h0, i, x, rfl, hx, hp⟩ := h.pool.rep.mok.there _ _ hl
    exact absurd (by rw [← h.pgs]; exact List.mem_map.2 ⟨x, List.mem_of_getElem? hx, hp⟩) hno
theorem K8.two {w0 w : World} {D L Pb Bx : Nat} {Fd : Foot} {p : PM} {v : PLV} {held pgs : List Int} (h : K8 w0 w D L Pb Bx Fd p v held pgs) (n : Int) (hn : n ∈ held) :
    Calls Try.prog 10 #[.pointer (some ⟨Pb, 0, none⟩), .int .i64 n] w fun e w' => e = .returned (.int .i64 1) ∧ w = w' := by
  obtain ⟨i, x, hx, hp, h1, -, -⟩ := h.pin.at_ hn
  have h2 := pins_yes w Pb D L _ p v h.pool.rep n i x hx hp (h.pin.rng n hn).1
  rw [h1] at h2
  exact h2

/-- Pin of a page that is in no frame -/
theorem K8.take {w0 w : World} {D L Pb Bx : Nat} {Fd : Foot} {p : PM} {v : PLV} {held pgs : List Int} (h : K8 w0 w D L Pb Bx Fd p v held pgs) (n : Nat) (hn : n < 4) (hno : (n : Int) ∉ pgs) (hk : held.length < 2) :
    Calls Try.prog 7 #[.pointer (some ⟨Pb, 0, none⟩), .int .i64 n] w fun e w' => ∃ g p' v' i, e = .returned (.tuple #[.slice (some ⟨g, 0, none⟩) 512 512, .int .i64 0]) ∧ K8 w0 w' D L Pb Bx Fd p' v' (held ++ [(n : Int)]) (pgs.set i (n : Int)) ∧
      ((∃ q, pgs[i]? = some q ∧ q < 0 ∧ ∀ (j : Nat) (y : Int), pgs[j]? = some y → j < i → 0 ≤ y) ∨ (∃ q, pgs[i]? = some q ∧ q ∉ held ∧ ∀ y ∈ pgs, 0 ≤ y)) := by
  have hnh : (n : Int) ∉ held := fun hh => by
    obtain ⟨x, hx, hp⟩ := h.pin.in_ _ hh
    refine hno ?_
    rw [← h.pgs]
    exact List.mem_map.2 ⟨x, hx, hp⟩
  have hl : alook v.es (n : Int) = none := by
    cases hl : alook v.es (n : Int) with
    | none => rfl
    | some u =>
      obtain ⟨h0, i, x, rfl, hx, hp⟩ := h.pool.rep.mok.there _ _ hl
      exact absurd (by rw [← h.pgs]; exact List.mem_map.2 ⟨x, List.mem_of_getElem? hx, hp⟩) hno
  refine (pin_new2 h.pool h.pin (new_page 4 100) n hn hnh hk hl).mono ?_
  rintro e w' ⟨g, p', v', i, rfl, hat, hi, hft, hc, hpg, x, hx, hw⟩
  refine ⟨g, p', v', i, rfl, h.turn hat hc hft hi (by rw [← h.pgs]; exact hpg), ?_⟩
  have hxi : pgs[i]? = some x.1.pg := by rw [← h.pgs]; unfold pgsOf; rw [List.getElem?_map, hx]; rfl
  rcases hw with ⟨h1, h2⟩ | ⟨h1, h2⟩
  · refine .inl ⟨_, hxi, h1, fun j y hy hj => ?_⟩
    rw [← h.pgs] at hy
    unfold pgsOf at hy
    rw [List.getElem?_map] at hy
    cases hz : v.fs[j]? with
    | none => rw [hz] at hy; cases hy
    | some z =>
      rw [hz] at hy
      injection hy with hy
      rw [← hy]
      exact h2 j z hz hj
  · refine .inr ⟨_, hxi, fun hh => ?_, fun y hy => ?_⟩
    · have := h.pin.pins1 (List.mem_of_getElem? hx) hh
      omega
    · rw [← h.pgs] at hy
      obtain ⟨z, hz, rfl⟩ := List.mem_map.1 hy
      exact h1 z hz

/-- Unpin of the first one that is pinned -/
theorem K8.free {w0 w : World} {D L Pb Bx : Nat} {Fd : Foot} {p : PM} {v : PLV} {x : Int} {l pgs : List Int} (h : K8 w0 w D L Pb Bx Fd p v (x :: l) pgs) :
    Calls Try.prog 8 #[.pointer (some ⟨Pb, 0, none⟩), .int .i64 x] w fun e w' => ∃ p' v', e = .returned (.int .i64 0) ∧ K8 w0 w' D L Pb Bx Fd p' v' l pgs := by
  obtain ⟨i, y, hy, hp, hpn, -, -⟩ := h.pin.at_ (n := x) (List.mem_cons_self ..)
  have hnd := h.pin.nd
  rw [List.nodup_cons] at hnd
  have h0 := (h.pin.rng x (List.mem_cons_self ..)).1
  refine (unpin_at h.pool x i y hy hp h0 (by omega) (by omega)).mono ?_
  rintro e w' ⟨rfl, hat, hc⟩
  refine ⟨_, _, rfl, h.turn hat hc rfl ?_ ?_⟩
  · refine h.pin.set h.pool.rep.mok (y := ({ y.1 with pins := y.1.pins - 1 }, y.2)) hy rfl rfl rfl (by omega) ?_ hnd.2 (fun j hj => h.pin.rng j (List.mem_cons_of_mem _ hj)) (fun j hj => ?_)
    · show y.1.pins - 1 = _
      rw [hp, if_neg hnd.1]
      omega
    · rw [hp] at hj
      simp [hj]
  · rw [← h.pgs]
    show (v.fs.set i _).map (fun x => x.1.pg) = v.fs.map (fun x => x.1.pg)
    rw [List.map_set]
    apply List.ext_getElem?
    intro j
    rw [List.getElem?_set]
    by_cases hij : i = j
    · subst hij
      have hl := (List.getElem?_eq_some_iff.1 hy).1
      simp [hl, hy]
      rw [List.getElem?_eq_getElem hl] at hy
      injection hy with hy
      rw [hy]
    · simp [hij]

set_option maxHeartbeats 4000000 in
theorem known8 (w : World) : Calls Try.prog 4 #[] w fun e w' => e = .returned (.bool true) ∧ Below w.heap.size w w' := by
  have hbe : Calls Try.prog 6 #[.int .i64 4, .int .i64 100, .int .i64 2] w (BenchOut w 4 100 2) := bench_any w 4 100 2 (by decide) (by decide) (by decide) (by decide) (by decide)
  have HBE := Lib.hid hbe
  clear hbe
  go_enter Try.func4, Try.ntmps4
  go_wp2_with fail
  refine HBE.out.mono ?_
  rintro e w1 ⟨D, L, Pb, g, Fd, rfl, hat, hb1, hpf⟩
  obtain ⟨w2, hw2⟩ : ∃ w2, w1.alloc (.cells #[.pointer (some ⟨D, 0, none⟩), .pointer (some ⟨L, 0, none⟩), .pointer (some ⟨Pb, 0, none⟩)] 28) = w2 := ⟨_, rfl⟩
  have haw := awake8 w2
  have HAW := Lib.hid haw
  clear haw
  go_wp2_with fail
  refine HAW.out.mono ?_
  rintro e w3 ⟨rfl, hb3⟩
  have kB : w2.heap[w1.heap.size]? = some (.cells (bcells D L Pb) 28 (0, 0)) := by rw [← hw2]; exact heap_alloc_new w1 _
  have hb12 : Below w1.heap.size w1 w2 := by rw [← hw2]; exact (Below.refl _ _).alloc (Nat.le_refl _) _
  obtain ⟨Bx, hBx⟩ : ∃ Bx, w1.heap.size = Bx := ⟨_, rfl⟩
  rw [hBx] at kB ⊢
  have k0 : K8 w w2 D L Pb Bx Fd (PM.new 2) (newPLV g 2) [] [-1, -1] := ⟨hat.below hb12, kB, hb1.trans (hb12.mono hb1.size), hpf, PinI.new 2 4, rfl⟩
  have k3 := k0.more hb3
  have cB3 : w3.cell? ⟨Bx, 2, none⟩ = some (.pointer (some ⟨Pb, 0, none⟩)) := cell_of_row _ _ 2 _ _ _ k3.box
  have hp0 := k3.take 0 (by decide) (by decide) (by decide)
  have HP0 := Lib.hid hp0
  clear hat hb1 hpf hw2 HAW hb3 kB hb12 hBx k0 k3 hp0
  go_wp2_with fail
  refine HP0.out.mono ?_
  rintro e w4 ⟨g4, p4, v4, i4, rfl, k4, hwh⟩
  obtain rfl : i4 = 0 := by
    rcases hwh with ⟨q, -, -, h⟩ | ⟨q, -, -, h⟩
    · apply Classical.byContradiction
      intro h0
      have := h 0 (-1) rfl (by omega)
      omega
    · have := h (-1) (by simp)
      omega
  have k4' : K8 w w4 D L Pb Bx Fd p4 v4 [0] [0, -1] := k4
  have cB4 : w4.cell? ⟨Bx, 2, none⟩ = some (.pointer (some ⟨Pb, 0, none⟩)) := cell_of_row _ _ 2 _ _ _ k4'.box
  have hp1 := k4'.take 1 (by decide) (by decide) (by decide)
  have HP1 := Lib.hid hp1
  clear k4 k4' hwh hp1 cB3 HP0
  go_wp2_with fail
  refine HP1.out.mono ?_
  rintro e w5 ⟨g5, p5, v5, i5, rfl, k5, hwh⟩
  obtain rfl : i5 = 1 := by
    rcases hwh with ⟨q, h1, h2, h⟩ | ⟨q, -, -, h⟩
    · match i5, h1 with
      | 0, h1 => injection h1 with h1; omega
      | 1, _ => rfl
      | n + 2, h1 => simp at h1
    · have := h (-1) (by simp)
      omega
  have k5' : K8 w w5 D L Pb Bx Fd p5 v5 [0, 1] [0, 1] := k5
  have cB5 : w5.cell? ⟨Bx, 2, none⟩ = some (.pointer (some ⟨Pb, 0, none⟩)) := cell_of_row _ _ 2 _ _ _ k5'.box
  have hp2 := pin_full k5'.pool k5'.pin (new_page 4 100) 2 (by decide) (by decide) (by decide)
  have HP2 := Lib.hid hp2
  have K5 := Lib.hid k5'
  clear k5 k5' hwh hp2 cB4 HP1
  go_wp2_with fail
  refine HP2.out.mono ?_
  rintro e w6 ⟨rfl, hat6, hc6⟩
  have k6 : K8 w w6 D L Pb Bx Fd p5 v5 [0, 1] [0, 1] := K5.out.turn hat6 hc6 rfl K5.out.pin K5.out.pgs
  have cB6 : w6.cell? ⟨Bx, 2, none⟩ = some (.pointer (some ⟨Pb, 0, none⟩)) := cell_of_row _ _ 2 _ _ _ k6.box
  have hu := k6.free
  have HU := Lib.hid hu
  clear k6 hu hat6 hc6 cB5 HP2 K5
  go_wp2_with fail
  refine HU.out.mono ?_
  rintro e w7 ⟨p7, v7, rfl, k7⟩
  have cB7 : w7.cell? ⟨Bx, 2, none⟩ = some (.pointer (some ⟨Pb, 0, none⟩)) := cell_of_row _ _ 2 _ _ _ k7.box
  have hp3 := k7.take 2 (by decide) (by decide) (by decide)
  have HP3 := Lib.hid hp3
  clear k7 hp3 cB6 HU
  go_wp2_with fail
  refine HP3.out.mono ?_
  rintro e w8 ⟨g8, p8, v8, i8, rfl, k8, hwh⟩
  obtain rfl : i8 = 0 := by
    rcases hwh with ⟨q, h1, h2, h⟩ | ⟨q, h1, h2, -⟩
    · match i8, h1 with
      | 0, _ => rfl
      | 1, h1 => injection h1 with h1; omega
      | n + 2, h1 => simp at h1
    · match i8, h1 with
      | 0, _ => rfl
      | 1, h1 => injection h1 with h1; subst h1; simp at h2
      | n + 2, h1 => simp at h1
  have k8' : K8 w w8 D L Pb Bx Fd p8 v8 [1, 2] [2, 1] := k8
  have c80 : w8.cell? ⟨Bx, 0, none⟩ = some (.pointer (some ⟨D, 0, none⟩)) := cell_of_row _ _ 0 _ _ _ k8'.box
  have c81 : w8.cell? ⟨Bx, 1, none⟩ = some (.pointer (some ⟨L, 0, none⟩)) := cell_of_row _ _ 1 _ _ _ k8'.box
  have hnn := p_new_no w8 (.pointer (some ⟨D, 0, none⟩)) (.pointer (some ⟨L, 0, none⟩))
  have HNN := Lib.hid hnn
  have K8' := Lib.hid k8'
  clear k8 k8' hwh hnn cB7 HP3
  go_wp2_with fail
  refine HNN.out.mono ?_
  rintro e w9 ⟨rfl, rfl⟩
  have k9 := K8'.out.more (below_drewN (Below.refl _ _) 1)
  have hS0 : w8.drew.cell? ⟨Bx, 2, none⟩ = some (.pointer (some ⟨Pb, 0, none⟩)) := cell_of_row _ _ 2 _ _ _ k9.box
  obtain ⟨wa, hwa⟩ : ∃ wa, w8.drew.alloc (.cells #[.int .i64 2, .int .i64 1] 3) = wa := ⟨_, rfl⟩
  have hba : Below w8.drew.heap.size w8.drew wa := by rw [← hwa]; exact (Below.refl _ _).alloc (Nat.le_refl _) _
  have ka := k9.more hba
  have hSa : wa.cell? ⟨Bx, 2, none⟩ = some (.pointer (some ⟨Pb, 0, none⟩)) := cell_of_row _ _ 2 _ _ _ ka.box
  have hrow : RdV NoF wa 1 (.slice (some ⟨w8.heap.size, 0, none⟩) 2 2) 2 (zv [2, 1]) := by
    rw [← hwa]
    exact ⟨rfl, _, _, rfl, Nat.le_refl _, by unfold maxLen; omega, by simp, fun _ => ⟨w8.drew.heap.size, 0, _, _, (0, 0), rfl, noF _, heap_alloc_new w8.drew _, rfl⟩⟩
  have hfe := frames_eq wa Pb D L _ p8 v8 ka.pool.rep [2, 1] ka.pgs (by decide) _ hrow
  have HFE := Lib.hid hfe
  have KA := Lib.hid ka
  clear k9 hba ka hrow hfe c80 c81 HNN K8'
  go_upto_region 10 with (fail)
  refine wp_region_U (fun W => W.cell? ⟨Bx, 2, none⟩ = some (.pointer (some ⟨Pb, 0, none⟩))) [] (by kernel_rfl) ?_
  refine wpAnyU_take (i := 0) [1, 2, 3, 4, 5, 6, 7, 8, 9, 10, 11, 12, 13, 14, 15, 16, 17, 18, 19, 20, 21, 22, 23, 24, 25, 26, 27, 28, 29, 30, 31, 32, 33, 34, 35, 36, 37, 38, 39, 40, 41, 42, 43, 44, 45, 46, 47] rfl (by as_aux_lemma => kernel_rfl) (by as_aux_lemma => kernel_rfl) (by as_aux_lemma => kernel_rfl) (by as_aux_lemma => kernel_rfl) (by as_aux_lemma => kernel_rfl) (by as_aux_lemma => kernel_rfl) (fun _ _ _ h => h) (Or.inl ⟨by rfl, (by intro W hSW; (try dsimp only at hSW); (try go_split_ands); go_simp <;> with_reducible rfl)⟩) hS0 ?_
  try simp only [Act.put, List.getElem_toArray, List.getElem_cons_succ, List.getElem_cons_zero, List.setIfInBounds_toArray, List.set_cons_zero, List.set_cons_succ]
  refine wpAnyU_take (i := 1) [2, 3, 4, 5, 6, 7, 8, 9, 10, 11, 12, 13, 14, 15, 16, 17, 18, 19, 20, 21, 22, 23, 24, 25, 26, 27, 28, 29, 30, 31, 32, 33, 34, 35, 36, 37, 38, 39, 40, 41, 42, 43, 44, 45, 46, 47] rfl (by as_aux_lemma => kernel_rfl) (by as_aux_lemma => kernel_rfl) (by as_aux_lemma => kernel_rfl) (by as_aux_lemma => kernel_rfl) (by as_aux_lemma => kernel_rfl) (by as_aux_lemma => kernel_rfl) (fun _ _ _ h => h) (Or.inl ⟨by rfl, (by intro W hSW; (try dsimp only at hSW); (try go_split_ands); go_simp <;> with_reducible rfl)⟩) hS0 ?_
  try simp only [Act.put, List.getElem_toArray, List.getElem_cons_succ, List.getElem_cons_zero, List.setIfInBounds_toArray, List.set_cons_zero, List.set_cons_succ]
  refine wpAnyU_take (i := 2) [3, 4, 5, 6, 7, 8, 9, 10, 11, 12, 13, 14, 15, 16, 17, 18, 19, 20, 21, 22, 23, 24, 25, 26, 27, 28, 29, 30, 31, 32, 33, 34, 35, 36, 37, 38, 39, 40, 41, 42, 43, 44, 45, 46, 47] rfl (by as_aux_lemma => kernel_rfl) (by as_aux_lemma => kernel_rfl) (by as_aux_lemma => kernel_rfl) (by as_aux_lemma => kernel_rfl) (by as_aux_lemma => kernel_rfl) (by as_aux_lemma => kernel_rfl) (fun _ _ _ h => h) (Or.inl ⟨by rfl, (by intro W hSW; (try dsimp only at hSW); (try go_split_ands); go_simp <;> with_reducible rfl)⟩) hS0 ?_
  try simp only [Act.put, List.getElem_toArray, List.getElem_cons_succ, List.getElem_cons_zero, List.setIfInBounds_toArray, List.set_cons_zero, List.set_cons_succ]
  refine wpAnyU_take (i := 3) [4, 5, 6, 7, 8, 9, 10, 11, 12, 13, 14, 15, 16, 17, 18, 19, 20, 21, 22, 23, 24, 25, 26, 27, 28, 29, 30, 31, 32, 33, 34, 35, 36, 37, 38, 39, 40, 41, 42, 43, 44, 45, 46, 47] rfl (by as_aux_lemma => kernel_rfl) (by as_aux_lemma => kernel_rfl) (by as_aux_lemma => kernel_rfl) (by as_aux_lemma => kernel_rfl) (by as_aux_lemma => kernel_rfl) (by as_aux_lemma => kernel_rfl) (fun _ _ _ h => h) (by first | exact Or.inl ⟨by rfl, (by intro W hSW; (try dsimp only at hSW); (try go_split_ands); go_simp <;> with_reducible rfl)⟩ | exact Or.inr ⟨by rfl, rfl⟩) hS0 ?_
  try simp only [Act.put, List.getElem_toArray, List.getElem_cons_succ, List.getElem_cons_zero, List.setIfInBounds_toArray, List.set_cons_zero, List.set_cons_succ]
  refine wpAnyU_take (i := 4) [5, 6, 7, 8, 9, 10, 11, 12, 13, 14, 15, 16, 17, 18, 19, 20, 21, 22, 23, 24, 25, 26, 27, 28, 29, 30, 31, 32, 33, 34, 35, 36, 37, 38, 39, 40, 41, 42, 43, 44, 45, 46, 47] rfl (by as_aux_lemma => kernel_rfl) (by as_aux_lemma => kernel_rfl) (by as_aux_lemma => kernel_rfl) (by as_aux_lemma => kernel_rfl) (by as_aux_lemma => kernel_rfl) (by as_aux_lemma => kernel_rfl) (fun _ _ _ h => h) (by first | exact Or.inl ⟨by rfl, (by intro W hSW; (try dsimp only at hSW); (try go_split_ands); go_simp <;> with_reducible rfl)⟩ | exact Or.inr ⟨by rfl, rfl⟩) hS0 ?_
  try simp only [Act.put, List.getElem_toArray, List.getElem_cons_succ, List.getElem_cons_zero, List.setIfInBounds_toArray, List.set_cons_zero, List.set_cons_succ]
  refine wpAnyU_take (i := 5) [6, 7, 8, 9, 10, 11, 12, 13, 14, 15, 16, 17, 18, 19, 20, 21, 22, 23, 24, 25, 26, 27, 28, 29, 30, 31, 32, 33, 34, 35, 36, 37, 38, 39, 40, 41, 42, 43, 44, 45, 46, 47] rfl (by as_aux_lemma => kernel_rfl) (by as_aux_lemma => kernel_rfl) (by as_aux_lemma => kernel_rfl) (by as_aux_lemma => kernel_rfl) (by as_aux_lemma => kernel_rfl) (by as_aux_lemma => kernel_rfl) (fun _ _ _ h => h) (Or.inl ⟨by rfl, (by intro W hSW; (try dsimp only at hSW); (try go_split_ands); go_simp <;> with_reducible rfl)⟩) hS0 ?_
  try simp only [Act.put, List.getElem_toArray, List.getElem_cons_succ, List.getElem_cons_zero, List.setIfInBounds_toArray, List.set_cons_zero, List.set_cons_succ]
  refine wpAnyU_take (i := 6) [7, 8, 9, 10, 11, 12, 13, 14, 15, 16, 17, 18, 19, 20, 21, 22, 23, 24, 25, 26, 27, 28, 29, 30, 31, 32, 33, 34, 35, 36, 37, 38, 39, 40, 41, 42, 43, 44, 45, 46, 47] rfl (by as_aux_lemma => kernel_rfl) (by as_aux_lemma => kernel_rfl) (by as_aux_lemma => kernel_rfl) (by as_aux_lemma => kernel_rfl) (by as_aux_lemma => kernel_rfl) (by as_aux_lemma => kernel_rfl) (fun _ _ _ h => h) (Or.inl ⟨by rfl, (by intro W hSW; (try dsimp only at hSW); (try go_split_ands); go_simp <;> with_reducible rfl)⟩) hS0 ?_
  try simp only [Act.put, List.getElem_toArray, List.getElem_cons_succ, List.getElem_cons_zero, List.setIfInBounds_toArray, List.set_cons_zero, List.set_cons_succ]
  refine wpAnyU_take (i := 7) [8, 9, 10, 11, 12, 13, 14, 15, 16, 17, 18, 19, 20, 21, 22, 23, 24, 25, 26, 27, 28, 29, 30, 31, 32, 33, 34, 35, 36, 37, 38, 39, 40, 41, 42, 43, 44, 45, 46, 47] rfl (by as_aux_lemma => kernel_rfl) (by as_aux_lemma => kernel_rfl) (by as_aux_lemma => kernel_rfl) (by as_aux_lemma => kernel_rfl) (by as_aux_lemma => kernel_rfl) (by as_aux_lemma => kernel_rfl) (fun _ _ _ h => h) (by first | exact Or.inl ⟨by rfl, (by intro W hSW; (try dsimp only at hSW); (try go_split_ands); go_simp <;> with_reducible rfl)⟩ | exact Or.inr ⟨by rfl, rfl⟩) hS0 ?_
  try simp only [Act.put, List.getElem_toArray, List.getElem_cons_succ, List.getElem_cons_zero, List.setIfInBounds_toArray, List.set_cons_zero, List.set_cons_succ]
  refine wpAnyU_take (i := 8) [9, 10, 11, 12, 13, 14, 15, 16, 17, 18, 19, 20, 21, 22, 23, 24, 25, 26, 27, 28, 29, 30, 31, 32, 33, 34, 35, 36, 37, 38, 39, 40, 41, 42, 43, 44, 45, 46, 47] rfl (by as_aux_lemma => kernel_rfl) (by as_aux_lemma => kernel_rfl) (by as_aux_lemma => kernel_rfl) (by as_aux_lemma => kernel_rfl) (by as_aux_lemma => kernel_rfl) (by as_aux_lemma => kernel_rfl) (fun _ _ _ h => h) (by first | exact Or.inl ⟨by rfl, (by intro W hSW; (try dsimp only at hSW); (try go_split_ands); go_simp <;> with_reducible rfl)⟩ | exact Or.inr ⟨by rfl, rfl⟩) hS0 ?_
  try simp only [Act.put, List.getElem_toArray, List.getElem_cons_succ, List.getElem_cons_zero, List.setIfInBounds_toArray, List.set_cons_zero, List.set_cons_succ]
  refine wpAnyU_take (i := 9) [10, 11, 12, 13, 14, 15, 16, 17, 18, 19, 20, 21, 22, 23, 24, 25, 26, 27, 28, 29, 30, 31, 32, 33, 34, 35, 36, 37, 38, 39, 40, 41, 42, 43, 44, 45, 46, 47] rfl (by as_aux_lemma => kernel_rfl) (by as_aux_lemma => kernel_rfl) (by as_aux_lemma => kernel_rfl) (by as_aux_lemma => kernel_rfl) (by as_aux_lemma => kernel_rfl) (by as_aux_lemma => kernel_rfl) (fun _ _ _ h => h) (Or.inl ⟨by rfl, (by intro W hSW; (try dsimp only at hSW); (try go_split_ands); go_simp <;> with_reducible rfl)⟩) hS0 ?_
  try simp only [Act.put, List.getElem_toArray, List.getElem_cons_succ, List.getElem_cons_zero, List.setIfInBounds_toArray, List.set_cons_zero, List.set_cons_succ]
  refine wpAnyU_take (i := 10) [11, 12, 13, 14, 15, 16, 17, 18, 19, 20, 21, 22, 23, 24, 25, 26, 27, 28, 29, 30, 31, 32, 33, 34, 35, 36, 37, 38, 39, 40, 41, 42, 43, 44, 45, 46, 47] rfl (by as_aux_lemma => kernel_rfl) (by as_aux_lemma => kernel_rfl) (by as_aux_lemma => kernel_rfl) (by as_aux_lemma => kernel_rfl) (by as_aux_lemma => kernel_rfl) (by as_aux_lemma => kernel_rfl) (fun _ _ _ h => h) (Or.inl ⟨by rfl, (by intro W hSW; (try dsimp only at hSW); (try go_split_ands); go_simp <;> with_reducible rfl)⟩) hS0 ?_
  try simp only [Act.put, List.getElem_toArray, List.getElem_cons_succ, List.getElem_cons_zero, List.setIfInBounds_toArray, List.set_cons_zero, List.set_cons_succ]
  refine wpAnyU_take (i := 11) [12, 13, 14, 15, 16, 17, 18, 19, 20, 21, 22, 23, 24, 25, 26, 27, 28, 29, 30, 31, 32, 33, 34, 35, 36, 37, 38, 39, 40, 41, 42, 43, 44, 45, 46, 47] rfl (by as_aux_lemma => kernel_rfl) (by as_aux_lemma => kernel_rfl) (by as_aux_lemma => kernel_rfl) (by as_aux_lemma => kernel_rfl) (by as_aux_lemma => kernel_rfl) (by as_aux_lemma => kernel_rfl) (fun _ _ _ h => h) (by first | exact Or.inl ⟨by rfl, (by intro W hSW; (try dsimp only at hSW); (try go_split_ands); go_simp <;> with_reducible rfl)⟩ | exact Or.inr ⟨by rfl, rfl⟩) hS0 ?_
  try simp only [Act.put, List.getElem_toArray, List.getElem_cons_succ, List.getElem_cons_zero, List.setIfInBounds_toArray, List.set_cons_zero, List.set_cons_succ]
  refine wpAnyU_take (i := 12) [13, 14, 15, 16, 17, 18, 19, 20, 21, 22, 23, 24, 25, 26, 27, 28, 29, 30, 31, 32, 33, 34, 35, 36, 37, 38, 39, 40, 41, 42, 43, 44, 45, 46, 47] rfl (by as_aux_lemma => kernel_rfl) (by as_aux_lemma => kernel_rfl) (by as_aux_lemma => kernel_rfl) (by as_aux_lemma => kernel_rfl) (by as_aux_lemma => kernel_rfl) (by as_aux_lemma => kernel_rfl) (fun _ _ _ h => h) (by first | exact Or.inl ⟨by rfl, (by intro W hSW; (try dsimp only at hSW); (try go_split_ands); go_simp <;> with_reducible rfl)⟩ | exact Or.inr ⟨by rfl, rfl⟩) hS0 ?_
  try simp only [Act.put, List.getElem_toArray, List.getElem_cons_succ, List.getElem_cons_zero, List.setIfInBounds_toArray, List.set_cons_zero, List.set_cons_succ]
  refine wpAnyU_take (i := 13) [14, 15, 16, 17, 18, 19, 20, 21, 22, 23, 24, 25, 26, 27, 28, 29, 30, 31, 32, 33, 34, 35, 36, 37, 38, 39, 40, 41, 42, 43, 44, 45, 46, 47] rfl (by as_aux_lemma => kernel_rfl) (by as_aux_lemma => kernel_rfl) (by as_aux_lemma => kernel_rfl) (by as_aux_lemma => kernel_rfl) (by as_aux_lemma => kernel_rfl) (by as_aux_lemma => kernel_rfl) (fun _ _ _ h => h) (Or.inl ⟨by rfl, (by intro W hSW; (try dsimp only at hSW); (try go_split_ands); go_simp <;> with_reducible rfl)⟩) hS0 ?_
  try simp only [Act.put, List.getElem_toArray, List.getElem_cons_succ, List.getElem_cons_zero, List.setIfInBounds_toArray, List.set_cons_zero, List.set_cons_succ]
  refine wpAnyU_take (i := 14) [15, 16, 17, 18, 19, 20, 21, 22, 23, 24, 25, 26, 27, 28, 29, 30, 31, 32, 33, 34, 35, 36, 37, 38, 39, 40, 41, 42, 43, 44, 45, 46, 47] rfl (by as_aux_lemma => kernel_rfl) (by as_aux_lemma => kernel_rfl) (by as_aux_lemma => kernel_rfl) (by as_aux_lemma => kernel_rfl) (by as_aux_lemma => kernel_rfl) (by as_aux_lemma => kernel_rfl) (fun _ _ _ h => h) (Or.inl ⟨by rfl, (by intro W hSW; (try dsimp only at hSW); (try go_split_ands); go_simp <;> with_reducible rfl)⟩) hS0 ?_
  try simp only [Act.put, List.getElem_toArray, List.getElem_cons_succ, List.getElem_cons_zero, List.setIfInBounds_toArray, List.set_cons_zero, List.set_cons_succ]
  refine wpAnyU_take (i := 15) [16, 17, 18, 19, 20, 21, 22, 23, 24, 25, 26, 27, 28, 29, 30, 31, 32, 33, 34, 35, 36, 37, 38, 39, 40, 41, 42, 43, 44, 45, 46, 47] rfl (by as_aux_lemma => kernel_rfl) (by as_aux_lemma => kernel_rfl) (by as_aux_lemma => kernel_rfl) (by as_aux_lemma => kernel_rfl) (by as_aux_lemma => kernel_rfl) (by as_aux_lemma => kernel_rfl) (fun _ _ _ h => h) (by first | exact Or.inl ⟨by rfl, (by intro W hSW; (try dsimp only at hSW); (try go_split_ands); go_simp <;> with_reducible rfl)⟩ | exact Or.inr ⟨by rfl, rfl⟩) hS0 ?_
  try simp only [Act.put, List.getElem_toArray, List.getElem_cons_succ, List.getElem_cons_zero, List.setIfInBounds_toArray, List.set_cons_zero, List.set_cons_succ]
  refine wpAnyU_take (i := 16) [17, 18, 19, 20, 21, 22, 23, 24, 25, 26, 27, 28, 29, 30, 31, 32, 33, 34, 35, 36, 37, 38, 39, 40, 41, 42, 43, 44, 45, 46, 47] rfl (by as_aux_lemma => kernel_rfl) (by as_aux_lemma => kernel_rfl) (by as_aux_lemma => kernel_rfl) (by as_aux_lemma => kernel_rfl) (by as_aux_lemma => kernel_rfl) (by as_aux_lemma => kernel_rfl) (fun _ _ _ h => h) (by first | exact Or.inl ⟨by rfl, (by intro W hSW; (try dsimp only at hSW); (try go_split_ands); go_simp <;> with_reducible rfl)⟩ | exact Or.inr ⟨by rfl, rfl⟩) hS0 ?_
  try simp only [Act.put, List.getElem_toArray, List.getElem_cons_succ, List.getElem_cons_zero, List.setIfInBounds_toArray, List.set_cons_zero, List.set_cons_succ]
  refine wpAnyU_take (i := 17) [18, 19, 20, 21, 22, 23, 24, 25, 26, 27, 28, 29, 30, 31, 32, 33, 34, 35, 36, 37, 38, 39, 40, 41, 42, 43, 44, 45, 46, 47] rfl (by as_aux_lemma => kernel_rfl) (by as_aux_lemma => kernel_rfl) (by as_aux_lemma => kernel_rfl) (by as_aux_lemma => kernel_rfl) (by as_aux_lemma => kernel_rfl) (by as_aux_lemma => kernel_rfl) (fun _ _ _ h => h) (Or.inl ⟨by rfl, (by intro W hSW; (try dsimp only at hSW); (try go_split_ands); go_simp <;> with_reducible rfl)⟩) hS0 ?_
  try simp only [Act.put, List.getElem_toArray, List.getElem_cons_succ, List.getElem_cons_zero, List.setIfInBounds_toArray, List.set_cons_zero, List.set_cons_succ]
  refine wpAnyU_take (i := 18) [19, 20, 21, 22, 23, 24, 25, 26, 27, 28, 29, 30, 31, 32, 33, 34, 35, 36, 37, 38, 39, 40, 41, 42, 43, 44, 45, 46, 47] rfl (by as_aux_lemma => kernel_rfl) (by as_aux_lemma => kernel_rfl) (by as_aux_lemma => kernel_rfl) (by as_aux_lemma => kernel_rfl) (by as_aux_lemma => kernel_rfl) (by as_aux_lemma => kernel_rfl) (fun _ _ _ h => h) (Or.inl ⟨by rfl, (by intro W hSW; (try dsimp only at hSW); (try go_split_ands); go_simp <;> with_reducible rfl)⟩) hS0 ?_
  try simp only [Act.put, List.getElem_toArray, List.getElem_cons_succ, List.getElem_cons_zero, List.setIfInBounds_toArray, List.set_cons_zero, List.set_cons_succ]
  refine wpAnyU_take (i := 19) [20, 22, 23, 24, 25, 26, 27, 28, 29, 30, 31, 32, 33, 34, 35, 36, 37, 38, 39, 40, 41, 42, 43, 44, 45, 46, 47] rfl (by as_aux_lemma => kernel_rfl) (by as_aux_lemma => kernel_rfl) (by as_aux_lemma => kernel_rfl) (by as_aux_lemma => kernel_rfl) (by as_aux_lemma => kernel_rfl) (by as_aux_lemma => kernel_rfl) (fun _ _ _ h => h) (by first | exact Or.inl ⟨by rfl, (by intro W hSW; (try dsimp only at hSW); (try go_split_ands); go_simp <;> with_reducible rfl)⟩ | exact Or.inr ⟨by rfl, rfl⟩) hS0 ?_
  try simp only [Act.put, List.getElem_toArray, List.getElem_cons_succ, List.getElem_cons_zero, List.setIfInBounds_toArray, List.set_cons_zero, List.set_cons_succ]
  refine wpAnyU_take (i := 20) [22, 23, 24, 25, 26, 27, 28, 29, 30, 31, 32, 33, 34, 35, 36, 37, 38, 39, 40, 41, 42, 43, 44, 45, 46, 47] rfl (by as_aux_lemma => kernel_rfl) (by as_aux_lemma => kernel_rfl) (by as_aux_lemma => kernel_rfl) (by as_aux_lemma => kernel_rfl) (by as_aux_lemma => kernel_rfl) (by as_aux_lemma => kernel_rfl) (fun _ _ _ h => h) (by first | exact Or.inl ⟨by rfl, (by intro W hSW; (try dsimp only at hSW); (try go_split_ands); go_simp <;> with_reducible rfl)⟩ | exact Or.inr ⟨by rfl, rfl⟩) hS0 ?_
  try simp only [Act.put, List.getElem_toArray, List.getElem_cons_succ, List.getElem_cons_zero, List.setIfInBounds_toArray, List.set_cons_zero, List.set_cons_succ]
  refine wpAnyU_one (i := 21) (by kernel_rfl) rfl (fun K hK => ?_)
  go_simp
  try rw [hwa]
  refine hK.out _ _ (fun _ => hSa) (fun _ => ?_)
  clear hK K
  try simp only [Act.put, List.getElem_toArray, List.getElem_cons_succ, List.getElem_cons_zero, List.setIfInBounds_toArray, List.set_cons_zero, List.set_cons_succ]
  refine wpAnyU_one (i := 22) (by kernel_rfl) rfl (fun K hK => ?_)
  go_simp
  go_at_call 12
  (with_reducible refine HFE.out.mono ?_)
  rintro e wb ⟨rfl, hbb⟩
  have kb := KA.out.more hbb
  have hSb : wb.cell? ⟨Bx, 2, none⟩ = some (.pointer (some ⟨Pb, 0, none⟩)) := cell_of_row _ _ 2 _ _ _ kb.box
  have hun := unpin_no wb Pb D L _ p8 v8 kb.pool.rep 9 (.inl (kb.no 9 (by decide)))
  have HUN := Lib.hid hun
  have KB := Lib.hid kb
  clear hbb kb hun HFE KA
  refine hK.out _ _ (fun _ => hSb) (fun _ => ?_)
  clear hK K
  try simp only [Act.put, List.getElem_toArray, List.getElem_cons_succ, List.getElem_cons_zero, List.setIfInBounds_toArray, List.set_cons_zero, List.set_cons_succ]
  refine wpAnyU_take (i := 23) [24, 25, 26, 27, 28, 29, 30, 31, 32, 33, 34, 35, 36, 37, 38, 39, 40, 41, 42, 43, 44, 45, 46, 47] rfl (by as_aux_lemma => kernel_rfl) (by as_aux_lemma => kernel_rfl) (by as_aux_lemma => kernel_rfl) (by as_aux_lemma => kernel_rfl) (by as_aux_lemma => kernel_rfl) (by as_aux_lemma => kernel_rfl) (fun _ _ _ h => h) (Or.inl ⟨by rfl, (by intro W hSW; (try dsimp only at hSW); (try go_split_ands); go_simp <;> with_reducible rfl)⟩) hSb ?_
  try simp only [Act.put, List.getElem_toArray, List.getElem_cons_succ, List.getElem_cons_zero, List.setIfInBounds_toArray, List.set_cons_zero, List.set_cons_succ]
  refine wpAnyU_take (i := 24) [25, 26, 27, 28, 29, 30, 31, 32, 33, 34, 35, 36, 37, 38, 39, 40, 41, 42, 43, 44, 45, 46, 47] rfl (by as_aux_lemma => kernel_rfl) (by as_aux_lemma => kernel_rfl) (by as_aux_lemma => kernel_rfl) (by as_aux_lemma => kernel_rfl) (by as_aux_lemma => kernel_rfl) (by as_aux_lemma => kernel_rfl) (fun _ _ _ h => h) (Or.inl ⟨by rfl, (by intro W hSW; (try dsimp only at hSW); (try go_split_ands); go_simp <;> with_reducible rfl)⟩) hSb ?_
  try simp only [Act.put, List.getElem_toArray, List.getElem_cons_succ, List.getElem_cons_zero, List.setIfInBounds_toArray, List.set_cons_zero, List.set_cons_succ]
  refine wpAnyU_take (i := 25) [26, 27, 28, 29, 30, 31, 32, 33, 34, 35, 36, 37, 38, 39, 40, 41, 42, 43, 44, 45, 46, 47] rfl (by as_aux_lemma => kernel_rfl) (by as_aux_lemma => kernel_rfl) (by as_aux_lemma => kernel_rfl) (by as_aux_lemma => kernel_rfl) (by as_aux_lemma => kernel_rfl) (by as_aux_lemma => kernel_rfl) (fun _ _ _ h => h) (by first | exact Or.inl ⟨by rfl, (by intro W hSW; (try dsimp only at hSW); (try go_split_ands); go_simp <;> with_reducible rfl)⟩ | exact Or.inr ⟨by rfl, rfl⟩) hSb ?_
  try simp only [Act.put, List.getElem_toArray, List.getElem_cons_succ, List.getElem_cons_zero, List.setIfInBounds_toArray, List.set_cons_zero, List.set_cons_succ]
  refine wpAnyU_take (i := 26) [27, 28, 29, 30, 31, 32, 33, 34, 35, 36, 37, 38, 39, 40, 41, 42, 43, 44, 45, 46, 47] rfl (by as_aux_lemma => kernel_rfl) (by as_aux_lemma => kernel_rfl) (by as_aux_lemma => kernel_rfl) (by as_aux_lemma => kernel_rfl) (by as_aux_lemma => kernel_rfl) (by as_aux_lemma => kernel_rfl) (fun _ _ _ h => h) (by first | exact Or.inl ⟨by rfl, (by intro W hSW; (try dsimp only at hSW); (try go_split_ands); go_simp <;> with_reducible rfl)⟩ | exact Or.inr ⟨by rfl, rfl⟩) hSb ?_
  try simp only [Act.put, List.getElem_toArray, List.getElem_cons_succ, List.getElem_cons_zero, List.setIfInBounds_toArray, List.set_cons_zero, List.set_cons_succ]
  refine wpAnyU_one (i := 27) (by kernel_rfl) rfl (fun K hK => ?_)
  go_simp
  go_at_call 8
  (with_reducible refine HUN.out.mono ?_)
  rintro e wc ⟨rfl, rfl⟩
  refine hK.out _ _ (fun _ => hSb) (fun _ => ?_)
  clear hK K
  try simp only [Act.put, List.getElem_toArray, List.getElem_cons_succ, List.getElem_cons_zero, List.setIfInBounds_toArray, List.set_cons_zero, List.set_cons_succ]
  refine wpAnyU_take (i := 28) [29, 30, 31, 32, 33, 34, 35, 36, 37, 38, 39, 40, 41, 42, 43, 44, 45, 46, 47] rfl (by as_aux_lemma => kernel_rfl) (by as_aux_lemma => kernel_rfl) (by as_aux_lemma => kernel_rfl) (by as_aux_lemma => kernel_rfl) (by as_aux_lemma => kernel_rfl) (by as_aux_lemma => kernel_rfl) (fun _ _ _ h => h) (by first | exact Or.inl ⟨by rfl, (by intro W hSW; (try dsimp only at hSW); (try go_split_ands); go_simp <;> with_reducible rfl)⟩ | exact Or.inr ⟨by rfl, rfl⟩) hSb ?_
  try simp only [Act.put, List.getElem_toArray, List.getElem_cons_succ, List.getElem_cons_zero, List.setIfInBounds_toArray, List.set_cons_zero, List.set_cons_succ]
  refine wpAnyU_take (i := 29) [30, 31, 32, 33, 34, 35, 36, 37, 38, 39, 40, 41, 42, 43, 44, 45, 46, 47] rfl (by as_aux_lemma => kernel_rfl) (by as_aux_lemma => kernel_rfl) (by as_aux_lemma => kernel_rfl) (by as_aux_lemma => kernel_rfl) (by as_aux_lemma => kernel_rfl) (by as_aux_lemma => kernel_rfl) (fun _ _ _ h => h) (Or.inl ⟨by rfl, (by intro W hSW; (try dsimp only at hSW); (try go_split_ands); go_simp <;> with_reducible rfl)⟩) hSb ?_
  try simp only [Act.put, List.getElem_toArray, List.getElem_cons_succ, List.getElem_cons_zero, List.setIfInBounds_toArray, List.set_cons_zero, List.set_cons_succ]
  refine wpAnyU_take (i := 30) [31, 32, 33, 34, 35, 36, 37, 38, 39, 40, 41, 42, 43, 44, 45, 46, 47] rfl (by as_aux_lemma => kernel_rfl) (by as_aux_lemma => kernel_rfl) (by as_aux_lemma => kernel_rfl) (by as_aux_lemma => kernel_rfl) (by as_aux_lemma => kernel_rfl) (by as_aux_lemma => kernel_rfl) (fun _ _ _ h => h) (Or.inl ⟨by rfl, (by intro W hSW; (try dsimp only at hSW); (try go_split_ands); go_simp <;> with_reducible rfl)⟩) hSb ?_
  try simp only [Act.put, List.getElem_toArray, List.getElem_cons_succ, List.getElem_cons_zero, List.setIfInBounds_toArray, List.set_cons_zero, List.set_cons_succ]
  refine wpAnyU_take (i := 31) [32, 34, 35, 36, 37, 38, 39, 40, 41, 42, 43, 44, 45, 46, 47] rfl (by as_aux_lemma => kernel_rfl) (by as_aux_lemma => kernel_rfl) (by as_aux_lemma => kernel_rfl) (by as_aux_lemma => kernel_rfl) (by as_aux_lemma => kernel_rfl) (by as_aux_lemma => kernel_rfl) (fun _ _ _ h => h) (by first | exact Or.inl ⟨by rfl, (by intro W hSW; (try dsimp only at hSW); (try go_split_ands); go_simp <;> with_reducible rfl)⟩ | exact Or.inr ⟨by rfl, rfl⟩) hSb ?_
  try simp only [Act.put, List.getElem_toArray, List.getElem_cons_succ, List.getElem_cons_zero, List.setIfInBounds_toArray, List.set_cons_zero, List.set_cons_succ]
  refine wpAnyU_take (i := 32) [34, 35, 36, 37, 38, 39, 40, 41, 42, 43, 44, 45, 46, 47] rfl (by as_aux_lemma => kernel_rfl) (by as_aux_lemma => kernel_rfl) (by as_aux_lemma => kernel_rfl) (by as_aux_lemma => kernel_rfl) (by as_aux_lemma => kernel_rfl) (by as_aux_lemma => kernel_rfl) (fun _ _ _ h => h) (by first | exact Or.inl ⟨by rfl, (by intro W hSW; (try dsimp only at hSW); (try go_split_ands); go_simp <;> with_reducible rfl)⟩ | exact Or.inr ⟨by rfl, rfl⟩) hSb ?_
  try simp only [Act.put, List.getElem_toArray, List.getElem_cons_succ, List.getElem_cons_zero, List.setIfInBounds_toArray, List.set_cons_zero, List.set_cons_succ]
  refine wpAnyU_one (i := 33) (by kernel_rfl) rfl (fun K hK => ?_)
  go_simp
  go_at_call 14
  (have h5 := r5new wb 1 (by decide); rw [show ((1 : Nat) : Int) = 1 from rfl] at h5; with_reducible refine h5.mono ?_; clear h5)
  rintro e wd ⟨gn, cn, rfl, -, hbd⟩
  have kd := KB.out.more hbd
  have hSd : wd.cell? ⟨Bx, 2, none⟩ = some (.pointer (some ⟨Pb, 0, none⟩)) := cell_of_row _ _ 2 _ _ _ kd.box
  have hpu := put_no wd Pb D L _ p8 v8 kd.pool.rep 0 (.inl (kd.no 0 (by decide))) (.slice (some ⟨gn, 0, none⟩) 512 cn) 1
  rw [show ((1 : Nat) : Int) = 1 from rfl] at hpu
  have hpi := kd.two 2 (by decide)
  have HPU := Lib.hid hpu
  have HPI := Lib.hid hpi
  have KD := Lib.hid kd
  clear kd hpu hpi
  refine hK.out _ _ (fun _ => hSd) (fun _ => ?_)
  clear hK K
  try simp only [Act.put, List.getElem_toArray, List.getElem_cons_succ, List.getElem_cons_zero, List.setIfInBounds_toArray, List.set_cons_zero, List.set_cons_succ]
  refine wpAnyU_one (i := 34) (by kernel_rfl) rfl (fun K hK => ?_)
  go_simp
  go_at_call 13
  (with_reducible refine HPU.out.mono ?_)
  rintro e we ⟨rfl, rfl⟩
  refine hK.out _ _ (fun _ => hSd) (fun _ => ?_)
  clear hK K
  try simp only [Act.put, List.getElem_toArray, List.getElem_cons_succ, List.getElem_cons_zero, List.setIfInBounds_toArray, List.set_cons_zero, List.set_cons_succ]
  refine wpAnyU_take (i := 35) [36, 37, 38, 39, 40, 41, 42, 43, 44, 45, 46, 47] rfl (by as_aux_lemma => kernel_rfl) (by as_aux_lemma => kernel_rfl) (by as_aux_lemma => kernel_rfl) (by as_aux_lemma => kernel_rfl) (by as_aux_lemma => kernel_rfl) (by as_aux_lemma => kernel_rfl) (fun _ _ _ h => h) (by first | exact Or.inl ⟨by rfl, (by intro W hSW; (try dsimp only at hSW); (try go_split_ands); go_simp <;> with_reducible rfl)⟩ | exact Or.inr ⟨by rfl, rfl⟩) hSd ?_
  try simp only [Act.put, List.getElem_toArray, List.getElem_cons_succ, List.getElem_cons_zero, List.setIfInBounds_toArray, List.set_cons_zero, List.set_cons_succ]
  refine wpAnyU_take (i := 36) [37, 38, 39, 40, 41, 42, 43, 44, 45, 46, 47] rfl (by as_aux_lemma => kernel_rfl) (by as_aux_lemma => kernel_rfl) (by as_aux_lemma => kernel_rfl) (by as_aux_lemma => kernel_rfl) (by as_aux_lemma => kernel_rfl) (by as_aux_lemma => kernel_rfl) (fun _ _ _ h => h) (Or.inl ⟨by rfl, (by intro W hSW; (try dsimp only at hSW); (try go_split_ands); go_simp <;> with_reducible rfl)⟩) hSd ?_
  try simp only [Act.put, List.getElem_toArray, List.getElem_cons_succ, List.getElem_cons_zero, List.setIfInBounds_toArray, List.set_cons_zero, List.set_cons_succ]
  refine wpAnyU_take (i := 37) [38, 39, 40, 41, 42, 43, 44, 45, 46, 47] rfl (by as_aux_lemma => kernel_rfl) (by as_aux_lemma => kernel_rfl) (by as_aux_lemma => kernel_rfl) (by as_aux_lemma => kernel_rfl) (by as_aux_lemma => kernel_rfl) (by as_aux_lemma => kernel_rfl) (fun _ _ _ h => h) (Or.inl ⟨by rfl, (by intro W hSW; (try dsimp only at hSW); (try go_split_ands); go_simp <;> with_reducible rfl)⟩) hSd ?_
  try simp only [Act.put, List.getElem_toArray, List.getElem_cons_succ, List.getElem_cons_zero, List.setIfInBounds_toArray, List.set_cons_zero, List.set_cons_succ]
  refine wpAnyU_take (i := 38) [39, 40, 41, 42, 43, 44, 45, 46, 47] rfl (by as_aux_lemma => kernel_rfl) (by as_aux_lemma => kernel_rfl) (by as_aux_lemma => kernel_rfl) (by as_aux_lemma => kernel_rfl) (by as_aux_lemma => kernel_rfl) (by as_aux_lemma => kernel_rfl) (fun _ _ _ h => h) (by first | exact Or.inl ⟨by rfl, (by intro W hSW; (try dsimp only at hSW); (try go_split_ands); go_simp <;> with_reducible rfl)⟩ | exact Or.inr ⟨by rfl, rfl⟩) hSd ?_
  try simp only [Act.put, List.getElem_toArray, List.getElem_cons_succ, List.getElem_cons_zero, List.setIfInBounds_toArray, List.set_cons_zero, List.set_cons_succ]
  refine wpAnyU_take (i := 39) [40, 41, 42, 43, 44, 45, 46, 47] rfl (by as_aux_lemma => kernel_rfl) (by as_aux_lemma => kernel_rfl) (by as_aux_lemma => kernel_rfl) (by as_aux_lemma => kernel_rfl) (by as_aux_lemma => kernel_rfl) (by as_aux_lemma => kernel_rfl) (fun _ _ _ h => h) (by first | exact Or.inl ⟨by rfl, (by intro W hSW; (try dsimp only at hSW); (try go_split_ands); go_simp <;> with_reducible rfl)⟩ | exact Or.inr ⟨by rfl, rfl⟩) hSd ?_
  try simp only [Act.put, List.getElem_toArray, List.getElem_cons_succ, List.getElem_cons_zero, List.setIfInBounds_toArray, List.set_cons_zero, List.set_cons_succ]
  refine wpAnyU_one (i := 40) (by kernel_rfl) rfl (fun K hK => ?_)
  go_simp
  go_at_call 10
  (with_reducible refine HPI.out.mono ?_)
  rintro e wf ⟨rfl, rfl⟩
  refine hK.out _ _ (fun _ => hSd) (fun _ => ?_)
  clear hK K
  try simp only [Act.put, List.getElem_toArray, List.getElem_cons_succ, List.getElem_cons_zero, List.setIfInBounds_toArray, List.set_cons_zero, List.set_cons_succ]
  refine wpAnyU_take (i := 41) [42, 43, 44, 45, 46, 47] rfl (by as_aux_lemma => kernel_rfl) (by as_aux_lemma => kernel_rfl) (by as_aux_lemma => kernel_rfl) (by as_aux_lemma => kernel_rfl) (by as_aux_lemma => kernel_rfl) (by as_aux_lemma => kernel_rfl) (fun _ _ _ h => h) (by first | exact Or.inl ⟨by rfl, (by intro W hSW; (try dsimp only at hSW); (try go_split_ands); go_simp <;> with_reducible rfl)⟩ | exact Or.inr ⟨by rfl, rfl⟩) hSd ?_
  try simp only [Act.put, List.getElem_toArray, List.getElem_cons_succ, List.getElem_cons_zero, List.setIfInBounds_toArray, List.set_cons_zero, List.set_cons_succ]
  refine wpAnyU_take (i := 42) [43, 44, 45, 46, 47] rfl (by as_aux_lemma => kernel_rfl) (by as_aux_lemma => kernel_rfl) (by as_aux_lemma => kernel_rfl) (by as_aux_lemma => kernel_rfl) (by as_aux_lemma => kernel_rfl) (by as_aux_lemma => kernel_rfl) (fun _ _ _ h => h) (Or.inl ⟨by rfl, (by intro W hSW; (try dsimp only at hSW); (try go_split_ands); go_simp <;> with_reducible rfl)⟩) hSd ?_
  try simp only [Act.put, List.getElem_toArray, List.getElem_cons_succ, List.getElem_cons_zero, List.setIfInBounds_toArray, List.set_cons_zero, List.set_cons_succ]
  refine wpAnyU_take (i := 43) [44, 45, 46, 47] rfl (by as_aux_lemma => kernel_rfl) (by as_aux_lemma => kernel_rfl) (by as_aux_lemma => kernel_rfl) (by as_aux_lemma => kernel_rfl) (by as_aux_lemma => kernel_rfl) (by as_aux_lemma => kernel_rfl) (fun _ _ _ h => h) (Or.inl ⟨by rfl, (by intro W hSW; (try dsimp only at hSW); (try go_split_ands); go_simp <;> with_reducible rfl)⟩) hSd ?_
  try simp only [Act.put, List.getElem_toArray, List.getElem_cons_succ, List.getElem_cons_zero, List.setIfInBounds_toArray, List.set_cons_zero, List.set_cons_succ]
  refine wpAnyU_take (i := 44) [45, 46, 47] rfl (by as_aux_lemma => kernel_rfl) (by as_aux_lemma => kernel_rfl) (by as_aux_lemma => kernel_rfl) (by as_aux_lemma => kernel_rfl) (by as_aux_lemma => kernel_rfl) (by as_aux_lemma => kernel_rfl) (fun _ _ _ h => h) (by first | exact Or.inl ⟨by rfl, (by intro W hSW; (try dsimp only at hSW); (try go_split_ands); go_simp <;> with_reducible rfl)⟩ | exact Or.inr ⟨by rfl, rfl⟩) hSd ?_
  try simp only [Act.put, List.getElem_toArray, List.getElem_cons_succ, List.getElem_cons_zero, List.setIfInBounds_toArray, List.set_cons_zero, List.set_cons_succ]
  refine wpAnyU_take (i := 45) [46, 47] rfl (by as_aux_lemma => kernel_rfl) (by as_aux_lemma => kernel_rfl) (by as_aux_lemma => kernel_rfl) (by as_aux_lemma => kernel_rfl) (by as_aux_lemma => kernel_rfl) (by as_aux_lemma => kernel_rfl) (fun _ _ _ h => h) (by first | exact Or.inl ⟨by rfl, (by intro W hSW; (try dsimp only at hSW); (try go_split_ands); go_simp <;> with_reducible rfl)⟩ | exact Or.inr ⟨by rfl, rfl⟩) hSd ?_
  try simp only [Act.put, List.getElem_toArray, List.getElem_cons_succ, List.getElem_cons_zero, List.setIfInBounds_toArray, List.set_cons_zero, List.set_cons_succ]
  refine wpAnyU_take (i := 46) [47] rfl (by as_aux_lemma => kernel_rfl) (by as_aux_lemma => kernel_rfl) (by as_aux_lemma => kernel_rfl) (by as_aux_lemma => kernel_rfl) (by as_aux_lemma => kernel_rfl) (by as_aux_lemma => kernel_rfl) (fun _ _ _ h => h) (Or.inl ⟨by rfl, (by intro W hSW; (try dsimp only at hSW); (try go_split_ands); go_simp <;> with_reducible rfl)⟩) hSd ?_
  try simp only [Act.put, List.getElem_toArray, List.getElem_cons_succ, List.getElem_cons_zero, List.setIfInBounds_toArray, List.set_cons_zero, List.set_cons_succ]
  refine wpAnyU_take (i := 47) [] rfl (by as_aux_lemma => kernel_rfl) (by as_aux_lemma => kernel_rfl) (by as_aux_lemma => kernel_rfl) (by as_aux_lemma => kernel_rfl) (by as_aux_lemma => kernel_rfl) (by as_aux_lemma => kernel_rfl) (fun _ _ _ h => h) (Or.inl ⟨by rfl, (by intro W hSW; (try dsimp only at hSW); (try go_split_ands); go_simp <;> with_reducible rfl)⟩) hSd ?_
  try simp only [Act.put, List.getElem_toArray, List.getElem_cons_succ, List.getElem_cons_zero, List.setIfInBounds_toArray, List.set_cons_zero, List.set_cons_succ]
  refine wpAnyU_done (by kernel_rfl) ?_ _
  go_wp2
  go_ret
  exact ⟨rfl, KD.out.below⟩
end Mun
