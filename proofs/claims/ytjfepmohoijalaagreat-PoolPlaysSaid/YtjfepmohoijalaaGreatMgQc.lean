/- Texts of mine, one behind the other: RegW, PqD. -/
import Derived.Test.YtjfepmohoijalaaGreatMgC
import Derived.Test.YtjfepmohoijalaaGreatMgQa
section
/- A drawn region where two operations may come up at once. -/
set_option maxRecDepth 100000
namespace Mun
open Go

section
variable {P : Program} {ops : Array Oper} {Q : Exit → Act → World → Prop} {md : Region.Mode} {S : World → Prop} {X : List Nat}

theorem wpAnyU_two {i j : Nat} {o u : Oper} {n : Nat} {l : Array Bool} {a : Act} {w : World} (hr : Region.ready md ops l = [i, j]) (ho : ops[i]? = some o) (hu : ops[j]? = some u)
    (h : ∀ K' : Act → World → Prop, Shut (∀ a w, (X.contains i = false → S w) → ((X.contains i = false → S w) → wpAnyU P md ops Q S X n (l.setIfInBounds i true) a w) → K' a w) → if Region.wanted o (yielded ops a.tmps) = true then Oper.wp P o a w K' Q else K' (a.put o.dst undef) w)
    (h2 : ∀ K' : Act → World → Prop, Shut (∀ a w, (X.contains j = false → S w) → ((X.contains j = false → S w) → wpAnyU P md ops Q S X n (l.setIfInBounds j true) a w) → K' a w) → if Region.wanted u (yielded ops a.tmps) = true then Oper.wp P u a w K' Q else K' (a.put u.dst undef) w) :
    wpAnyU P md ops Q S X (n + 1) l a w :=
  ⟨fun h0 => absurd h0 (by rw [hr]; simp), fun k hk => by
    rw [hr] at hk
    rcases List.mem_cons.1 hk with rfl | hk
    · exact wpOp_step ho (fun K' hK => h K' (fun a w hS hW => hK a w ⟨hS, hW hS⟩))
    · rw [List.mem_singleton] at hk
      subst hk
      exact wpOp_step hu (fun K' hK => h2 K' (fun a w hS hW => hK a w ⟨hS, hW hS⟩))⟩
end
end Mun
end

section
/- looks: the pool tells what chapter 8's own one says. -/
set_option maxRecDepth 100000
set_option linter.unusedVariables false
set_option linter.unusedSimpArgs false
namespace Mun
open Go Go.RowKit
open Go.Proofs

section
variable {w0 w w' : World} {D L Pb n i : Nat} {s s' : PX} {x x' : PZ} {last : List Bytes} {p p' : RP} {xr xr' : RPV} {v' : PLV}

theorem pq_pins (h : PM0 w0 w D L Pb s x p xr) (hi : PI n i s last p) (k : Nat) : Calls Tryz.prog 29 #[.pointer (some ⟨Pb, 0, none⟩), .int .i64 k] w fun e w' => e = .returned (.int .i64 (p.pinsOf k : Int)) ∧ w = w' := by
  rcases h.there hi k with ⟨hl, hf⟩ | ⟨fi, z, g, h0, hz, hp, hf, hg, hk, hfz⟩
  · refine (pins_no w Pb D L _ s.pm x.v h.pl.rep k hl).mono ?_
    rintro e w' ⟨rfl, rfl⟩
    have : p.pinsOf k = 0 := by
      unfold RP.pinsOf
      rw [if_neg (by omega), hf (by omega)]
    rw [this]
    exact ⟨rfl, rfl⟩
  · refine (pins_yes w Pb D L _ s.pm x.v h.pl.rep k fi z hz hp h0).mono ?_
    rintro e w' ⟨rfl, rfl⟩
    have : p.pinsOf k = z.1.pins := by
      unfold RP.pinsOf
      rw [if_neg (by omega), hf]
      simp only
      rw [hg]
      exact hk.pins
    rw [this]
    exact ⟨rfl, rfl⟩

set_option maxHeartbeats 4000000 in
theorem pq_looks (h : PM0 w0 w D L Pb s x p xr) (hi : PI n i s last p) : Calls Tryz.prog 12 #[.agg (bcells D L Pb), .agg (rpcells p xr)] w fun e w' => e = .returned (.bool true) ∧ Below w.heap.size w w' := by
  obtain ⟨w1, hw1⟩ : ∃ w1, (w.alloc (.cells (bcells D L Pb) 28)).alloc (.cells (rpcells p xr) 36) = w1 := ⟨_, rfl⟩
  have hb1 : Below w.heap.size w w1 := by rw [← hw1]; exact below_more (below_more (Below.refl _ _) _) _
  have kB : w1.heap[w.heap.size]? = some (.cells (bcells D L Pb) 28 (0, 0)) := by
    rw [← hw1]
    exact (((Below.refl _ _).alloc (Nat.le_refl _) _).block _ (by rw [World.size_alloc]; omega)).trans (heap_alloc_new w _)
  have kM : PBox w1 (w.heap.size + 1) (rpcells p xr) := by
    rw [← hw1]
    have := PBox.new (w.alloc (.cells (bcells D L Pb) 28)) (rpcells p xr)
    rw [World.size_alloc] at this
    exact this
  have hW : ∀ W, Below w1.heap.size w1 W → PM0 w0 W D L Pb s x p xr ∧ Below w.heap.size w W ∧ (W.cell? ⟨w.heap.size, 0, none⟩ = some (.pointer (some ⟨D, 0, none⟩)) ∧ W.cell? ⟨w.heap.size, 1, none⟩ = some (.pointer (some ⟨L, 0, none⟩)) ∧ W.cell? ⟨w.heap.size, 2, none⟩ = some (.pointer (some ⟨Pb, 0, none⟩))) ∧ PBox W (w.heap.size + 1) (rpcells p xr) := fun W hb => by
    have k := (hb.block _ (Array.getElem?_eq_some_iff.1 kB).1).trans kB
    exact ⟨(h.more hb1).more hb, hb1.trans (hb.mono hb1.size), ⟨cell_of_row _ _ 0 _ _ _ k, cell_of_row _ _ 1 _ _ _ k, cell_of_row _ _ 2 _ _ _ k⟩, kM.below hb kM.lt⟩
  have h1 := (hW w1 (Below.refl _ _)).1
  obtain ⟨-, -, ⟨b10, b11, b12⟩, -⟩ := hW w1 (Below.refl _ _)
  have hfo := frames_any w1 Pb D L _ s.pm x.v h1.pl.rep
  obtain ⟨fa, fc, efv, -, -⟩ := h.ra.fs.form
  obtain ⟨da, dc, edv, -, -⟩ := h.ra.ds.form
  obtain ⟨ka, kc, ekv, -, -⟩ := h.ra.ks.form
  obtain ⟨fm, hfm⟩ : ∃ fm, xr.fs.length = fm := ⟨_, rfl⟩
  obtain ⟨dm, hdm⟩ : ∃ dm, p.dt.length = dm := ⟨_, rfl⟩
  obtain ⟨km, hkm⟩ : ∃ km, xr.ks.length = km := ⟨_, rfl⟩
  rw [hfm] at efv
  rw [hdm] at edv
  rw [hkm] at ekv
  have hvf : x.v.fs.length = fm := by
    have h2 := hi.frR
    rw [h.pl.rep.frs, List.length_map, ← h.ra.frs, List.length_map] at h2
    omega
  have hvd : s.pm.dt.length = dm := by rw [← hdm]; exact congrArg List.length hi.lk.dt.symm
  have hkn : km = n := by
    have h2 := hi.lk.dkl
    rw [← h.ra.kps, List.length_map, hkm] at h2
    exact h2.trans hi.base
  have hfm4 : (fm : Int) ≤ 4 := by have h2 := hi.frl; rw [h.pl.rep.frs, List.length_map, hvf] at h2; omega
  have hkm8 : (km : Int) ≤ 8 := by have := hi.n8; omega
  have hdm8 : (dm : Int) ≤ 8 := by have := hi.n8; have := hi.dtl; omega
  have hfm0 : (0 : Int) ≤ (fm : Int) := by omega
  have hkm0 : (0 : Int) ≤ (km : Int) := by omega
  have hdm0 : (0 : Int) ≤ (dm : Int) := by omega
  obtain ⟨fo, hfod⟩ : ∃ fo, p.forced = fo := ⟨_, rfl⟩
  have hfoe : s.lm.base + s.lm.forced = fo := by rw [← hfod]; exact hi.lk.forced.symm
  have hFO : ∀ W, Below w1.heap.size w1 W → Calls Tryz.prog 10 #[.pointer (some ⟨L, 0, none⟩)] W fun e w' => e = .returned (.int .u64 (fo : Int)) ∧ ∃ k, w' = W.drewN k := fun W hb => by
    have := forced_pl (hW W hb).1.pl
    rw [hfoe] at this
    exact this
  have HFR := Lib.hid hfo
  have HFO := Lib.hid hFO
  have HX := Lib.hid (And.intro h (And.intro hi (And.intro hW (And.intro efv (And.intro edv (And.intro ekv (And.intro hfm (And.intro hdm (And.intro hkm (And.intro hvf (And.intro hvd (And.intro hkn hfod))))))))))))
  obtain ⟨csm, hcsm⟩ : ∃ csm, rpcells p xr = csm := ⟨_, rfl⟩
  have HCSM := Lib.hid hcsm
  rw [hcsm] at hw1 ⊢
  clear h hi hb1 kB kM hW h1 hfo efv edv ekv hfm hdm hkm hvf hvd hkn hfod hfoe hFO hcsm
  unfold bcells at hw1 ⊢
  go_enter Tryz.func12, Tryz.ntmps12
  go_wp2_with (first | rw [hw1])
  refine HFR.out.mono ?_
  rintro e w2 ⟨g2, c2, rfl, hown2, hb2⟩
  obtain ⟨h, hi, hW, efv, edv, ekv, hfm, hdm, hkm, hvf, hvd, hkn, hfod⟩ := HX.out
  rw [hvf] at hown2 ⊢
  have hB2d : Below w1.heap.size w1 w2.drew := hb2.trans (below_drewN (Below.refl _ _) 1)
  obtain ⟨-, -, ⟨b20, b21, b22⟩, kM2⟩ := hW _ hB2d
  have hS0 : w2.drew.cell? ⟨w.heap.size + 1, 0, none⟩ = some (.slice fa fm fc) ∧ w2.drew.cell? ⟨w.heap.size, 1, none⟩ = some (.pointer (some ⟨L, 0, none⟩)) ∧ w2.drew.cell? ⟨w.heap.size + 1, 5, none⟩ = some (.int .u64 (fo : Int)) :=
    ⟨kM2.cell 0 (by simp [rpcells, efv]), b21, kM2.cell 5 (by simp [rpcells, hfod])⟩
  have HF2 := Lib.hid (HFO.out _ hB2d)
  have H2 := Lib.hid (And.intro hown2 hb2)
  clear h hi hW efv edv ekv hfm hdm hkm hvf hvd hkn hfod hown2 hb2 hB2d b20 b21 b22 kM2 HFR b10 b11 b12
  go_upto_region 2 with (fail)
  refine wp_region_U (fun V => V.cell? ⟨w.heap.size + 1, 0, none⟩ = some (.slice fa fm fc) ∧ V.cell? ⟨w.heap.size, 1, none⟩ = some (.pointer (some ⟨L, 0, none⟩)) ∧ V.cell? ⟨w.heap.size + 1, 5, none⟩ = some (.int .u64 (fo : Int))) [] (by kernel_rfl) ?_
  refine wpAnyU_take (i := 0) [1, 5, 6, 7, 8, 9, 10, 11, 12, 13] rfl (by as_aux_lemma => kernel_rfl) (by as_aux_lemma => kernel_rfl) (by as_aux_lemma => kernel_rfl) (by as_aux_lemma => kernel_rfl) (by as_aux_lemma => kernel_rfl) (by as_aux_lemma => kernel_rfl) (fun _ _ _ h => h) (Or.inl ⟨by rfl, (by intro W hSW; (try dsimp only at hSW); (try go_split_ands); go_simp <;> with_reducible rfl)⟩) hS0 ?_
  try simp only [Act.put, List.getElem_toArray, List.getElem_cons_succ, List.getElem_cons_zero, List.setIfInBounds_toArray, List.set_cons_zero, List.set_cons_succ]
  refine wpAnyU_take (i := 1) [5, 6, 7, 8, 9, 10, 11, 12, 13] rfl (by as_aux_lemma => kernel_rfl) (by as_aux_lemma => kernel_rfl) (by as_aux_lemma => kernel_rfl) (by as_aux_lemma => kernel_rfl) (by as_aux_lemma => kernel_rfl) (by as_aux_lemma => kernel_rfl) (fun _ _ _ h => h) (Or.inl ⟨by rfl, (by intro W hSW; (try dsimp only at hSW); (try go_split_ands); go_simp <;> with_reducible rfl)⟩) hS0 ?_
  try simp only [Act.put, List.getElem_toArray, List.getElem_cons_succ, List.getElem_cons_zero, List.setIfInBounds_toArray, List.set_cons_zero, List.set_cons_succ]
  refine wpAnyU_take (i := 2) [3, 4, 5, 6, 7, 8, 9, 10, 11, 12, 13] rfl (by as_aux_lemma => kernel_rfl) (by as_aux_lemma => kernel_rfl) (by as_aux_lemma => kernel_rfl) (by as_aux_lemma => kernel_rfl) (by as_aux_lemma => kernel_rfl) (by as_aux_lemma => kernel_rfl) (fun _ _ _ h => h) (Or.inl ⟨by rfl, (by intro W hSW; (try dsimp only at hSW); (try go_split_ands); go_simp <;> with_reducible rfl)⟩) hS0 ?_
  try simp only [Act.put, List.getElem_toArray, List.getElem_cons_succ, List.getElem_cons_zero, List.setIfInBounds_toArray, List.set_cons_zero, List.set_cons_succ]
  refine wpAnyU_take (i := 3) [4, 5, 6, 7, 8, 9, 10, 11, 12, 13] rfl (by as_aux_lemma => kernel_rfl) (by as_aux_lemma => kernel_rfl) (by as_aux_lemma => kernel_rfl) (by as_aux_lemma => kernel_rfl) (by as_aux_lemma => kernel_rfl) (by as_aux_lemma => kernel_rfl) (fun _ _ _ h => h) (Or.inl ⟨by rfl, (by intro W hSW; (try dsimp only at hSW); (try go_split_ands); go_simp <;> with_reducible rfl)⟩) hS0 ?_
  try simp only [Act.put, List.getElem_toArray, List.getElem_cons_succ, List.getElem_cons_zero, List.setIfInBounds_toArray, List.set_cons_zero, List.set_cons_succ]
  refine wpAnyU_take (i := 4) [5, 6, 7, 8, 9, 10, 11, 12, 13] rfl (by as_aux_lemma => kernel_rfl) (by as_aux_lemma => kernel_rfl) (by as_aux_lemma => kernel_rfl) (by as_aux_lemma => kernel_rfl) (by as_aux_lemma => kernel_rfl) (by as_aux_lemma => kernel_rfl) (fun _ _ _ h => h) (Or.inl ⟨by rfl, (by intro W hSW; (try dsimp only at hSW); (try go_split_ands); go_simp <;> with_reducible rfl)⟩) hS0 ?_
  try simp only [Act.put, List.getElem_toArray, List.getElem_cons_succ, List.getElem_cons_zero, List.setIfInBounds_toArray, List.set_cons_zero, List.set_cons_succ]
  refine wpAnyU_take (i := 5) [6, 7, 8, 9, 10, 11, 12, 13] rfl (by as_aux_lemma => kernel_rfl) (by as_aux_lemma => kernel_rfl) (by as_aux_lemma => kernel_rfl) (by as_aux_lemma => kernel_rfl) (by as_aux_lemma => kernel_rfl) (by as_aux_lemma => kernel_rfl) (fun _ _ _ h => h) (Or.inl ⟨by rfl, (by intro W hSW; (try dsimp only at hSW); (try go_split_ands); go_simp <;> with_reducible rfl)⟩) hS0 ?_
  try simp only [Act.put, List.getElem_toArray, List.getElem_cons_succ, List.getElem_cons_zero, List.setIfInBounds_toArray, List.set_cons_zero, List.set_cons_succ]
  refine wpAnyU_take (i := 6) [7, 8, 9, 10, 11, 12, 13] rfl (by as_aux_lemma => kernel_rfl) (by as_aux_lemma => kernel_rfl) (by as_aux_lemma => kernel_rfl) (by as_aux_lemma => kernel_rfl) (by as_aux_lemma => kernel_rfl) (by as_aux_lemma => kernel_rfl) (fun _ _ _ h => h) (Or.inl ⟨by rfl, (by intro W hSW; (try dsimp only at hSW); (try go_split_ands); go_simp <;> with_reducible rfl)⟩) hS0 ?_
  try simp only [Act.put, List.getElem_toArray, List.getElem_cons_succ, List.getElem_cons_zero, List.setIfInBounds_toArray, List.set_cons_zero, List.set_cons_succ]
  refine wpAnyU_take (i := 7) [8, 9, 12, 13] rfl (by as_aux_lemma => kernel_rfl) (by as_aux_lemma => kernel_rfl) (by as_aux_lemma => kernel_rfl) (by as_aux_lemma => kernel_rfl) (by as_aux_lemma => kernel_rfl) (by as_aux_lemma => kernel_rfl) (fun _ _ _ h => h) (by first | exact Or.inl ⟨by rfl, (by intro W hSW; (try dsimp only at hSW); (try go_split_ands); go_simp <;> with_reducible rfl)⟩ | exact Or.inr ⟨by rfl, rfl⟩) hS0 ?_
  try simp only [Act.put, List.getElem_toArray, List.getElem_cons_succ, List.getElem_cons_zero, List.setIfInBounds_toArray, List.set_cons_zero, List.set_cons_succ]
  refine wpAnyU_take (i := 8) [9, 12, 13] rfl (by as_aux_lemma => kernel_rfl) (by as_aux_lemma => kernel_rfl) (by as_aux_lemma => kernel_rfl) (by as_aux_lemma => kernel_rfl) (by as_aux_lemma => kernel_rfl) (by as_aux_lemma => kernel_rfl) (fun _ _ _ h => h) (by first | exact Or.inl ⟨by rfl, (by intro W hSW; (try dsimp only at hSW); (try go_split_ands); go_simp <;> with_reducible rfl)⟩ | exact Or.inr ⟨by rfl, rfl⟩) hS0 ?_
  try simp only [Act.put, List.getElem_toArray, List.getElem_cons_succ, List.getElem_cons_zero, List.setIfInBounds_toArray, List.set_cons_zero, List.set_cons_succ]
  refine wpAnyU_take (i := 10) [11, 12, 13] rfl (by as_aux_lemma => kernel_rfl) (by as_aux_lemma => kernel_rfl) (by as_aux_lemma => kernel_rfl) (by as_aux_lemma => kernel_rfl) (by as_aux_lemma => kernel_rfl) (by as_aux_lemma => kernel_rfl) (fun _ _ _ h => h) (by first | exact Or.inl ⟨by rfl, (by intro W hSW; (try dsimp only at hSW); (try go_split_ands); go_simp <;> with_reducible rfl)⟩ | exact Or.inr ⟨by rfl, rfl⟩) hS0 ?_
  try simp only [Act.put, List.getElem_toArray, List.getElem_cons_succ, List.getElem_cons_zero, List.setIfInBounds_toArray, List.set_cons_zero, List.set_cons_succ]
  refine wpAnyU_take (i := 11) [12, 13] rfl (by as_aux_lemma => kernel_rfl) (by as_aux_lemma => kernel_rfl) (by as_aux_lemma => kernel_rfl) (by as_aux_lemma => kernel_rfl) (by as_aux_lemma => kernel_rfl) (by as_aux_lemma => kernel_rfl) (fun _ _ _ h => h) (by first | exact Or.inl ⟨by rfl, (by intro W hSW; (try dsimp only at hSW); (try go_split_ands); go_simp <;> with_reducible rfl)⟩ | exact Or.inr ⟨by rfl, rfl⟩) hS0 ?_
  try simp only [Act.put, List.getElem_toArray, List.getElem_cons_succ, List.getElem_cons_zero, List.setIfInBounds_toArray, List.set_cons_zero, List.set_cons_succ]
  refine wpAnyU_one (i := 9) (by kernel_rfl) rfl (fun K hK => ?_)
  go_simp
  go_at_call 10
  (with_reducible refine HF2.out.mono ?_)
  rintro e w3 ⟨rfl, kq, hw3⟩
  have hb3 : Below w2.heap.size w2 w3 := by rw [hw3]; exact below_drewN (below_drewN (Below.refl _ _) 1) kq
  have hS1 : w3.cell? ⟨w.heap.size + 1, 0, none⟩ = some (.slice fa fm fc) ∧ w3.cell? ⟨w.heap.size, 1, none⟩ = some (.pointer (some ⟨L, 0, none⟩)) ∧ w3.cell? ⟨w.heap.size + 1, 5, none⟩ = some (.int .u64 (fo : Int)) := by rw [hw3]; exact hS0
  clear hw3
  refine hK.out _ _ (fun _ => hS1) (fun _ => ?_)
  clear hK K
  try simp only [Act.put, List.getElem_toArray, List.getElem_cons_succ, List.getElem_cons_zero, List.setIfInBounds_toArray, List.set_cons_zero, List.set_cons_succ]
  refine wpAnyU_take (i := 12) [13] rfl (by as_aux_lemma => kernel_rfl) (by as_aux_lemma => kernel_rfl) (by as_aux_lemma => kernel_rfl) (by as_aux_lemma => kernel_rfl) (by as_aux_lemma => kernel_rfl) (by as_aux_lemma => kernel_rfl) (fun _ _ _ h => h) (by first | exact Or.inl ⟨by rfl, (by intro W hSW; (try dsimp only at hSW); (try go_split_ands); go_simp <;> with_reducible rfl)⟩ | exact Or.inr ⟨by rfl, rfl⟩) hS1 ?_
  try simp only [Act.put, List.getElem_toArray, List.getElem_cons_succ, List.getElem_cons_zero, List.setIfInBounds_toArray, List.set_cons_zero, List.set_cons_succ]
  refine wpAnyU_take (i := 13) [] rfl (by as_aux_lemma => kernel_rfl) (by as_aux_lemma => kernel_rfl) (by as_aux_lemma => kernel_rfl) (by as_aux_lemma => kernel_rfl) (by as_aux_lemma => kernel_rfl) (by as_aux_lemma => kernel_rfl) (fun _ _ _ h => h) (Or.inl ⟨by rfl, (by intro W hSW; (try dsimp only at hSW); (try go_split_ands); go_simp <;> with_reducible rfl)⟩) hS1 ?_
  try simp only [Act.put, List.getElem_toArray, List.getElem_cons_succ, List.getElem_cons_zero, List.setIfInBounds_toArray, List.set_cons_zero, List.set_cons_succ]
  refine wpAnyU_done (by kernel_rfl) ?_ _
  have H3 : Hid (Below w1.heap.size w1 w3 ∧ w3.ownsRow w1.heap.size 3 1 (.slice (some ⟨g2, 0, none⟩) fm c2) fm (zv (pgsOf x.v))) := ⟨H2.out.2.trans (hb3.mono H2.out.2.size), own_below H2.out.1 hb3⟩
  clear hb3 H2 HF2 hS0 hS1
  go_wp2
  go_loopw [6] (fun i0 wr => ∃ j : Nat, j ≤ fm ∧ i0 = .int .i64 (j : Int) ∧ Below w3.heap.size w3 wr) (fun i0 _ => fm - (RowKit.intOf i0).toNat)
  case atStart => exact ⟨0, Nat.zero_le _, rfl, Below.refl _ _⟩
  case round =>
    obtain ⟨j, hj, rfl, hbr⟩ := hrel
    obtain ⟨wq, rfl⟩ : ∃ wq : World, wq = wr := ⟨_, rfl⟩
    obtain ⟨h, hi, hW, efv, edv, ekv, hfm, hdm, hkm, hvf, hvd, hkn, hfod⟩ := HX.out
    obtain ⟨hB3, hown3⟩ := H3.out
    have hBq : Below w1.heap.size w1 wq := hB3.trans (hbr.mono hB3.size)
    obtain ⟨hq, -, ⟨b0, b1, b2⟩, kMq⟩ := hW wq hBq
    have hj0 : (0 : Int) ≤ (j : Int) := by omega
    rcases Nat.lt_or_eq_of_le hj with hlt | heq
    · obtain ⟨f, hf⟩ : ∃ f, xr.fs[j]? = some f := ⟨_, List.getElem?_eq_getElem (by omega)⟩
      obtain ⟨fg, off, c, e, hc⟩ := hq.ra.fcell hf
      rw [efv, hfm] at e
      injection e with e1 e2 e3
      subst e1 e3
      have cj := hc 0 _ (by omega) rfl
      rw [Nat.add_zero] at cj
      have hj9 : j < (pgsOf x.v).length := by unfold pgsOf; rw [List.length_map]; omega
      have hpj : (pgsOf x.v)[j]? = some f.1.pg := by
        have h9 := hi.lk.pgs
        have h8 : p.fr[j]? = some f.1 := by rw [← h.ra.frs, List.getElem?_map, hf]; rfl
        have h7 : pgsOf x.v = s.pm.fr.map (·.pg) := by unfold pgsOf; rw [h.pl.rep.frs, List.map_map]; rfl
        rw [h7]
        have h6 : (s.unf.pm.fr.map (·.pg))[j]? = some f.1.pg := by rw [← h9, List.getElem?_map, h8]; rfl
        exact h6
      have cl : wq.cell? ⟨g2, j, none⟩ = some (.int .i64 f.1.pg) := by
        rw [(own_below hown3 hbr).cellAt j (by omega)]
        unfold zv
        rw [List.getElem?_map, hpj]
        rfl
      have a0 : wq.cell? ⟨w.heap.size + 1, 0, none⟩ = some (.slice (some ⟨fg, off, none⟩) fm fc) := kMq.cell 0 (by simp [rpcells, efv])
      obtain ⟨pg, hpg⟩ : ∃ pg, f.1.pg = pg := ⟨_, rfl⟩
      rw [hpg] at cj cl
      have hji : (j : Int) < (fm : Int) := by omega
      have HQ := Lib.hid (And.intro hbr hlt)
      clear h hi hW efv edv ekv hfm hdm hkm hvf hvd hkn hfod hB3 hown3 hBq hq b0 b1 b2 kMq hf hc hj9 hpj hpg hbr hlt hj
      go_upto_region 7 with (fail)
      go_quiet (fail)
      go_wp2
      go_roundw
      case rel => exact ⟨j + 1, by have := HQ.out.2; omega, by go_num, below_drewN HQ.out.1 _⟩
      case measure => have := HQ.out.2; simp [RowKit.intOf]; omega
    · subst heq
      have hdi := dirty_pl hq.pl hi.ti.dts (fun q hq => by have := hi.ti.dpg q hq; have := hi.n8; omega) (by have := hi.dtl; have := hi.n8; omega)
      have a2 : wq.cell? ⟨w.heap.size + 1, 2, none⟩ = some (.slice da dm dc) := kMq.cell 2 (by simp [rpcells, edv])
      have HDI := Lib.hid hdi
      have HBQ := Lib.hid hBq
      clear h hi hW efv edv ekv hfm hdm hkm hvf hvd hkn hfod hB3 hown3 hBq hq b0 b1 kMq hbr hdi hj H3
      go_wp2_with fail
      refine HDI.out.mono ?_
      rintro e w4 ⟨g4, c4, rfl, hown4, hb4⟩
      obtain ⟨h, hi, hW, efv, edv, ekv, hfm, hdm, hkm, hvf, hvd, hkn, hfod⟩ := HX.out
      rw [hvd] at hown4 ⊢
      have hB4 : Below w1.heap.size w1 w4 := HBQ.out.trans (hb4.mono HBQ.out.size)
      obtain ⟨hq4, -, ⟨b40, b41, b42⟩, kM4⟩ := hW w4 hB4
      have a42 : w4.cell? ⟨w.heap.size + 1, 2, none⟩ = some (.slice da dm dc) := kM4.cell 2 (by simp [rpcells, edv])
      have H4 := Lib.hid (And.intro hB4 hown4)
      clear h hi hW efv edv ekv hfm hdm hkm hvf hvd hkn hfod hown4 hb4 hB4 hq4 b40 b41 b42 kM4 HDI HBQ b2 a2
      go_wp2_with fail
      clear a42
      go_loopw [8] (fun i0 wr => ∃ j : Nat, j ≤ dm ∧ i0 = .int .i64 (j : Int) ∧ Below w4.heap.size w4 wr) (fun i0 _ => dm - (RowKit.intOf i0).toNat)
      case atStart => exact ⟨0, Nat.zero_le _, rfl, Below.refl _ _⟩
      case round =>
        obtain ⟨j, hj, rfl, hbr⟩ := hrel
        obtain ⟨wt, rfl⟩ : ∃ wt : World, wt = wr := ⟨_, rfl⟩
        obtain ⟨h, hi, hW, efv, edv, ekv, hfm, hdm, hkm, hvf, hvd, hkn, hfod⟩ := HX.out
        obtain ⟨hB4, hown4⟩ := H4.out
        have hBt : Below w1.heap.size w1 wt := hB4.trans (hbr.mono hB4.size)
        obtain ⟨hq, -, ⟨b0, b1, b2⟩, kMq⟩ := hW wt hBt
        have hj0 : (0 : Int) ≤ (j : Int) := by omega
        rcases Nat.lt_or_eq_of_le hj with hlt | heq
        · obtain ⟨d, hd⟩ : ∃ d, p.dt[j]? = some d := ⟨_, List.getElem?_eq_getElem (by omega)⟩
          obtain ⟨dg, doff, dcc, edv', -, -, -, -, hdcl⟩ := hq.ra.ds.at_ (by omega)
          rw [edv, hdm] at edv'
          injection edv' with e1 e2 e3
          subst e1 e3
          have cd0 := hdcl (j * 3 + 0) _ (by rw [mkc_get p.dt j 0 d hd (by decide)]; rfl)
          have cd1 := hdcl (j * 3 + 1) _ (by rw [mkc_get p.dt j 1 d hd (by decide)]; rfl)
          rw [Nat.add_zero] at cd0
          rw [← Nat.add_assoc] at cd1
          have hds : s.pm.dt[j]? = some d := by have e : p.dt = s.pm.dt := hi.lk.dt; rw [← e]; exact hd
          have hg := fun k hk => flat_get (fun p : Int × (Nat × Bool) => [Value.int .i64 p.1, Value.int .u64 (p.2.1 : Int)]) 2 (fun _ => rfl) s.pm.dt j k d hds hk
          have hown := own_below hown4 hbr
          have ce0 : wt.cell? ⟨g4, j * 2, none⟩ = some (.int .i64 d.1) := by
            have h9 := hown.cellAt (j * 2) (by omega)
            rw [h9]
            have := hg 0 (by decide)
            rw [Nat.add_zero] at this
            exact this
          have ce1 : wt.cell? ⟨g4, j * 2 + 1, none⟩ = some (.int .u64 (d.2.1 : Int)) := by
            have h9 := hown.cellAt (j * 2 + 1) (by omega)
            rw [h9]
            exact hg 1 (by decide)
          have a2 : wt.cell? ⟨w.heap.size + 1, 2, none⟩ = some (.slice (some ⟨dg, doff, none⟩) dm dc) := kMq.cell 2 (by simp [rpcells, edv])
          obtain ⟨dp, hdp⟩ : ∃ dp, d.1 = dp := ⟨_, rfl⟩
          obtain ⟨dr, hdr⟩ : ∃ dr, d.2.1 = dr := ⟨_, rfl⟩
          rw [hdp] at cd0 ce0
          rw [hdr] at cd1 ce1
          have hji : (j : Int) < (dm : Int) := by omega
          have HQ := Lib.hid (And.intro hbr hlt)
          clear h hi hW efv edv ekv hfm hdm hkm hvf hvd hkn hfod hB4 hown4 hBt hq b0 b1 b2 kMq hd hdcl hds hg hown hdp hdr hbr hlt hj
          go_upto_region 15 with (fail)
          go_quiet (fail)
          go_wp2
          go_roundw
          case rel => exact ⟨j + 1, by have := HQ.out.2; omega, by go_num, below_drewN HQ.out.1 _⟩
          case measure => have := HQ.out.2; simp [RowKit.intOf]; omega
        · subst heq
          have HBT := Lib.hid hBt
          clear h hi hW efv edv ekv hfm hdm hkm hvf hvd hkn hfod hB4 hown4 hBt hq b0 b1 b2 kMq hbr hj H4
          go_wp2
          go_loopw [9, 10, 11] (fun i0 _ _ wr => ∃ j : Nat, j ≤ km ∧ i0 = .int .i64 (j : Int) ∧ Below wt.heap.size wt wr) (fun i0 _ _ _ => km - (RowKit.intOf i0).toNat)
          case atStart => exact ⟨0, Nat.zero_le _, rfl, Below.refl _ _⟩
          case round =>
            obtain ⟨j, hj, rfl, hbr⟩ := hrel
            obtain ⟨wu, rfl⟩ : ∃ wu : World, wu = wr := ⟨_, rfl⟩
            obtain ⟨h, hi, hW, efv, edv, ekv, hfm, hdm, hkm, hvf, hvd, hkn, hfod⟩ := HX.out
            have hBu : Below w1.heap.size w1 wu := HBT.out.trans (hbr.mono HBT.out.size)
            obtain ⟨hq, hbw, ⟨b0, b1, b2⟩, kMq⟩ := hW wu hBu
            have a3 : wu.cell? ⟨w.heap.size + 1, 3, none⟩ = some (.slice ka km kc) := kMq.cell 3 (by simp [rpcells, ekv])
            have hj0 : (0 : Int) ≤ (j : Int) := by omega
            rcases Nat.lt_or_eq_of_le hj with hlt | heq
            · have hrd := read_pl hq.pl hi.alive j (by rw [hi.base, ← hkn]; exact hlt)
              have HRD := Lib.hid hrd
              have hji : (j : Int) < (km : Int) := by omega
              have HQ := Lib.hid (And.intro hbr (And.intro hlt hBu))
              clear h hi hW efv edv ekv hfm hdm hkm hvf hvd hkn hfod hBu hq b1 b2 kMq hbw hrd hbr hlt hj
              go_wp2_with fail
              refine HRD.out.mono ?_
              rintro e w5 ⟨g5, rfl, hown5, hb5⟩
              obtain ⟨hbr, hlt, hBu⟩ := HQ.out
              obtain ⟨h, hi, hW, efv, edv, ekv, hfm, hdm, hkm, hvf, hvd, hkn, hfod⟩ := HX.out
              have hB5 : Below w1.heap.size w1 w5 := hBu.trans (hb5.mono hBu.size)
              have hB5d : Below w1.heap.size w1 w5.drew := below_drewN hB5 1
              obtain ⟨hq, -, ⟨b50, b51, b52⟩, kM5⟩ := hW _ hB5d
              obtain ⟨qk, hqk⟩ : ∃ qk, xr.ks[j]? = some qk := ⟨_, List.getElem?_eq_getElem (by omega)⟩
              obtain ⟨kg, koff, kcc, ekv', -, -, -, -, hkcl⟩ := hq.ra.ks.at_ (by omega)
              rw [ekv, hkm] at ekv'
              injection ekv' with e1 e2 e3
              subst e1 e3
              have ck := hkcl j qk.2 (by rw [List.getElem?_map, hqk]; rfl)
              have hpq : qk.1 = s.dm.page j := by
                have h9 := hi.lk.dk j (by show j < s.dm.base.length; rw [hi.base, ← hkn]; exact hlt)
                rw [← h.ra.kps, List.getElem?_map, hqk] at h9
                injection h9
              have hrq := hq.ra.kb qk (List.mem_of_getElem? hqk)
              obtain ⟨qa, qn, qc, eqv, -⟩ := hrq.formN
              have hps := pq_pins hq hi j
              have hrp := rp_pins hq.ra (by have := (hi.ok h).sm.fr; omega) (j : Int)
              obtain ⟨sp, hsp⟩ : ∃ sp, strOf (s.dm.page j) = sp := ⟨_, rfl⟩
              have hs1 : ∀ W, Below w5.heap.size w5 W → (convert 41 9 (.slice (some ⟨g5, 0, none⟩) 512 512)).run Tryz.prog W = .ok (.string sp) W := fun W hb => by rw [← hsp]; exact str_bytes (RdB.below (F := NoF) (OwnB.rd hown5 (fun _ _ => noF _)) hb)
              have hs2 : ∀ W, Below w5.drew.heap.size w5.drew W → (convert 41 9 (.slice qa qn qc)).run Tryz.prog W = .ok (.string sp) W := fun W hb => by
                rw [← hsp, ← hpq, ← eqv]; exact str_bytes (hrq.below hb)
              have c5 := kM5
              have hbd5 : Below w5.heap.size w5 w5.drew := below_drewN (Below.refl _ _) 1
              rw [eqv] at ck
              have hcse := HCSM.out
              rw [hcse] at hrp c5
              have hS0 : (convert 41 9 (.slice (some ⟨g5, 0, none⟩) 512 512)).run Tryz.prog w5.drew = .ok (.string sp) w5.drew ∧ w5.drew.cell? ⟨w.heap.size + 1, 3, none⟩ = some (.slice (some ⟨kg, koff, none⟩) km kc) ∧ w5.drew.cell? ⟨kg, koff + j, none⟩ = some (.slice qa qn qc) ∧
                  (convert 41 9 (.slice qa qn qc)).run Tryz.prog w5.drew = .ok (.string sp) w5.drew ∧ w5.drew.cell? ⟨w.heap.size, 2, none⟩ = some (.pointer (some ⟨Pb, 0, none⟩)) ∧ w5.drew.heap[w.heap.size + 1]? = some (.cells csm 36 (0, 0)) :=
                ⟨hs1 _ hbd5, kM5.cell 3 (by simp [rpcells, ekv]), ck, hs2 _ (Below.refl _ _), b52, c5⟩
              have HSZ : Hid ((Tryz.prog.info? 36).map (·.size) = some csm.size) := by have := rp_size p xr; rw [hcse] at this; exact this
              have HPS := Lib.hid hps
              have HRP := Lib.hid hrp
              have HS := Lib.hid (And.intro hs1 hs2)
              have HB5 := Lib.hid hb5
              have hji : (j : Int) < (km : Int) := by omega
              clear hbr hlt hBu h hi hW efv edv ekv hfm hdm hkm hvf hvd hkn hfod hB5 hB5d hq b50 b51 b52 kM5 hqk hkcl ck hpq hrq eqv hps hrp hsp hs1 hs2 c5 hbd5 hcse hown5 hb5 HRD a3 b0
              go_upto_region 21 with (fail)
              refine wp_region_U (fun V => (convert 41 9 (.slice (some ⟨g5, 0, none⟩) 512 512)).run Tryz.prog V = .ok (.string sp) V ∧ V.cell? ⟨w.heap.size + 1, 3, none⟩ = some (.slice (some ⟨kg, koff, none⟩) km kc) ∧ V.cell? ⟨kg, koff + j, none⟩ = some (.slice qa qn qc) ∧ (convert 41 9 (.slice qa qn qc)).run Tryz.prog V = .ok (.string sp) V ∧ V.cell? ⟨w.heap.size, 2, none⟩ = some (.pointer (some ⟨Pb, 0, none⟩)) ∧ V.heap[w.heap.size + 1]? = some (.cells csm 36 (0, 0))) [] (by kernel_rfl) ?_
              refine wpAnyU_take (i := 0) [1, 2, 3, 4, 5, 6, 7, 8, 9, 10, 11, 12, 13, 14, 15, 16, 17, 18, 19, 20, 21, 22] rfl (by as_aux_lemma => kernel_rfl) (by as_aux_lemma => kernel_rfl) (by as_aux_lemma => kernel_rfl) (by as_aux_lemma => kernel_rfl) (by as_aux_lemma => kernel_rfl) (by as_aux_lemma => kernel_rfl) (fun _ _ _ h => h) (Or.inl ⟨by rfl, (by intro W hSW; (try dsimp only at hSW); (try go_split_ands); go_simp <;> with_reducible rfl)⟩) hS0 ?_
              try simp only [Act.put, List.getElem_toArray, List.getElem_cons_succ, List.getElem_cons_zero, List.setIfInBounds_toArray, List.set_cons_zero, List.set_cons_succ]
              refine wpAnyU_take (i := 1) [2, 3, 4, 5, 6, 7, 8, 9, 10, 11, 12, 13, 14, 15, 16, 17, 18, 19, 20, 21, 22] rfl (by as_aux_lemma => kernel_rfl) (by as_aux_lemma => kernel_rfl) (by as_aux_lemma => kernel_rfl) (by as_aux_lemma => kernel_rfl) (by as_aux_lemma => kernel_rfl) (by as_aux_lemma => kernel_rfl) (fun _ _ _ h => h) (Or.inl ⟨by rfl, (by intro W hSW; (try dsimp only at hSW); (try go_split_ands); go_simp <;> with_reducible rfl)⟩) hS0 ?_
              try simp only [Act.put, List.getElem_toArray, List.getElem_cons_succ, List.getElem_cons_zero, List.setIfInBounds_toArray, List.set_cons_zero, List.set_cons_succ]
              refine wpAnyU_take (i := 2) [3, 4, 5, 6, 7, 8, 9, 10, 11, 12, 13, 14, 15, 16, 17, 18, 19, 20, 21, 22] rfl (by as_aux_lemma => kernel_rfl) (by as_aux_lemma => kernel_rfl) (by as_aux_lemma => kernel_rfl) (by as_aux_lemma => kernel_rfl) (by as_aux_lemma => kernel_rfl) (by as_aux_lemma => kernel_rfl) (fun _ _ _ h => h) (Or.inl ⟨by rfl, (by intro W hSW; (try dsimp only at hSW); (try go_split_ands); go_simp <;> with_reducible rfl)⟩) hS0 ?_
              try simp only [Act.put, List.getElem_toArray, List.getElem_cons_succ, List.getElem_cons_zero, List.setIfInBounds_toArray, List.set_cons_zero, List.set_cons_succ]
              refine wpAnyU_take (i := 3) [4, 11, 12, 13, 14, 15, 16, 17, 18, 19, 20, 21, 22] rfl (by as_aux_lemma => kernel_rfl) (by as_aux_lemma => kernel_rfl) (by as_aux_lemma => kernel_rfl) (by as_aux_lemma => kernel_rfl) (by as_aux_lemma => kernel_rfl) (by as_aux_lemma => kernel_rfl) (fun _ _ _ h => h) (by first | exact Or.inl ⟨by rfl, (by intro W hSW; (try dsimp only at hSW); (try go_split_ands); go_simp <;> with_reducible rfl)⟩ | exact Or.inr ⟨by rfl, rfl⟩) hS0 ?_
              try simp only [Act.put, List.getElem_toArray, List.getElem_cons_succ, List.getElem_cons_zero, List.setIfInBounds_toArray, List.set_cons_zero, List.set_cons_succ]
              refine wpAnyU_take (i := 4) [11, 12, 13, 14, 15, 16, 17, 18, 19, 20, 21, 22] rfl (by as_aux_lemma => kernel_rfl) (by as_aux_lemma => kernel_rfl) (by as_aux_lemma => kernel_rfl) (by as_aux_lemma => kernel_rfl) (by as_aux_lemma => kernel_rfl) (by as_aux_lemma => kernel_rfl) (fun _ _ _ h => h) (by first | exact Or.inl ⟨by rfl, (by intro W hSW; (try dsimp only at hSW); (try go_split_ands); go_simp <;> with_reducible rfl)⟩ | exact Or.inr ⟨by rfl, rfl⟩) hS0 ?_
              try simp only [Act.put, List.getElem_toArray, List.getElem_cons_succ, List.getElem_cons_zero, List.setIfInBounds_toArray, List.set_cons_zero, List.set_cons_succ]
              refine wpAnyU_take (i := 5) [6, 8, 9, 10, 11, 12, 13, 14, 15, 16, 17, 18, 19, 20, 21, 22] rfl (by as_aux_lemma => kernel_rfl) (by as_aux_lemma => kernel_rfl) (by as_aux_lemma => kernel_rfl) (by as_aux_lemma => kernel_rfl) (by as_aux_lemma => kernel_rfl) (by as_aux_lemma => kernel_rfl) (fun _ _ _ h => h) (by first | exact Or.inl ⟨by rfl, (by intro W hSW; (try dsimp only at hSW); (try go_split_ands); go_simp <;> with_reducible rfl)⟩ | exact Or.inr ⟨by rfl, rfl⟩) hS0 ?_
              try simp only [Act.put, List.getElem_toArray, List.getElem_cons_succ, List.getElem_cons_zero, List.setIfInBounds_toArray, List.set_cons_zero, List.set_cons_succ]
              refine wpAnyU_take (i := 6) [8, 9, 10, 11, 12, 13, 14, 15, 16, 17, 18, 19, 20, 21, 22] rfl (by as_aux_lemma => kernel_rfl) (by as_aux_lemma => kernel_rfl) (by as_aux_lemma => kernel_rfl) (by as_aux_lemma => kernel_rfl) (by as_aux_lemma => kernel_rfl) (by as_aux_lemma => kernel_rfl) (fun _ _ _ h => h) (by first | exact Or.inl ⟨by rfl, (by intro W hSW; (try dsimp only at hSW); (try go_split_ands); go_simp <;> with_reducible rfl)⟩ | exact Or.inr ⟨by rfl, rfl⟩) hS0 ?_
              try simp only [Act.put, List.getElem_toArray, List.getElem_cons_succ, List.getElem_cons_zero, List.setIfInBounds_toArray, List.set_cons_zero, List.set_cons_succ]
              refine wpAnyU_take (i := 7) [8, 9, 10, 11, 12, 13, 14, 15, 16, 17, 18, 19, 20, 21, 22] rfl (by as_aux_lemma => kernel_rfl) (by as_aux_lemma => kernel_rfl) (by as_aux_lemma => kernel_rfl) (by as_aux_lemma => kernel_rfl) (by as_aux_lemma => kernel_rfl) (by as_aux_lemma => kernel_rfl) (fun _ _ _ h => h) (by first | exact Or.inl ⟨by rfl, (by intro W hSW; (try dsimp only at hSW); (try go_split_ands); go_simp <;> with_reducible rfl)⟩ | exact Or.inr ⟨by rfl, rfl⟩) hS0 ?_
              try simp only [Act.put, List.getElem_toArray, List.getElem_cons_succ, List.getElem_cons_zero, List.setIfInBounds_toArray, List.set_cons_zero, List.set_cons_succ]
              refine wpAnyU_take (i := 8) [9, 10, 11, 12, 13, 14, 15, 16, 17, 18, 19, 20, 21, 22] rfl (by as_aux_lemma => kernel_rfl) (by as_aux_lemma => kernel_rfl) (by as_aux_lemma => kernel_rfl) (by as_aux_lemma => kernel_rfl) (by as_aux_lemma => kernel_rfl) (by as_aux_lemma => kernel_rfl) (fun _ _ _ h => h) (by first | exact Or.inl ⟨by rfl, (by intro W hSW; (try dsimp only at hSW); (try go_split_ands); go_simp <;> with_reducible rfl)⟩ | exact Or.inr ⟨by rfl, rfl⟩) hS0 ?_
              try simp only [Act.put, List.getElem_toArray, List.getElem_cons_succ, List.getElem_cons_zero, List.setIfInBounds_toArray, List.set_cons_zero, List.set_cons_succ]
              refine wpAnyU_take (i := 9) [10, 11, 12, 13, 14, 15, 16, 17, 18, 19, 20, 21, 22] rfl (by as_aux_lemma => kernel_rfl) (by as_aux_lemma => kernel_rfl) (by as_aux_lemma => kernel_rfl) (by as_aux_lemma => kernel_rfl) (by as_aux_lemma => kernel_rfl) (by as_aux_lemma => kernel_rfl) (fun _ _ _ h => h) (by first | exact Or.inl ⟨by rfl, (by intro W hSW; (try dsimp only at hSW); (try go_split_ands); go_simp <;> with_reducible rfl)⟩ | exact Or.inr ⟨by rfl, rfl⟩) hS0 ?_
              try simp only [Act.put, List.getElem_toArray, List.getElem_cons_succ, List.getElem_cons_zero, List.setIfInBounds_toArray, List.set_cons_zero, List.set_cons_succ]
              refine wpAnyU_take (i := 10) [11, 12, 13, 14, 15, 16, 17, 18, 19, 20, 21, 22] rfl (by as_aux_lemma => kernel_rfl) (by as_aux_lemma => kernel_rfl) (by as_aux_lemma => kernel_rfl) (by as_aux_lemma => kernel_rfl) (by as_aux_lemma => kernel_rfl) (by as_aux_lemma => kernel_rfl) (fun _ _ _ h => h) (by first | exact Or.inl ⟨by rfl, (by intro W hSW; (try dsimp only at hSW); (try go_split_ands); go_simp <;> with_reducible rfl)⟩ | exact Or.inr ⟨by rfl, rfl⟩) hS0 ?_
              try simp only [Act.put, List.getElem_toArray, List.getElem_cons_succ, List.getElem_cons_zero, List.setIfInBounds_toArray, List.set_cons_zero, List.set_cons_succ]
              refine wpAnyU_take (i := 11) [12, 13, 14, 15, 16, 17, 18, 19, 20, 21, 22] rfl (by as_aux_lemma => kernel_rfl) (by as_aux_lemma => kernel_rfl) (by as_aux_lemma => kernel_rfl) (by as_aux_lemma => kernel_rfl) (by as_aux_lemma => kernel_rfl) (by as_aux_lemma => kernel_rfl) (fun _ _ _ h => h) (by first | exact Or.inl ⟨by rfl, (by intro W hSW; (try dsimp only at hSW); (try go_split_ands); go_simp <;> with_reducible rfl)⟩ | exact Or.inr ⟨by rfl, rfl⟩) hS0 ?_
              try simp only [Act.put, List.getElem_toArray, List.getElem_cons_succ, List.getElem_cons_zero, List.setIfInBounds_toArray, List.set_cons_zero, List.set_cons_succ]
              refine wpAnyU_take (i := 12) [13, 14, 15, 16, 17, 18, 19, 20, 21, 22] rfl (by as_aux_lemma => kernel_rfl) (by as_aux_lemma => kernel_rfl) (by as_aux_lemma => kernel_rfl) (by as_aux_lemma => kernel_rfl) (by as_aux_lemma => kernel_rfl) (by as_aux_lemma => kernel_rfl) (fun _ _ _ h => h) (Or.inl ⟨by rfl, (by intro W hSW; (try dsimp only at hSW); (try go_split_ands); go_simp <;> with_reducible rfl)⟩) hS0 ?_
              try simp only [Act.put, List.getElem_toArray, List.getElem_cons_succ, List.getElem_cons_zero, List.setIfInBounds_toArray, List.set_cons_zero, List.set_cons_succ]
              refine wpAnyU_take (i := 13) [14, 15, 16, 17, 18, 19, 20, 21, 22] rfl (by as_aux_lemma => kernel_rfl) (by as_aux_lemma => kernel_rfl) (by as_aux_lemma => kernel_rfl) (by as_aux_lemma => kernel_rfl) (by as_aux_lemma => kernel_rfl) (by as_aux_lemma => kernel_rfl) (fun _ _ _ h => h) (Or.inl ⟨by rfl, (by intro W hSW; (try dsimp only at hSW); (try go_split_ands); go_simp <;> with_reducible rfl)⟩) hS0 ?_
              try simp only [Act.put, List.getElem_toArray, List.getElem_cons_succ, List.getElem_cons_zero, List.setIfInBounds_toArray, List.set_cons_zero, List.set_cons_succ]
              refine wpAnyU_take (i := 14) [15, 17, 20, 21, 22] rfl (by as_aux_lemma => kernel_rfl) (by as_aux_lemma => kernel_rfl) (by as_aux_lemma => kernel_rfl) (by as_aux_lemma => kernel_rfl) (by as_aux_lemma => kernel_rfl) (by as_aux_lemma => kernel_rfl) (fun _ _ _ h => h) (by first | exact Or.inl ⟨by rfl, (by intro W hSW; (try dsimp only at hSW); (try go_split_ands); go_simp <;> with_reducible rfl)⟩ | exact Or.inr ⟨by rfl, rfl⟩) hS0 ?_
              try simp only [Act.put, List.getElem_toArray, List.getElem_cons_succ, List.getElem_cons_zero, List.setIfInBounds_toArray, List.set_cons_zero, List.set_cons_succ]
              refine wpAnyU_take (i := 15) [17, 20, 21, 22] rfl (by as_aux_lemma => kernel_rfl) (by as_aux_lemma => kernel_rfl) (by as_aux_lemma => kernel_rfl) (by as_aux_lemma => kernel_rfl) (by as_aux_lemma => kernel_rfl) (by as_aux_lemma => kernel_rfl) (fun _ _ _ h => h) (by first | exact Or.inl ⟨by rfl, (by intro W hSW; (try dsimp only at hSW); (try go_split_ands); go_simp <;> with_reducible rfl)⟩ | exact Or.inr ⟨by rfl, rfl⟩) hS0 ?_
              try simp only [Act.put, List.getElem_toArray, List.getElem_cons_succ, List.getElem_cons_zero, List.setIfInBounds_toArray, List.set_cons_zero, List.set_cons_succ]
              refine wpAnyU_take (i := 16) [17, 20, 21, 22] rfl (by as_aux_lemma => kernel_rfl) (by as_aux_lemma => kernel_rfl) (by as_aux_lemma => kernel_rfl) (by as_aux_lemma => kernel_rfl) (by as_aux_lemma => kernel_rfl) (by as_aux_lemma => kernel_rfl) (fun _ _ _ h => h) (by first | exact Or.inl ⟨by rfl, (by intro W hSW; (try dsimp only at hSW); (try go_split_ands); go_simp <;> with_reducible rfl)⟩ | exact Or.inr ⟨by rfl, rfl⟩) hS0 ?_
              try simp only [Act.put, List.getElem_toArray, List.getElem_cons_succ, List.getElem_cons_zero, List.setIfInBounds_toArray, List.set_cons_zero, List.set_cons_succ]
              refine wpAnyU_take (i := 18) [20, 21, 22] rfl (by as_aux_lemma => kernel_rfl) (by as_aux_lemma => kernel_rfl) (by as_aux_lemma => kernel_rfl) (by as_aux_lemma => kernel_rfl) (by as_aux_lemma => kernel_rfl) (by as_aux_lemma => kernel_rfl) (fun _ _ _ h => h) (yields_load_row (by rfl) _ _ rfl (w.heap.size + 1) rfl _ _ (0, 0) _ (fun W hS => hS.2.2.2.2.2) Tryz.underlying36 rfl HSZ.out) hS0 ?_
              try simp only [Act.put, List.getElem_toArray, List.getElem_cons_succ, List.getElem_cons_zero, List.setIfInBounds_toArray, List.set_cons_zero, List.set_cons_succ]
              refine wpAnyU_take (i := 19) [20, 21, 22] rfl (by as_aux_lemma => kernel_rfl) (by as_aux_lemma => kernel_rfl) (by as_aux_lemma => kernel_rfl) (by as_aux_lemma => kernel_rfl) (by as_aux_lemma => kernel_rfl) (by as_aux_lemma => kernel_rfl) (fun _ _ _ h => h) (by first | exact Or.inl ⟨by rfl, (by intro W hSW; (try dsimp only at hSW); (try go_split_ands); go_simp <;> with_reducible rfl)⟩ | exact Or.inr ⟨by rfl, rfl⟩) hS0 ?_
              try simp only [Act.put, List.getElem_toArray, List.getElem_cons_succ, List.getElem_cons_zero, List.setIfInBounds_toArray, List.set_cons_zero, List.set_cons_succ]
              refine wpAnyU_one (i := 17) (by kernel_rfl) rfl (fun K hK => ?_)
              go_simp
              go_at_call 29
              (with_reducible refine HPS.out.mono ?_)
              rintro e w6 ⟨rfl, hw6⟩
              subst hw6
              refine hK.out _ _ (fun _ => hS0) (fun _ => ?_)
              clear hK K
              try simp only [Act.put, List.getElem_toArray, List.getElem_cons_succ, List.getElem_cons_zero, List.setIfInBounds_toArray, List.set_cons_zero, List.set_cons_succ]
              refine wpAnyU_one (i := 20) (by kernel_rfl) rfl (fun K hK => ?_)
              go_simp
              go_at_call 40
              (with_reducible refine HRP.out.mono ?_)
              rintro e w7 ⟨rfl, hb7⟩
              have hb57 : Below w5.heap.size w5 w7 := (below_drewN (Below.refl _ _) 1).trans hb7
              have hS7 : (convert 41 9 (.slice (some ⟨g5, 0, none⟩) 512 512)).run Tryz.prog w7 = .ok (.string sp) w7 ∧ w7.cell? ⟨w.heap.size + 1, 3, none⟩ = some (.slice (some ⟨kg, koff, none⟩) km kc) ∧ w7.cell? ⟨kg, koff + j, none⟩ = some (.slice qa qn qc) ∧
                  (convert 41 9 (.slice qa qn qc)).run Tryz.prog w7 = .ok (.string sp) w7 ∧ w7.cell? ⟨w.heap.size, 2, none⟩ = some (.pointer (some ⟨Pb, 0, none⟩)) ∧ w7.heap[w.heap.size + 1]? = some (.cells csm 36 (0, 0)) := by
                obtain ⟨-, y2, y3, -, y5, y6⟩ := hS0
                exact ⟨HS.out.1 _ hb57, by rw [World.cell?_of_block (hb7.block _ (World.block_lt_of_cell? _ _ y2))]; exact y2, by rw [World.cell?_of_block (hb7.block _ (World.block_lt_of_cell? _ _ y3))]; exact y3, HS.out.2 _ hb7, by rw [World.cell?_of_block (hb7.block _ (World.block_lt_of_cell? _ _ y5))]; exact y5, (hb7.block _ (PBox.lt y6)).trans y6⟩
              clear hb7
              refine hK.out _ _ (fun _ => hS7) (fun _ => ?_)
              clear hK K
              try simp only [Act.put, List.getElem_toArray, List.getElem_cons_succ, List.getElem_cons_zero, List.setIfInBounds_toArray, List.set_cons_zero, List.set_cons_succ]
              refine wpAnyU_take (i := 21) [22] rfl (by as_aux_lemma => kernel_rfl) (by as_aux_lemma => kernel_rfl) (by as_aux_lemma => kernel_rfl) (by as_aux_lemma => kernel_rfl) (by as_aux_lemma => kernel_rfl) (by as_aux_lemma => kernel_rfl) (fun _ _ _ h => h) (by first | exact Or.inl ⟨by rfl, (by intro W hSW; (try dsimp only at hSW); (try go_split_ands); go_simp <;> with_reducible rfl)⟩ | exact Or.inr ⟨by rfl, rfl⟩) hS7 ?_
              try simp only [Act.put, List.getElem_toArray, List.getElem_cons_succ, List.getElem_cons_zero, List.setIfInBounds_toArray, List.set_cons_zero, List.set_cons_succ]
              refine wpAnyU_take (i := 22) [] rfl (by as_aux_lemma => kernel_rfl) (by as_aux_lemma => kernel_rfl) (by as_aux_lemma => kernel_rfl) (by as_aux_lemma => kernel_rfl) (by as_aux_lemma => kernel_rfl) (by as_aux_lemma => kernel_rfl) (fun _ _ _ h => h) (Or.inl ⟨by rfl, (by intro W hSW; (try dsimp only at hSW); (try go_split_ands); go_simp <;> with_reducible rfl)⟩) hS7 ?_
              try simp only [Act.put, List.getElem_toArray, List.getElem_cons_succ, List.getElem_cons_zero, List.setIfInBounds_toArray, List.set_cons_zero, List.set_cons_succ]
              refine wpAnyU_done (by kernel_rfl) ?_ _
              have HB7 := Lib.hid (HB5.out.trans (hb57.mono HB5.out.size))
              clear hb57 hS0 hS7 HS HPS HRP HB5
              go_wp2
              go_roundw
              case rel => exact ⟨j + 1, by have := HQ.out.2.1; omega, by go_num, HQ.out.1.trans (HB7.out.mono HQ.out.1.size)⟩
              case measure => have := HQ.out.2.1; simp [RowKit.intOf]; omega
            · subst heq
              have HFIN := Lib.hid hbw
              clear h hi hW efv edv ekv hfm hdm hkm hvf hvd hkn hfod hBu hq b0 b1 b2 kMq hbw hbr hj
              go_wp2
              (try go_ret)
              exact ⟨rfl, HFIN.out⟩
end
end Mun
end
