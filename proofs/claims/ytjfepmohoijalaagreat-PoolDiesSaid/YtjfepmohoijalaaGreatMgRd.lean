/- Texts of mine, one behind the other: RpN, RpO. -/
import Derived.Test.YtjfepmohoijalaaGreatMgRc
section
/- Pin of chapter 8's own pool: a page that is held. -/
set_option maxRecDepth 100000
set_option linter.unusedVariables false
set_option linter.unusedSimpArgs false
namespace Mun
open Go Go.RowKit
open Go.Proofs

section
variable {F : Foot} {w : World} {p : RP} {x : RPV}

/-- what Pin tells -/
def PinR (F : Foot) (w : World) (p' : RP) (b : Bytes) (c : Int) (e : Ending) (w' : World) : Prop :=
  ∃ x' sv, e = .returned (.tuple #[.agg (rpcells p' x'), sv, .int .i64 c]) ∧ RAt F w' p' x' ∧ Below w.heap.size w w' ∧ RdB F w' sv b

set_option maxHeartbeats 8000000 in
theorem rp_pin_held (h : RAt F w p x) (hok : p.Ok) (hF : ∀ k, F k → k < w.heap.size) (hpins : ∀ f ∈ p.fr, f.pins ≤ 8796093022208) (n : Nat) (hn : n < p.dk.length) {i : Nat} {g : RF} (hi : p.find (n : Int) = some i) (hg : p.fr[i]? = some g) :
    Calls Tryz.prog 33 #[.agg (rpcells p x), .int .i64 n] w (PinR F w { p with fr := p.fr.set i g.pin } g.b 0) := by
  obtain ⟨w1, hw1, hb1, k0, k1, s1⟩ := rp_boxes w (rpcells p x) rfl
  have h1 := h.below hb1
  obtain ⟨cs, hcs⟩ : ∃ cs, rpcells p x = cs := ⟨_, rfl⟩
  have HI6 : Hid ((Tryz.prog.info? 36).map (·.size) = some cs.size) := by rw [← hcs]; exact info6
  have hcp : Calls Tryz.prog 74 #[.agg cs] w1 (CpPost (inF F w w1.heap.size) w1 p x) := by rw [← hcs]; exact rp_copied (h.inF hb1 _) hok.sm (inF_lt hF hb1)
  obtain ⟨ka, kc, ekv, -, -⟩ := h1.ks.form
  obtain ⟨kn, hkn⟩ : ∃ kn, x.ks.length = kn := ⟨_, rfl⟩
  rw [hkn] at ekv
  have hkd : kn = p.dk.length := by rw [← hkn, ← h.kps, List.length_map]
  have q3 : w1.cell? ⟨w.heap.size, 3, none⟩ = some (.slice ka kn kc) := k0.cell 3 (by simp [rpcells, ekv])
  have hn0 : ¬ (n : Int) < 0 := by omega
  have hn1 : (0 : Int) ≤ (n : Int) := by omega
  have hnk : (n : Int) < (kn : Int) := by omega
  rw [hcs] at hw1 k0 ⊢
  obtain ⟨post, hpost⟩ : ∃ post : Ending → World → Prop, post = PinR F w { p with fr := p.fr.set i g.pin } g.b 0 := ⟨_, rfl⟩
  rw [← hpost]
  have HCP := Lib.hid hcp
  have HK0 := Lib.hid k0
  have HX := Lib.hid (And.intro h (And.intro hok (And.intro hF (And.intro hb1 (And.intro k1 (And.intro hcs (And.intro hpost (And.intro hi (And.intro hg hpins)))))))))
  clear h hok hF hb1 k0 k1 s1 h1 hcs hpost hcp ekv hkn hkd hi hg hpins hn
  unfold Z6 at hw1
  go_enter Tryz.func33, Tryz.ntmps33
  go_wp2_with (first | rw [hw1] | (refine wpList_load_row rfl _ _ rfl w.heap.size rfl _ _ (0, 0) _ HK0.out Tryz.underlying36 rfl HI6.out ?_))
  refine HCP.out.mono ?_
  rintro e w2 ⟨x1, rfl, hx1f, hx1k, ho2, hb2⟩
  obtain ⟨h, hok, hF, hb1, k1, hcs, hpost, hi, hg, hpins⟩ := HX.out
  obtain ⟨w3, hw3⟩ : ∃ w3, w2.setRow w.heap.size (rpcells p x1) = w3 := ⟨_, rfl⟩
  have h3 : RW F w w1.heap.size w3 p x1 := RW.start h hF hb1 (show PBox w1 w.heap.size (rpcells p x) by rw [hcs]; exact HK0.out) k1 ho2 hb2 hw3
  have hon1 := ho2.one
  have kb2 : PBox w2 w.heap.size cs := PBox.below HK0.out hb2 (PBox.lt HK0.out)
  have hfi := rp_find h3.rat hok.sm.fr (n : Int)
  have kb3 := h3.box
  have HSZ1 : Hid ((Tryz.prog.info? 36).map (·.size) = some (rpcells p x1).size) := rp_size p x1
  obtain ⟨cs1, hcs1⟩ : ∃ cs1, rpcells p x1 = cs1 := ⟨_, rfl⟩
  rw [hcs1] at hw3 hon1 HSZ1 hfi kb3 ⊢
  obtain ⟨B, hBd⟩ : ∃ B, w1.heap.size = B := ⟨_, rfl⟩
  rw [hBd] at h3
  have HKB2 := Lib.hid kb2
  have HON1 := Lib.hid hon1
  have HFI := Lib.hid hfi
  have HKB3 := Lib.hid kb3
  have H3 := Lib.hid (And.intro h3 (And.intro hcs1 hx1f))
  clear h hok hF hb1 k1 hcs hpost hi hg hpins ho2 hb2 h3 hon1 kb2 hfi kb3 hcs1 hx1f hx1k HCP hBd hw1 q3
  go_wp2_with (first | (refine wpList_store_row rfl _ _ _ rfl w.heap.size _ rfl rfl _ _ HKB2.out HSZ1.out (by have h1 := HI6.out; have h2 := HSZ1.out; rw [info6] at h1 h2; injection h1 with h1; injection h2 with h2; omega) HON1.out ?_; rw [hw3]) | (refine wpList_load_row rfl _ _ rfl w.heap.size rfl _ _ (0, 0) _ HKB3.out Tryz.underlying36 rfl HSZ1.out ?_))
  refine HFI.out.mono ?_
  rintro e w4 ⟨rfl, hb4⟩
  obtain ⟨h3, hcs1, hx1f⟩ := H3.out
  obtain ⟨h, hok, hF, hb1, k1, hcs, hpost, hi, hg, hpins⟩ := HX.out
  have h4 := h3.below hb4
  rw [hi]
  simp only [idxV]
  obtain ⟨fv, hfv, hfv1⟩ := h4.rat.at_ (List.getElem?_eq_some_iff.1 hg).1
  rw [hg] at hfv1
  injection hfv1 with hfv1
  obtain ⟨fg, fc, efv, hfg, hfcl, hfz⟩ := h4.own.fcell hfv
  obtain ⟨m, hm⟩ : ∃ m, x1.fs.length = m := ⟨_, rfl⟩
  have him : (i : Int) < (m : Int) := by have := (List.getElem?_eq_some_iff.1 hfv).1; omega
  have hi0 : (0 : Int) ≤ (i : Int) := by omega
  have a40 : w4.cell? ⟨w.heap.size, 0, none⟩ = some (.slice (some ⟨fg, 0, none⟩) m fc) := h4.box.cell 0 (by simp [rpcells, efv, hm])
  obtain ⟨tb, htb⟩ : ∃ tb, fv.1.touch = tb := ⟨_, rfl⟩
  have a42 : w4.cell? ⟨fg, i * 6 + 2, none⟩ = some (.bool tb) := hfcl 2 _ (by decide) (by rw [← htb]; rfl)
  have z42 := hfz (i * 6 + 2)
  obtain ⟨w5, hw5⟩ : ∃ w5, w4.setCell ⟨fg, i * 6 + 2, none⟩ (.bool true) = w5 := ⟨_, rfl⟩
  obtain ⟨f5, hf5⟩ : ∃ f5 : RFV, f5 = ({ fv.1 with touch := true }, fv.2) := ⟨_, rfl⟩
  have hfb4 := h4.own.fb fv (List.mem_of_getElem? hfv)
  have h5 := h4.setF (i := i) (k := 2) (f := fv) (f' := f5) (u := .bool true) hfv (by decide) (by rw [hf5]; rfl) (by rw [hf5]; exact hfb4) efv
  rw [hw5] at h5
  have hilt := (List.getElem?_eq_some_iff.1 hfv).1
  have hf5x : ({ x1 with fs := x1.fs.set i f5 } : RPV).fs[i]? = some f5 := by simp [hilt]
  have efv5 : ({ x1 with fs := x1.fs.set i f5 } : RPV).fv = .slice (some ⟨fg, 0, none⟩) ({ x1 with fs := x1.fs.set i f5 } : RPV).fs.length fc := by
    show x1.fv = _
    rw [efv]; simp
  obtain ⟨pn, hpn⟩ : ∃ pn, fv.1.pins = pn := ⟨_, rfl⟩
  have hpb : (pn : Int) ≤ 8796093022208 := by
    have h9 := hpins g (List.mem_of_getElem? hg)
    rw [hfv1, hpn] at h9
    omega
  have hp0 : (0 : Int) ≤ (pn : Int) := by omega
  obtain ⟨g5, c5', e5', -, hcl5, hzz5⟩ := h5.own.fcell hf5x
  have eg5 : g5 = fg := by rw [efv5] at e5'; injection e5' with e5'; injection e5' with e5'; injection e5' with e5'; exact e5'.symm
  rw [eg5] at hcl5 hzz5
  have a50 : w5.cell? ⟨w.heap.size, 0, none⟩ = some (.slice (some ⟨fg, 0, none⟩) m fc) := h5.box.cell 0 (by simp [rpcells, efv, hm])
  have a51 : w5.cell? ⟨fg, i * 6 + 1, none⟩ = some (.int .i64 (pn : Int)) := hcl5 1 _ (by decide) (by rw [hf5, ← hpn]; rfl)
  have z51 := hzz5 (i * 6 + 1)
  obtain ⟨w6, hw6⟩ : ∃ w6, w5.setCell ⟨fg, i * 6 + 1, none⟩ (.int .i64 ((pn : Int) + 1)) = w6 := ⟨_, rfl⟩
  obtain ⟨f6, hf6⟩ : ∃ f6 : RFV, f6 = ({ f5.1 with pins := pn + 1 }, f5.2) := ⟨_, rfl⟩
  have h6 := h5.setF (i := i) (k := 1) (f := f5) (f' := f6) (u := .int .i64 ((pn : Int) + 1)) hf5x (by decide) (by rw [hf6]; rfl) (by rw [hf6]; exact h5.own.fb f5 (List.mem_of_getElem? hf5x)) efv5
  rw [hw6] at h6
  simp only [List.set_set] at h6
  have e6 : f6.1 = g.pin := by rw [hf6, hf5, hfv1]; show _ = ({ fv.1 with touch := true, pins := fv.1.pins + 1 } : RF); rw [hpn]
  obtain ⟨P, hP⟩ : ∃ P : RP, { p with fr := p.fr.set i f6.1 } = P := ⟨_, rfl⟩
  obtain ⟨x6, hx6⟩ : ∃ x6 : RPV, { x1 with fs := x1.fs.set i f6 } = x6 := ⟨_, rfl⟩
  rw [hP, hx6] at h6
  have h6d : RW F w B w6.drew P x6 := h6.below (below_drewN (Below.refl _ _) 1)
  have hf6x : x6.fs[i]? = some f6 := by rw [← hx6]; simp [hilt]
  have hb512 : f6.1.b.length = 512 := by
    have h9 := hok.fb g (List.mem_of_getElem? hg) (by
      obtain ⟨hl9, hq, -⟩ := List.findIdx?_eq_some_iff_getElem.1 hi
      have e := (List.getElem?_eq_some_iff.1 hg).2
      rw [e] at hq
      have : g.pg = (n : Int) := by simpa using hq
      omega)
    rw [e6]
    exact h9.2
  have hbv := h6d.own.fb f6 (List.mem_of_getElem? hf6x)
  obtain ⟨ba, bc, ebv, -, -⟩ := hbv.form
  rw [hb512] at ebv
  have hcy := r5copy w6.drew f6.2 f6.1.b hbv hb512
  rw [ebv] at hcy
  obtain ⟨g6, c6', e6', hfg6, hcl6, -⟩ := h6d.own.fcell hf6x
  have eg6 : g6 = fg := by
    rw [← hx6] at e6'
    simp only at e6'
    rw [efv] at e6'; injection e6' with e6'; injection e6' with e6'; injection e6' with e6'; exact e6'.symm
  rw [eg6] at hcl6 hfg6
  have hx6f : x6.fv = .slice (some ⟨fg, 0, none⟩) m fc := by rw [← hx6, ← hm]; exact efv
  have hbx6 := h6d.box
  have hrs6 := h6d.res
  have hsz6 := rp_size P x6
  have hon6 := h6d.own.one
  obtain ⟨csq, hcsq⟩ : ∃ csq, rpcells P x6 = csq := ⟨_, rfl⟩
  rw [hcsq] at hbx6 hsz6 hon6
  have hS0 : w6.drew.cell? ⟨w.heap.size, 0, none⟩ = some (.slice (some ⟨fg, 0, none⟩) m fc) ∧ w6.drew.cell? ⟨fg, i * 6 + 3, none⟩ = some (.slice ba 512 bc) ∧ w6.drew.heap[w.heap.size]? = some (.cells csq 36 (0, 0)) :=
    ⟨h6d.box.cell 0 (by simp [rpcells, hx6f]), hcl6 3 _ (by decide) (by rw [← ebv]; rfl), hbx6⟩
  have hne : fg ≠ w.heap.size + 1 := by have := h6d.hB; omega
  have HCY := Lib.hid hcy
  have HSZ := Lib.hid hsz6
  have HON := Lib.hid hon6
  have HRS := Lib.hid hrs6
  have H6 := Lib.hid (And.intro h6d (And.intro hP (And.intro hcsq (And.intro e6 (And.intro hb512 (And.intro hpost hF))))))
  clear h hok hF hb1 k1 hcs hpost hi hg hpins h3 hcs1 hx1f hb4 h4 hfv hfv1 efv hfg hfcl hfz hm htb hf5 hfb4 h5 hilt hf5x efv5 hpn g5 c5' e5' hcl5 hzz5 eg5 hf6 h6 e6 hP hx6 h6d hf6x hb512 hbv ebv hcy g6 c6' e6' hfg6 hcl6 eg6 hx6f hbx6 hrs6 hsz6 hon6 hcsq HX H3 HFI HKB3 HKB2 HON1
  go_upto_region 8 with (fail)
  refine wp_region_U (fun W => W.cell? ⟨w.heap.size, 0, none⟩ = some (.slice (some ⟨fg, 0, none⟩) m fc) ∧ W.cell? ⟨fg, i * 6 + 3, none⟩ = some (.slice ba 512 bc) ∧ W.heap[w.heap.size]? = some (.cells csq 36 (0, 0))) [] (by kernel_rfl) ?_
  refine wpAnyU_take (i := 0) [8, 9, 10] rfl (by as_aux_lemma => kernel_rfl) (by as_aux_lemma => kernel_rfl) (by as_aux_lemma => kernel_rfl) (by as_aux_lemma => kernel_rfl) (by as_aux_lemma => kernel_rfl) (by as_aux_lemma => kernel_rfl) (fun _ _ _ h => h) (yields_load_row (by rfl) _ _ rfl w.heap.size rfl _ _ (0, 0) _ (fun W hS => hS.2.2) Tryz.underlying36 rfl HSZ.out) hS0 ?_
  try simp only [Act.put, List.getElem_toArray, List.getElem_cons_succ, List.getElem_cons_zero, List.setIfInBounds_toArray, List.set_cons_zero, List.set_cons_succ]
  refine wpAnyU_take (i := 1) [2, 4, 5, 6, 7, 8, 9, 10] rfl (by as_aux_lemma => kernel_rfl) (by as_aux_lemma => kernel_rfl) (by as_aux_lemma => kernel_rfl) (by as_aux_lemma => kernel_rfl) (by as_aux_lemma => kernel_rfl) (by as_aux_lemma => kernel_rfl) (fun _ _ _ h => h) (Or.inl ⟨by rfl, (by intro W hSW; (try dsimp only at hSW); (try go_split_ands); go_simp <;> with_reducible rfl)⟩) hS0 ?_
  try simp only [Act.put, List.getElem_toArray, List.getElem_cons_succ, List.getElem_cons_zero, List.setIfInBounds_toArray, List.set_cons_zero, List.set_cons_succ]
  refine wpAnyU_take (i := 2) [4, 5, 6, 7, 8, 9, 10] rfl (by as_aux_lemma => kernel_rfl) (by as_aux_lemma => kernel_rfl) (by as_aux_lemma => kernel_rfl) (by as_aux_lemma => kernel_rfl) (by as_aux_lemma => kernel_rfl) (by as_aux_lemma => kernel_rfl) (fun _ _ _ h => h) (Or.inl ⟨by rfl, (by intro W hSW; (try dsimp only at hSW); (try go_split_ands); go_simp <;> with_reducible rfl)⟩) hS0 ?_
  try simp only [Act.put, List.getElem_toArray, List.getElem_cons_succ, List.getElem_cons_zero, List.setIfInBounds_toArray, List.set_cons_zero, List.set_cons_succ]
  refine wpAnyU_take (i := 3) [4, 5, 6, 7, 8, 9, 10] rfl (by as_aux_lemma => kernel_rfl) (by as_aux_lemma => kernel_rfl) (by as_aux_lemma => kernel_rfl) (by as_aux_lemma => kernel_rfl) (by as_aux_lemma => kernel_rfl) (by as_aux_lemma => kernel_rfl) (fun _ _ _ h => h) (Or.inl ⟨by rfl, (by intro W hSW; (try dsimp only at hSW); (try go_split_ands); go_simp <;> with_reducible rfl)⟩) hS0 ?_
  try simp only [Act.put, List.getElem_toArray, List.getElem_cons_succ, List.getElem_cons_zero, List.setIfInBounds_toArray, List.set_cons_zero, List.set_cons_succ]
  refine wpAnyU_take (i := 4) [5, 6, 7, 8, 9, 10] rfl (by as_aux_lemma => kernel_rfl) (by as_aux_lemma => kernel_rfl) (by as_aux_lemma => kernel_rfl) (by as_aux_lemma => kernel_rfl) (by as_aux_lemma => kernel_rfl) (by as_aux_lemma => kernel_rfl) (fun _ _ _ h => h) (Or.inl ⟨by rfl, (by intro W hSW; (try dsimp only at hSW); (try go_split_ands); go_simp <;> with_reducible rfl)⟩) hS0 ?_
  try simp only [Act.put, List.getElem_toArray, List.getElem_cons_succ, List.getElem_cons_zero, List.setIfInBounds_toArray, List.set_cons_zero, List.set_cons_succ]
  refine wpAnyU_take (i := 5) [6, 7, 8, 9, 10] rfl (by as_aux_lemma => kernel_rfl) (by as_aux_lemma => kernel_rfl) (by as_aux_lemma => kernel_rfl) (by as_aux_lemma => kernel_rfl) (by as_aux_lemma => kernel_rfl) (by as_aux_lemma => kernel_rfl) (fun _ _ _ h => h) (Or.inl ⟨by rfl, (by intro W hSW; (try dsimp only at hSW); (try go_split_ands); go_simp <;> with_reducible rfl)⟩) hS0 ?_
  try simp only [Act.put, List.getElem_toArray, List.getElem_cons_succ, List.getElem_cons_zero, List.setIfInBounds_toArray, List.set_cons_zero, List.set_cons_succ]
  refine wpAnyU_take (i := 6) [7, 8, 9, 10] rfl (by as_aux_lemma => kernel_rfl) (by as_aux_lemma => kernel_rfl) (by as_aux_lemma => kernel_rfl) (by as_aux_lemma => kernel_rfl) (by as_aux_lemma => kernel_rfl) (by as_aux_lemma => kernel_rfl) (fun _ _ _ h => h) (Or.inl ⟨by rfl, (by intro W hSW; (try dsimp only at hSW); (try go_split_ands); go_simp <;> with_reducible rfl)⟩) hS0 ?_
  try simp only [Act.put, List.getElem_toArray, List.getElem_cons_succ, List.getElem_cons_zero, List.setIfInBounds_toArray, List.set_cons_zero, List.set_cons_succ]
  refine wpAnyU_one (i := 7) (by kernel_rfl) rfl (fun K hK => ?_)
  go_simp
  go_at_call 60
  (with_reducible refine HCY.out.mono ?_)
  rintro e w7 ⟨bg, bcap, rfl, hpw, hb7⟩
  have hS1 : w7.cell? ⟨w.heap.size, 0, none⟩ = some (.slice (some ⟨fg, 0, none⟩) m fc) ∧ w7.cell? ⟨fg, i * 6 + 3, none⟩ = some (.slice ba 512 bc) ∧ w7.heap[w.heap.size]? = some (.cells csq 36 (0, 0)) := by
    obtain ⟨y1, y2, y3⟩ := hS0
    exact ⟨by rw [World.cell?_of_block (hb7.block _ (World.block_lt_of_cell? _ _ y1))]; exact y1, by rw [World.cell?_of_block (hb7.block _ (World.block_lt_of_cell? _ _ y2))]; exact y2, (hb7.block _ (PBox.lt y3)).trans y3⟩
  obtain ⟨w8, hw8⟩ : ∃ w8, w7.setRow (w.heap.size + 1) csq = w8 := ⟨_, rfl⟩
  have hS2 : w8.cell? ⟨w.heap.size, 0, none⟩ = some (.slice (some ⟨fg, 0, none⟩) m fc) ∧ w8.cell? ⟨fg, i * 6 + 3, none⟩ = some (.slice ba 512 bc) ∧ w8.heap[w.heap.size]? = some (.cells csq 36 (0, 0)) := by
    obtain ⟨y1, y2, y3⟩ := hS1
    rw [← hw8]
    exact ⟨by rw [World.cell?_of_block (setRow_ne _ _ _ _ (by simp only; omega))]; exact y1, by rw [World.cell?_of_block (setRow_ne _ _ _ _ hne)]; exact y2, (setRow_ne _ _ _ _ (by omega)).trans y3⟩
  have HK7 : Hid (PBox w7 (w.heap.size + 1) Z6) := PBox.below HRS.out hb7 (PBox.lt HRS.out)
  have HFIN : Hid (PBox w8 (w.heap.size + 1) csq ∧ post (.returned (.tuple #[.agg csq, .slice (some ⟨bg, 0, none⟩) 512 bcap, .int .i64 0])) w8) := by
    obtain ⟨h6d, hP, hcsq, e6, hb512, hpost, hF⟩ := H6.out
    have h7 := h6d.below hb7
    obtain ⟨w8', e8, k8, ho8, hb8⟩ := h7.ret
    rw [hcsq] at e8 k8
    rw [hw8] at e8
    subst e8
    refine ⟨k8, ?_⟩
    rw [hpost]
    rw [e6] at hP
    refine ⟨x6, _, by rw [hP, hcsq], by rw [hP]; exact ho8.rat (fun _ h => h), hb8, ?_⟩
    have hbg := hpw.lt
    have hsz := h6d.bl.size
    have hr := hpw.rd (F := fun k => F k ∨ k = w.heap.size + 1) (fun h9 => by
      have h1 := (PBox.lt HRS.out)
      rcases h9 with h9 | h9
      · have := hF _ h9; omega
      · omega)
    show RdB F w8 _ g.pin.b
    rw [← e6]
    exact RdV.keep hr (fun k hk hn => by rw [← hw8]; exact setRow_ne _ _ _ _ (fun e => hn (.inr e))) (fun _ _ h => .inl h)
  clear hpw hb7
  refine hK.out _ _ (fun _ => hS1) (fun _ => ?_)
  clear hK K
  try simp only [Act.put, List.getElem_toArray, List.getElem_cons_succ, List.getElem_cons_zero, List.setIfInBounds_toArray, List.set_cons_zero, List.set_cons_succ]
  refine wpAnyU_one (i := 8) (by kernel_rfl) rfl (fun K hK => ?_)
  refine step_store_is rfl _ _ _ rfl (w.heap.size + 1) csq (by rfl) (by rfl) _ _ HK7.out HSZ.out (by have := HSZ.out; rw [info6] at this; injection this) HON.out ?_
  rw [hw8]
  refine hK.out _ _ (fun _ => hS2) (fun _ => ?_)
  clear hK K
  try simp only [Act.put, List.getElem_toArray, List.getElem_cons_succ, List.getElem_cons_zero, List.setIfInBounds_toArray, List.set_cons_zero, List.set_cons_succ]
  refine wpAnyU_take (i := 9) [10] rfl (by as_aux_lemma => kernel_rfl) (by as_aux_lemma => kernel_rfl) (by as_aux_lemma => kernel_rfl) (by as_aux_lemma => kernel_rfl) (by as_aux_lemma => kernel_rfl) (by as_aux_lemma => kernel_rfl) (fun _ _ _ h => h) (Or.inl ⟨by rfl, (by intro W hSW; (try dsimp only at hSW); (try go_split_ands); go_simp <;> with_reducible rfl)⟩) hS2 ?_
  try simp only [Act.put, List.getElem_toArray, List.getElem_cons_succ, List.getElem_cons_zero, List.setIfInBounds_toArray, List.set_cons_zero, List.set_cons_succ]
  refine wpAnyU_take (i := 10) [] rfl (by as_aux_lemma => kernel_rfl) (by as_aux_lemma => kernel_rfl) (by as_aux_lemma => kernel_rfl) (by as_aux_lemma => kernel_rfl) (by as_aux_lemma => kernel_rfl) (by as_aux_lemma => kernel_rfl) (fun _ _ _ h => h) (Or.inl ⟨by rfl, (by intro W hSW; (try dsimp only at hSW); (try go_split_ands); go_simp <;> with_reducible rfl)⟩) hS2 ?_
  try simp only [Act.put, List.getElem_toArray, List.getElem_cons_succ, List.getElem_cons_zero, List.setIfInBounds_toArray, List.set_cons_zero, List.set_cons_succ]
  refine wpAnyU_done (by kernel_rfl) ?_ _
  clear hS0 hS1 hS2 H6 HCY
  go_wp2_with fail
  exact bodyPost_ret (v := .tuple #[.agg csq, .slice (some ⟨bg, 0, none⟩) 512 bcap, .int .i64 0]) (by simp [results, Tryz.results33, asAddr, Act.put, run_loadVar_row w8 (w.heap.size + 1) 36 36 _ (0, 0) _ HFIN.out.1 Tryz.underlying36 rfl HSZ.out]) rfl HFIN.out.2
end
end Mun
end

section
/- Pin of chapter 8's own pool: all frames are pinned. -/
set_option maxRecDepth 100000
set_option linter.unusedVariables false
set_option linter.unusedSimpArgs false
namespace Mun
open Go Go.RowKit
open Go.Proofs

section
variable {F : Foot} {w : World} {p : RP} {x : RPV}

set_option maxHeartbeats 8000000 in
theorem rp_pin_full (h : RAt F w p x) (hok : p.Ok) (hF : ∀ k, F k → k < w.heap.size) (n : Nat) (hn : n < p.dk.length) (hi : p.find (n : Int) = none) (hj : p.find (-1) = none) (hall : ∀ g ∈ p.fr, 0 < g.pins) :
    Calls Tryz.prog 33 #[.agg (rpcells p x), .int .i64 n] w (PinR F w p [] 7) := by
  obtain ⟨w1, hw1, hb1, k0, k1, s1⟩ := rp_boxes w (rpcells p x) rfl
  have h1 := h.below hb1
  obtain ⟨cs, hcs⟩ : ∃ cs, rpcells p x = cs := ⟨_, rfl⟩
  have HI6 : Hid ((Tryz.prog.info? 36).map (·.size) = some cs.size) := by rw [← hcs]; exact info6
  have hcp : Calls Tryz.prog 74 #[.agg cs] w1 (CpPost (inF F w w1.heap.size) w1 p x) := by rw [← hcs]; exact rp_copied (h.inF hb1 _) hok.sm (inF_lt hF hb1)
  obtain ⟨ka, kc, ekv, -, -⟩ := h1.ks.form
  obtain ⟨kn, hkn⟩ : ∃ kn, x.ks.length = kn := ⟨_, rfl⟩
  rw [hkn] at ekv
  have hkd : kn = p.dk.length := by rw [← hkn, ← h.kps, List.length_map]
  have q3 : w1.cell? ⟨w.heap.size, 3, none⟩ = some (.slice ka kn kc) := k0.cell 3 (by simp [rpcells, ekv])
  have hn0 : ¬ (n : Int) < 0 := by omega
  have hn1 : (0 : Int) ≤ (n : Int) := by omega
  have hnk : (n : Int) < (kn : Int) := by omega
  rw [hcs] at hw1 k0 ⊢
  obtain ⟨post, hpost⟩ : ∃ post : Ending → World → Prop, post = PinR F w p [] 7 := ⟨_, rfl⟩
  rw [← hpost]
  have HCP := Lib.hid hcp
  have HK0 := Lib.hid k0
  have HX := Lib.hid (And.intro h (And.intro hok (And.intro hF (And.intro hb1 (And.intro k1 (And.intro hcs (And.intro hpost (And.intro hi (And.intro hj hall)))))))))
  clear h hok hF hb1 k0 k1 s1 h1 hcs hpost hcp ekv hkn hkd hi hj hall hn
  unfold Z6 at hw1
  go_enter Tryz.func33, Tryz.ntmps33
  go_wp2_with (first | rw [hw1] | (refine wpList_load_row rfl _ _ rfl w.heap.size rfl _ _ (0, 0) _ HK0.out Tryz.underlying36 rfl HI6.out ?_))
  refine HCP.out.mono ?_
  rintro e w2 ⟨x1, rfl, hx1f, hx1k, ho2, hb2⟩
  obtain ⟨h, hok, hF, hb1, k1, hcs, hpost, hi, hj, hall⟩ := HX.out
  obtain ⟨w3, hw3⟩ : ∃ w3, w2.setRow w.heap.size (rpcells p x1) = w3 := ⟨_, rfl⟩
  have h3 : RW F w w1.heap.size w3 p x1 := RW.start h hF hb1 (show PBox w1 w.heap.size (rpcells p x) by rw [hcs]; exact HK0.out) k1 ho2 hb2 hw3
  have hon1 := ho2.one
  have kb2 : PBox w2 w.heap.size cs := PBox.below HK0.out hb2 (PBox.lt HK0.out)
  have hfi := rp_find h3.rat hok.sm.fr (n : Int)
  have kb3 := h3.box
  have HSZ1 : Hid ((Tryz.prog.info? 36).map (·.size) = some (rpcells p x1).size) := rp_size p x1
  obtain ⟨cs1, hcs1⟩ : ∃ cs1, rpcells p x1 = cs1 := ⟨_, rfl⟩
  rw [hcs1] at hw3 hon1 HSZ1 hfi kb3 ⊢
  obtain ⟨B, hBd⟩ : ∃ B, w1.heap.size = B := ⟨_, rfl⟩
  rw [hBd] at h3
  have HKB2 := Lib.hid kb2
  have HON1 := Lib.hid hon1
  have HFI := Lib.hid hfi
  have HKB3 := Lib.hid kb3
  have H3 := Lib.hid (And.intro h3 (And.intro hcs1 hx1f))
  clear h hok hF hb1 k1 hcs hpost hi hj hall ho2 hb2 h3 hon1 kb2 hfi kb3 hcs1 hx1f hx1k HCP hBd hw1 q3
  go_wp2_with (first | (refine wpList_store_row rfl _ _ _ rfl w.heap.size _ rfl rfl _ _ HKB2.out HSZ1.out (by have h1 := HI6.out; have h2 := HSZ1.out; rw [info6] at h1 h2; injection h1 with h1; injection h2 with h2; omega) HON1.out ?_; rw [hw3]) | (refine wpList_load_row rfl _ _ rfl w.heap.size rfl _ _ (0, 0) _ HKB3.out Tryz.underlying36 rfl HSZ1.out ?_))
  refine HFI.out.mono ?_
  rintro e w4 ⟨rfl, hb4⟩
  obtain ⟨h3, hcs1, hx1f⟩ := H3.out
  obtain ⟨h, hok, hF, hb1, k1, hcs, hpost, hi, hj, hall⟩ := HX.out
  have h4 := h3.below hb4
  rw [hi]
  simp only [idxV]
  have hfj := rp_find h4.rat hok.sm.fr (-1)
  have kb4 := h4.box
  rw [hcs1] at hfj kb4
  have HFJ := Lib.hid hfj
  have HKB4 := Lib.hid kb4
  have H4 := Lib.hid (And.intro h4 (And.intro hcs1 hx1f))
  clear h hok hF hb1 k1 hcs hpost hi hj hall h3 hb4 h4 hcs1 hx1f hfj kb4 H3 HKB3 HKB2 HON1 HFI
  go_wp2_with (first | (refine wpList_load_row rfl _ _ rfl w.heap.size rfl _ _ (0, 0) _ HKB4.out Tryz.underlying36 rfl HSZ1.out ?_))
  refine HFJ.out.mono ?_
  rintro e w5 ⟨rfl, hb5⟩
  obtain ⟨h4, hcs1, hx1f⟩ := H4.out
  obtain ⟨h, hok, hF, hb1, k1, hcs, hpost, hi, hj, hall⟩ := HX.out
  rw [hj]
  simp only [idxV]
  have h5 := h4.below hb5
  obtain ⟨fa, fc, efv, -, -⟩ := h5.rat.fs.form
  obtain ⟨m, hm⟩ : ∃ m, x1.fs.length = m := ⟨_, rfl⟩
  rw [hm] at efv
  have a0 : w5.cell? ⟨w.heap.size, 0, none⟩ = some (.slice fa m fc) := h5.box.cell 0 (by simp [rpcells, efv])
  have hm4 : (m : Int) ≤ 1024 := by have := hok.sm.fr; have := h5.len.1; omega
  have hm0 : (0 : Int) ≤ (m : Int) := by omega
  have hbx5 := h5.box
  have hon5 := h5.own.one
  have hrs5 := h5.res
  rw [hcs1] at hbx5 hon5
  have HBX := Lib.hid hbx5
  have HON := Lib.hid hon5
  have HRS := Lib.hid hrs5
  obtain ⟨w6, hw6⟩ : ∃ w6, w5.setRow (w.heap.size + 1) cs1 = w6 := ⟨_, rfl⟩
  have HFIN : Hid (PBox w6 (w.heap.size + 1) cs1 ∧ post (.returned (.tuple #[.agg cs1, .slice none 0 0, .int .i64 7])) w6) := by
    obtain ⟨w6', e6, k6, ho6, hb6⟩ := h5.ret
    rw [hcs1] at e6 k6
    rw [hw6] at e6
    subst e6
    refine ⟨k6, ?_⟩
    rw [hpost]
    exact ⟨x1, _, by rw [hcs1], ho6.rat (fun _ h => h), hb6, RdB.nil _ _⟩
  have H5 := Lib.hid (And.intro h5 (And.intro efv (And.intro hm hall)))
  clear h hok hF hb1 k1 hcs hpost hi hj hall h4 hcs1 hx1f hb5 h5 efv hm hbx5 hon5 hrs5 HX H4 HFJ HKB4
  go_wp2_with fail
  go_loopw [8, 9] (fun a i0 wr => ∃ k : Nat, k ≤ m ∧ a = .bool true ∧ i0 = .int .i64 (k : Int) ∧ wr = w5) (fun _ i0 _ => m - (RowKit.intOf i0).toNat)
  case atStart => exact ⟨0, Nat.zero_le _, rfl, rfl, rfl⟩
  case round =>
    obtain ⟨k, hk, rfl, rfl, hwr⟩ := hrel
    subst hwr
    obtain ⟨h5, efv, hm, hall⟩ := H5.out
    have hk0 : (0 : Int) ≤ (k : Int) := by omega
    rcases Nat.lt_or_eq_of_le hk with hlt | heq
    · obtain ⟨f, hf⟩ : ∃ f, x1.fs[k]? = some f := ⟨_, List.getElem?_eq_getElem (by omega)⟩
      obtain ⟨g, off, c, e, hc⟩ := h5.rat.fcell hf
      rw [efv, hm] at e
      injection e with e1 e2 e3
      subst e1 e3
      have cj := hc 1 _ (by omega) rfl
      have hpk := hall f.1 (by rw [← h5.own.frs]; exact List.mem_map_of_mem (List.mem_of_getElem? hf))
      obtain ⟨pn, hpn⟩ : ∃ pn, f.1.pins = pn := ⟨_, rfl⟩
      rw [hpn] at cj hpk
      have hpi : (0 : Int) < (pn : Int) := by omega
      have hki : (k : Int) < (m : Int) := by omega
      have HLT := Lib.hid hlt
      clear h5 efv hm hall hf hc hpk hpn hlt hk
      go_wp2
      go_roundw
      case rel => exact ⟨k + 1, by have := HLT.out; omega, by first | trivial | rw [decide_eq_true (by omega)], by go_num, by trivial⟩
      case measure => have := HLT.out; simp [RowKit.intOf]; omega
    · subst heq
      clear h5 efv hm hall hk H5
      go_wp2_with (first | (refine wpList_load_row rfl _ _ rfl w.heap.size rfl _ _ (0, 0) _ HBX.out Tryz.underlying36 rfl HSZ1.out ?_) | (refine wpList_store_row rfl _ _ _ rfl (w.heap.size + 1) _ rfl rfl _ _ HRS.out HSZ1.out (by have := HSZ1.out; rw [info6] at this; injection this) HON.out ?_; rw [hw6]))
      exact bodyPost_ret (v := .tuple #[.agg cs1, .slice none 0 0, .int .i64 7]) (by simp [results, Tryz.results33, asAddr, Act.put, run_loadVar_row w6 (w.heap.size + 1) 36 36 _ (0, 0) _ HFIN.out.1 Tryz.underlying36 rfl HSZ1.out]) rfl HFIN.out.2
end
end Mun
end
