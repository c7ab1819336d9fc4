/- Texts of mine, one behind the other: RpF, RpG, RpH. -/
import Derived.Test.YtjfepmohoijalaaGreatMgRa
section
/- out of chapter 8's own pool: a frame's page written out. -/
set_option maxRecDepth 100000
set_option linter.unusedVariables false
set_option linter.unusedSimpArgs false
namespace Mun
open Go Go.RowKit
open Go.Proofs

/-- the first k are turned -/
def mapTo {α : Type} (f : α → α) (k : Nat) (l : List α) : List α := (l.take k).map f ++ l.drop k
theorem mapTo_zero {α : Type} (f : α → α) (l : List α) : mapTo f 0 l = l := by simp [mapTo]
theorem mapTo_all {α : Type} (f : α → α) (l : List α) : mapTo f l.length l = l.map f := by simp [mapTo]
theorem mapTo_length {α : Type} (f : α → α) (k : Nat) (l : List α) : (mapTo f k l).length = l.length := by simp [mapTo]; omega
theorem mapTo_get {α : Type} (f : α → α) (k i : Nat) (l : List α) : (mapTo f k l)[i]? = if i < k then (l[i]?).map f else l[i]? := by
  unfold mapTo
  by_cases h : i < k
  · rw [if_pos h]
    by_cases h2 : i < l.length
    · rw [List.getElem?_append_left (by simp; omega), List.getElem?_map, List.getElem?_take, if_pos h]
    · rw [List.getElem?_append_right (by simp; omega), List.getElem?_drop, List.getElem?_eq_none (by simp; omega), List.getElem?_eq_none (by omega)]; rfl
  · rw [if_neg h]
    by_cases h2 : i < l.length
    · rw [List.getElem?_append_right (by simp; omega), List.getElem?_drop]
      congr 1
      simp
      omega
    · rw [List.getElem?_eq_none (by simp; omega), List.getElem?_eq_none (by omega)]
theorem mapTo_succ {α : Type} (f : α → α) {k : Nat} {l : List α} {d : α} (h : l[k]? = some d) : mapTo f (k + 1) l = (mapTo f k l).set k (f d) := by
  have hk := (List.getElem?_eq_some_iff.1 h).1
  apply List.ext_getElem?
  intro i
  rw [mapTo_get, List.getElem?_set]
  by_cases e : k = i
  · subst e
    rw [if_pos (by omega), if_pos rfl, if_pos (by rw [mapTo_length]; exact hk), h]; rfl
  · rw [if_neg e, mapTo_get]
    by_cases h1 : i < k
    · rw [if_pos h1, if_pos (by omega)]
    · rw [if_neg h1, if_neg (by omega)]

/-- a mark of page n is not changed any more -/
def clr (n : Int) (d : Int × (Nat × Bool)) : Int × (Nat × Bool) := if d.1 = n then (d.1, (d.2.1, false)) else d
def RF.clean (f : RF) : RF := { f with chg := false }
def RP.out1 (p : RP) (f : RF) : RP := { p with forced := if p.forced ≤ f.lsn then p.fin else p.forced }
def RP.out2 (p : RP) (i : Nat) (f : RF) : RP := { p.out1 f with dk := p.dk.set f.pg.toNat f.b, fr := p.fr.set i f.clean }
/-- a frame's page written out -/
def RP.out (p : RP) (i : Nat) : RP :=
  match p.fr[i]? with
  | none => p
  | some f => if f.chg = false then p else { p.out2 i f with dt := p.dt.map (clr f.pg) }

def FBox (w : World) (b : Nat) (f : RFV) : Prop := w.heap[b]? = some (.cells (r6 f).toArray 79 (0, 0))
theorem FBox.lt {w : World} {b : Nat} {f : RFV} (h : FBox w b f) : b < w.heap.size := (Array.getElem?_eq_some_iff.1 h).1
theorem FBox.cell {w : World} {b : Nat} {f : RFV} (h : FBox w b f) (i : Nat) {v : Value} (hv : (r6 f)[i]? = some v) : w.cell? ⟨b, i, none⟩ = some v := by
  rw [cell_of_row w b i _ _ _ h]
  simpa using hv
theorem FBox.keep {w w' : World} {b : Nat} {f : RFV} (h : FBox w b f) (hk : w'.heap[b]? = w.heap[b]?) : FBox w' b f := hk.trans h

def OutP (F : Foot) (w : World) (p : RP) (x : RPV) (i : Nat) (e : Ending) (w' : World) : Prop :=
  ∃ x', e = .returned (.agg (rpcells (p.out i) x')) ∧ Below w.heap.size w w' ∧ ((p.out i = p ∧ x' = x) ∨ RO F w.heap.size w' (p.out i) x')

abbrev Zf : Array Value := #[.int .i64 0, .int .i64 0, .bool false, .slice none 0 0, .int .u64 0, .bool false]

section
variable {F : Foot} {w : World} {p : RP} {x : RPV}

set_option maxHeartbeats 4000000 in
theorem rp_out (h : RAt F w p x) (hsm : p.Sm) (hF : ∀ k, F k → k < w.heap.size) (i : Nat) (f : RFV) (hf : x.fs[i]? = some f) (hg : f.1.chg = true → (0 ≤ f.1.pg ∧ f.1.pg < p.dk.length) ∧ f.1.b.length = 512) :
    Calls Tryz.prog 76 #[.agg (rpcells p x), .int .i64 i] w (OutP F w p x i) := by
  obtain ⟨w1, hw1, hb1, k0, k1, s1⟩ := rp_boxes w (rpcells p x) rfl
  have h1 := h.below hb1
  obtain ⟨g, off, c, efv, hcs⟩ := h1.fcell hf
  have hfp : p.fr[i]? = some f.1 := by rw [← h.frs, List.getElem?_map, hf]; rfl
  have hil := (List.getElem?_eq_some_iff.1 hf).1
  obtain ⟨m, hm⟩ : ∃ m, x.fs.length = m := ⟨_, rfl⟩
  rw [hm] at efv hil
  have hfb := h1.fb f (List.mem_of_getElem? hf)
  have hrg : w1.rangeAt g (off + i * 6) (r6 f) := fun j v hv => hcs j v (by
    have := (List.getElem?_eq_some_iff.1 hv).1
    exact this) hv
  have q0 : w1.cell? ⟨w.heap.size, 0, none⟩ = some (.slice (some ⟨g, off, none⟩) m c) := k0.cell 0 (by simp [rpcells, efv])
  have hi0 : (0 : Int) ≤ (i : Int) := by omega
  have him : (i : Int) < (m : Int) := by omega
  obtain ⟨w2, hw2⟩ : ∃ w2, w1.alloc (.cells Zf 79) = w2 := ⟨_, rfl⟩
  have hb2 : Below w.heap.size w w2 := by rw [← hw2]; exact hb1.alloc (by omega) _
  have hb12 : Below w1.heap.size w1 w2 := by rw [← hw2]; exact (Below.refl _ _).alloc (Nat.le_refl _) _
  have s2 : w2.heap.size = w.heap.size + 3 := by rw [← hw2, World.size_alloc, s1]
  have f2 : w2.heap[w.heap.size + 2]? = some (.cells Zf 79 (0, 0)) := by rw [← hw2, ← s1]; exact heap_alloc_new w1 _
  obtain ⟨w3, hw3⟩ : ∃ w3, w2.setRow (w.heap.size + 2) (r6 f).toArray = w3 := ⟨_, rfl⟩
  have hb3 : Below w.heap.size w w3 := by rw [← hw3]; exact below_setRow hb2 (by omega) _
  have s3 : w3.heap.size = w.heap.size + 3 := by rw [← hw3, setRow_sz, s2]
  have f3 : FBox w3 (w.heap.size + 2) f := by rw [← hw3]; exact setRow_heap w2 _ _ _ _ _ f2
  have k03 : PBox w3 w.heap.size (rpcells p x) := by rw [← hw3]; exact (k0.below hb12 k0.lt).rowNe _ (by omega)
  have k13 : PBox w3 (w.heap.size + 1) Z6 := by rw [← hw3]; exact (k1.below hb12 k1.lt).rowNe _ (by omega)
  obtain ⟨cs, hcs'⟩ : ∃ cs, rpcells p x = cs := ⟨_, rfl⟩
  have HI6 : Hid ((Tryz.prog.info? 36).map (·.size) = some cs.size) := by rw [← hcs']; exact info6
  have hone := h.one
  obtain ⟨post, hpost⟩ : ∃ post : Ending → World → Prop, post = OutP F w p x i := ⟨_, rfl⟩
  rw [← hpost]
  obtain ⟨⟨pg, pins, touch, b, lsn, chg⟩, bv⟩ := f
  simp only at hg hfb hfp
  obtain ⟨ba, bc, ebv, -, -⟩ := hfb.form
  obtain ⟨bn, hbn⟩ : ∃ bn, b.length = bn := ⟨_, rfl⟩
  rw [hbn] at ebv
  subst ebv
  obtain ⟨fv, hfv⟩ : ∃ fv : RFV, fv = (⟨pg, pins, touch, b, lsn, chg⟩, .slice ba bn bc) := ⟨_, rfl⟩
  have hr6 : r6 fv = [.int .i64 pg, .int .i64 (pins : Int), .bool touch, .slice ba bn bc, .int .u64 (lsn : Int), .bool chg] := by rw [hfv]; rfl
  rw [← hfv] at hf hrg f3
  have t5 : w3.cell? ⟨w.heap.size + 2, 5, none⟩ = some (.bool chg) := f3.cell 5 (by rw [hr6]; rfl)
  have HR6 := Lib.hid hr6
  have HRG := Lib.hid (show w1.rangeAt g (off + i * 6) [.int .i64 pg, .int .i64 (pins : Int), .bool touch, .slice ba bn bc, .int .u64 (lsn : Int), .bool chg] from by rw [← hr6]; exact hrg)
  have hw3' : w2.setRow (w.heap.size + 2) #[.int .i64 pg, .int .i64 (pins : Int), .bool touch, .slice ba bn bc, .int .u64 (lsn : Int), .bool chg] = w3 := by rw [← hw3]; rfl
  have HF2 := Lib.hid f2
  rw [hcs'] at k03
  have HK0 := Lib.hid k03
  have HK1 := Lib.hid k13
  rw [hcs'] at hw1 hone ⊢
  have HONE := Lib.hid hone
  have HX := Lib.hid (And.intro h (And.intro hsm (And.intro hF (And.intro hf (And.intro hpost (And.intro hcs' (And.intro hb3 (And.intro s3 (And.intro f3 (And.intro hfv (And.intro hm (And.intro hfp (And.intro hbn hg)))))))))))))
  clear h hsm hF hf hpost hcs' hb1 k0 k1 hb2 hb12 f2 hb3 s3 f3 k03 k13 h1 hfb hcs efv hrg hone hr6 hfp hm hil hbn hg hw3 hfv
  unfold Z6 at hw1
  unfold Zf at hw2
  cases chg with
  | false =>
    obtain ⟨w4, hw4⟩ : ∃ w4, w3.setRow (w.heap.size + 1) cs = w4 := ⟨_, rfl⟩
    have HFIN : Hid (PBox w4 (w.heap.size + 1) cs ∧ post (.returned (.agg cs)) w4) := by
      obtain ⟨h, hsm, hF, hf, hpost, hcs', hb3, s3, f3, hfv, hm, hfp, hbn, hg⟩ := HX.out
      refine ⟨by rw [← hw4]; exact PBox.row HK1.out _, ?_⟩
      have he : p.out i = p := by unfold RP.out; rw [hfp]; rfl
      rw [hpost]
      refine ⟨x, by rw [he, hcs'], ?_, .inl ⟨he, rfl⟩⟩
      rw [← hw4]
      exact below_setRow hb3 (by omega) _
    clear HX HR6
    go_enter Tryz.func76, Tryz.ntmps76
    go_wp2_with (first | rw [hw1] | (refine wpList_load_mid rfl _ _ rfl g (off + i * 6) rfl [.int .i64 pg, .int .i64 (pins : Int), .bool touch, .slice ba bn bc, .int .u64 (lsn : Int), .bool false] _ HRG.out Tryz.underlying79 rfl infoRF ?_) | rw [hw2] | rw [s1] | (refine wpList_store_row rfl _ _ _ rfl (w.heap.size + 2) _ rfl rfl _ _ HF2.out infoRF rfl (by simp [Value.oneCell']) ?_; rw [hw3']) | (refine wpList_load_row rfl _ _ rfl w.heap.size rfl _ _ (0, 0) _ HK0.out Tryz.underlying36 rfl HI6.out ?_) | (refine wpList_store_row rfl _ _ _ rfl (w.heap.size + 1) _ rfl rfl _ _ HK1.out HI6.out (by have := HI6.out; rw [info6] at this; injection this) HONE.out ?_; rw [hw4]))
    exact bodyPost_ret (by simp [results, Tryz.results76, asAddr, Act.put, run_loadVar_row w4 (w.heap.size + 1) 36 36 _ (0, 0) _ HFIN.out.1 Tryz.underlying36 rfl HI6.out]) rfl HFIN.out.2
  | true =>
    have hcp : Calls Tryz.prog 74 #[.agg cs] w3 (CpPost (inF F w w3.heap.size) w3 p x) := by
      obtain ⟨h, hsm, hF, hf, hpost, hcs', hb3, s3, f3, hfv, hm, hfp, hbn, hg⟩ := HX.out
      rw [← hcs']
      exact rp_copied (h.inF hb3 _) hsm (inF_lt hF hb3)
    have HCP := Lib.hid hcp
    clear hcp
    go_enter Tryz.func76, Tryz.ntmps76
    go_wp2_with (first | rw [hw1] | (refine wpList_load_mid rfl _ _ rfl g (off + i * 6) rfl [.int .i64 pg, .int .i64 (pins : Int), .bool touch, .slice ba bn bc, .int .u64 (lsn : Int), .bool true] _ HRG.out Tryz.underlying79 rfl infoRF ?_) | rw [hw2] | rw [s1] | (refine wpList_store_row rfl _ _ _ rfl (w.heap.size + 2) _ rfl rfl _ _ HF2.out infoRF rfl (by simp [Value.oneCell']) ?_; rw [hw3']) | (refine wpList_load_row rfl _ _ rfl w.heap.size rfl _ _ (0, 0) _ HK0.out Tryz.underlying36 rfl HI6.out ?_))
    refine HCP.out.mono ?_
    rintro e w4 ⟨x1, rfl, hx1f, hx1k, ho4, hb4⟩
    obtain ⟨h, hsm, hF, hf, hpost, hcs', hb3, s3, f3, hfv, hm, hfp, hbn, hg⟩ := HX.out
    obtain ⟨w5, hw5⟩ : ∃ w5, w4.setRow w.heap.size (rpcells p x1) = w5 := ⟨_, rfl⟩
    have h5 : RW F w w3.heap.size w5 p x1 := RW.start h hF hb3 (show PBox w3 w.heap.size (rpcells p x) by rw [hcs']; exact HK0.out) HK1.out ho4 hb4 hw5
    have f5 : FBox w5 (w.heap.size + 2) fv := (f3.keep (hb4.block _ f3.lt)).keep (by rw [← hw5]; exact setRow_ne _ _ _ _ (by omega))
    have hon1 := ho4.one
    have hsz1 := rp_size p x1
    have kb4 : PBox w4 w.heap.size cs := PBox.below HK0.out hb4 (PBox.lt HK0.out)
    obtain ⟨cs1, hcs1⟩ : ∃ cs1, rpcells p x1 = cs1 := ⟨_, rfl⟩
    rw [hcs1] at hw5 hon1 hsz1 ⊢
    have HKB4 := Lib.hid kb4
    have HON1 := Lib.hid hon1
    have HSZ1 := Lib.hid hsz1
    have t4 : w5.cell? ⟨w.heap.size + 2, 4, none⟩ = some (.int .u64 (lsn : Int)) := f5.cell 4 (by rw [HR6.out]; rfl)
    have t0 : w5.cell? ⟨w.heap.size, 5, none⟩ = some (.int .u64 (p.forced : Int)) := h5.box.cell 5 rfl
    have H5 := Lib.hid (And.intro h5 (And.intro f5 (And.intro hx1f hx1k)))
    clear h hsm hF hf hpost hcs' hb3 s3 f3 hfv hm hfp hbn hg ho4 hb4 h5 f5 hon1 hsz1 kb4 hx1f hx1k hcs1
    go_upto_if 22 with (first | (refine wpList_store_row rfl _ _ _ rfl w.heap.size _ rfl rfl _ _ HKB4.out HSZ1.out (by have h1 := HI6.out; have h2 := HSZ1.out; rw [info6] at h1 h2; injection h1 with h1; injection h2 with h2; omega) HON1.out ?_; rw [hw5]))
    go_cut [] (fun wx => RW F w w3.heap.size wx (p.out1 fv.1) x1 ∧ FBox wx (w.heap.size + 2) fv)
    case first =>
      obtain ⟨h5, f5, hx1f, hx1k⟩ := H5.out
      obtain ⟨-, -, -, -, -, -, -, -, -, hfv, -⟩ := HX.out
      by_cases hl : p.forced ≤ lsn
      · have t4f : w5.cell? ⟨w.heap.size, 4, none⟩ = some (.int .u64 (p.fin : Int)) := h5.box.cell 4 rfl
        have z5 := h5.box.frozen 5
        obtain ⟨w6, hw6⟩ : ∃ w6, w5.setCell ⟨w.heap.size, 5, none⟩ (.int .u64 (p.fin : Int)) = w6 := ⟨_, rfl⟩
        have HM : Hid (RW F w w3.heap.size w6 (p.out1 fv.1) x1 ∧ FBox w6 (w.heap.size + 2) fv) := by
          refine ⟨?_, f5.keep (by rw [← hw6]; exact setCell_heap _ _ _ _ (by simp only; omega))⟩
          rw [← hw6]
          have e1 : p.out1 fv.1 = { p with forced := p.fin } := by unfold RP.out1; rw [hfv]; simp only; rw [if_pos hl]
          rw [e1]
          exact h5.cellS 5 _ (by simp [rpcells]) rfl rfl rfl
        clear h5 f5 hx1f hx1k hfv H5 HX HR6
        go_wp2
        go_meet
        exact HM.out
      · have HM : Hid (RW F w w3.heap.size w5 (p.out1 fv.1) x1 ∧ FBox w5 (w.heap.size + 2) fv) := by
          refine ⟨?_, f5⟩
          have e1 : p.out1 fv.1 = p := by unfold RP.out1; rw [hfv]; simp only; rw [if_neg hl]
          rw [e1]
          exact h5
        clear h5 f5 hx1f hx1k hfv H5 HX HR6
        go_wp2
        go_meet
        exact HM.out
    case rest =>
      obtain ⟨h6, f6⟩ := hcut
      obtain ⟨w6, rfl⟩ : ∃ w6 : World, w6 = wc := ⟨_, rfl⟩
      obtain ⟨h, hsm, hF, hf, hpost, hcs', hb3, s3, f3, hfv, hm, hfp, hbn, hg⟩ := HX.out
      obtain ⟨-, -, hx1f, -⟩ := H5.out
      obtain ⟨⟨hpg0, hpg1⟩, hb512⟩ := hg trivial
      rw [hbn] at hb512
      subst hb512
      obtain ⟨pn, hpn⟩ : ∃ pn : Nat, pg = (pn : Int) := ⟨pg.toNat, by omega⟩
      subst hpn
      have hpl : pn < p.dk.length := by omega
      -- the page is copied
      have h6d : RW F w w3.heap.size w6.drew (p.out1 fv.1) x1 := h6.below (below_drewN (Below.refl _ _) 1)
      have hmem : fv ∈ x1.fs := by rw [hx1f]; exact List.mem_of_getElem? hf
      have hrb := h6d.own.fb fv hmem
      have hcy := r5copy w6.drew fv.2 fv.1.b hrb (by rw [hfv]; exact hbn)
      have hf1 : x1.fs[i]? = some fv := by rw [hx1f]; exact hf
      have hxl : x1.ks.length = p.dk.length := h6.len.2
      obtain ⟨qk, hqk⟩ : ∃ qk, x1.ks[pn]? = some qk := ⟨_, List.getElem?_eq_getElem (by omega)⟩
      obtain ⟨kg, kc, ekv, hkg, hkc, hkz⟩ := h6d.own.kcell hqk
      have e2v : fv.2 = .slice ba 512 bc := by rw [hfv]
      rw [e2v] at hcy
      have d0 : w6.cell? ⟨w.heap.size + 2, 0, none⟩ = some (.int .i64 (pn : Int)) := f6.cell 0 (by rw [HR6.out]; rfl)
      have d3 : w6.cell? ⟨w.heap.size + 2, 3, none⟩ = some (.slice ba 512 bc) := f6.cell 3 (by rw [HR6.out]; rfl)
      obtain ⟨kn, hkn⟩ : ∃ kn, x1.ks.length = kn := ⟨_, rfl⟩
      have dk : w6.cell? ⟨w.heap.size, 3, none⟩ = some (.slice (some ⟨kg, 0, none⟩) kn kc) := h6.box.cell 3 (by simp [rpcells, ekv, hkn])
      have hpk0 : (0 : Int) ≤ (pn : Int) := by omega
      have hpk1 : (pn : Int) < (kn : Int) := by omega
      have HCY := Lib.hid hcy
      have H6 := Lib.hid (And.intro h6d (And.intro f6 (And.intro hf1 (And.intro hxl (And.intro hqk (And.intro ekv (And.intro hkc (And.intro hkz (And.intro hkg hkn)))))))))
      clear h6 f6 h hsm hF hf hpost hcs' hb3 s3 f3 hfv hm hfp hbn hg hx1f hpg0 hpg1 hpl h6d hmem hrb hcy hf1 hxl hqk ekv hkc hkz e2v hkg
      clear H5 HKB4 HON1 HSZ1 t4 t0 HCP HRG hw3' HF2
      have hS0 : w6.drew.cell? ⟨w.heap.size, 3, none⟩ = some (.slice (some ⟨kg, 0, none⟩) kn kc) ∧ w6.drew.cell? ⟨w.heap.size + 2, 0, none⟩ = some (.int .i64 (pn : Int)) ∧ w6.drew.cell? ⟨w.heap.size + 2, 3, none⟩ = some (.slice ba 512 bc) := ⟨dk, d0, d3⟩
      go_upto_region 7 with (fail)
      refine wp_region_U (fun W => W.cell? ⟨w.heap.size, 3, none⟩ = some (.slice (some ⟨kg, 0, none⟩) kn kc) ∧ W.cell? ⟨w.heap.size + 2, 0, none⟩ = some (.int .i64 (pn : Int)) ∧ W.cell? ⟨w.heap.size + 2, 3, none⟩ = some (.slice ba 512 bc)) [8] (by kernel_rfl) ?_
      refine wpAnyU_take (i := 0) [1, 7, 8] rfl (by as_aux_lemma => kernel_rfl) (by as_aux_lemma => kernel_rfl) (by as_aux_lemma => kernel_rfl) (by as_aux_lemma => kernel_rfl) (by as_aux_lemma => kernel_rfl) (by as_aux_lemma => kernel_rfl) (fun _ _ _ h => h) (Or.inl ⟨by rfl, (by intro W hSW; (try dsimp only at hSW); (try go_split_ands); go_simp <;> with_reducible rfl)⟩) hS0 ?_
      try simp only [Act.put, List.getElem_toArray, List.getElem_cons_succ, List.getElem_cons_zero, List.setIfInBounds_toArray, List.set_cons_zero, List.set_cons_succ]
      refine wpAnyU_take (i := 1) [7, 8] rfl (by as_aux_lemma => kernel_rfl) (by as_aux_lemma => kernel_rfl) (by as_aux_lemma => kernel_rfl) (by as_aux_lemma => kernel_rfl) (by as_aux_lemma => kernel_rfl) (by as_aux_lemma => kernel_rfl) (fun _ _ _ h => h) (Or.inl ⟨by rfl, (by intro W hSW; (try dsimp only at hSW); (try go_split_ands); go_simp <;> with_reducible rfl)⟩) hS0 ?_
      try simp only [Act.put, List.getElem_toArray, List.getElem_cons_succ, List.getElem_cons_zero, List.setIfInBounds_toArray, List.set_cons_zero, List.set_cons_succ]
      refine wpAnyU_take (i := 2) [3, 7, 8] rfl (by as_aux_lemma => kernel_rfl) (by as_aux_lemma => kernel_rfl) (by as_aux_lemma => kernel_rfl) (by as_aux_lemma => kernel_rfl) (by as_aux_lemma => kernel_rfl) (by as_aux_lemma => kernel_rfl) (fun _ _ _ h => h) (Or.inl ⟨by rfl, (by intro W hSW; (try dsimp only at hSW); (try go_split_ands); go_simp <;> with_reducible rfl)⟩) hS0 ?_
      try simp only [Act.put, List.getElem_toArray, List.getElem_cons_succ, List.getElem_cons_zero, List.setIfInBounds_toArray, List.set_cons_zero, List.set_cons_succ]
      refine wpAnyU_take (i := 3) [7, 8] rfl (by as_aux_lemma => kernel_rfl) (by as_aux_lemma => kernel_rfl) (by as_aux_lemma => kernel_rfl) (by as_aux_lemma => kernel_rfl) (by as_aux_lemma => kernel_rfl) (by as_aux_lemma => kernel_rfl) (fun _ _ _ h => h) (Or.inl ⟨by rfl, (by intro W hSW; (try dsimp only at hSW); (try go_split_ands); go_simp <;> with_reducible rfl)⟩) hS0 ?_
      try simp only [Act.put, List.getElem_toArray, List.getElem_cons_succ, List.getElem_cons_zero, List.setIfInBounds_toArray, List.set_cons_zero, List.set_cons_succ]
      refine wpAnyU_take (i := 4) [5, 6, 7, 8] rfl (by as_aux_lemma => kernel_rfl) (by as_aux_lemma => kernel_rfl) (by as_aux_lemma => kernel_rfl) (by as_aux_lemma => kernel_rfl) (by as_aux_lemma => kernel_rfl) (by as_aux_lemma => kernel_rfl) (fun _ _ _ h => h) (Or.inl ⟨by rfl, (by intro W hSW; (try dsimp only at hSW); (try go_split_ands); go_simp <;> with_reducible rfl)⟩) hS0 ?_
      try simp only [Act.put, List.getElem_toArray, List.getElem_cons_succ, List.getElem_cons_zero, List.setIfInBounds_toArray, List.set_cons_zero, List.set_cons_succ]
      refine wpAnyU_take (i := 5) [6, 7, 8] rfl (by as_aux_lemma => kernel_rfl) (by as_aux_lemma => kernel_rfl) (by as_aux_lemma => kernel_rfl) (by as_aux_lemma => kernel_rfl) (by as_aux_lemma => kernel_rfl) (by as_aux_lemma => kernel_rfl) (fun _ _ _ h => h) (Or.inl ⟨by rfl, (by intro W hSW; (try dsimp only at hSW); (try go_split_ands); go_simp <;> with_reducible rfl)⟩) hS0 ?_
      try simp only [Act.put, List.getElem_toArray, List.getElem_cons_succ, List.getElem_cons_zero, List.setIfInBounds_toArray, List.set_cons_zero, List.set_cons_succ]
      refine wpAnyU_one (i := 6) (by kernel_rfl) rfl (fun K hK => ?_)
      go_simp
      go_at_call 60
      (with_reducible refine HCY.out.mono ?_)
      rintro e w7 ⟨bg, bcap, rfl, hpw, hb7⟩
      have hS1 : w7.cell? ⟨w.heap.size, 3, none⟩ = some (.slice (some ⟨kg, 0, none⟩) kn kc) ∧ w7.cell? ⟨w.heap.size + 2, 0, none⟩ = some (.int .i64 (pn : Int)) ∧ w7.cell? ⟨w.heap.size + 2, 3, none⟩ = some (.slice ba 512 bc) := by
        obtain ⟨y1, y2, y3⟩ := hS0
        exact ⟨by rw [World.cell?_of_block (hb7.block _ (World.block_lt_of_cell? _ _ y1))]; exact y1, by rw [World.cell?_of_block (hb7.block _ (World.block_lt_of_cell? _ _ y2))]; exact y2, by rw [World.cell?_of_block (hb7.block _ (World.block_lt_of_cell? _ _ y3))]; exact y3⟩
      have HPW := Lib.hid (And.intro hpw hb7)
      have hkc7 : w7.cell? ⟨kg, pn, none⟩ = some qk.2 := by
        have y := H6.out.2.2.2.2.2.2.1
        rw [World.cell?_of_block (hb7.block _ (World.block_lt_of_cell? _ _ y))]; exact y
      have hkz7 : w7.frozen? ⟨kg, pn, none⟩ = false := by
        have y := H6.out.2.2.2.2.2.2.1
        rw [World.frozen?_of_block (hb7.block _ (World.block_lt_of_cell? _ _ y))]; exact H6.out.2.2.2.2.2.2.2.1 pn
      clear hpw hb7
      refine hK.out _ _ (fun _ => hS1) (fun _ => ?_)
      clear hK K
      try simp only [Act.put, List.getElem_toArray, List.getElem_cons_succ, List.getElem_cons_zero, List.setIfInBounds_toArray, List.set_cons_zero, List.set_cons_succ]
      refine wpAnyU_take (i := 7) [8] rfl (by as_aux_lemma => kernel_rfl) (by as_aux_lemma => kernel_rfl) (by as_aux_lemma => kernel_rfl) (by as_aux_lemma => kernel_rfl) (by as_aux_lemma => kernel_rfl) (by as_aux_lemma => kernel_rfl) (fun _ _ _ h => h) (Or.inl ⟨by rfl, (by intro W hSW; (try dsimp only at hSW); (try go_split_ands); go_simp <;> with_reducible rfl)⟩) hS1 ?_
      try simp only [Act.put, List.getElem_toArray, List.getElem_cons_succ, List.getElem_cons_zero, List.setIfInBounds_toArray, List.set_cons_zero, List.set_cons_succ]
      refine wpAnyU_one (i := 8) (by kernel_rfl) rfl (fun K hK => ?_)
      go_simp
      refine hK.out _ _ (fun h => absurd h (by decide)) (fun _ => ?_)
      clear hK K
      try simp only [Act.put, List.getElem_toArray, List.getElem_cons_succ, List.getElem_cons_zero, List.setIfInBounds_toArray, List.set_cons_zero, List.set_cons_succ]
      refine wpAnyU_done (by kernel_rfl) ?_ _
      obtain ⟨w8, hw8⟩ : ∃ w8, w7.setCell ⟨kg, pn, none⟩ (.slice (some ⟨bg, 0, none⟩) 512 bcap) = w8 := ⟨_, rfl⟩
      obtain ⟨h6d, f6, hf1, hxl, hqk, ekv, hkc, hkz, hkg, hkn⟩ := H6.out
      obtain ⟨hpw, hb7⟩ := HPW.out
      have h7 := h6d.below hb7
      have hbg := hpw.lt
      have hmem : fv ∈ x1.fs := List.mem_of_getElem? hf1
      have hb8 : RdB (fun q => inF F w w3.heap.size q ∨ x1.blk q) w7 (.slice (some ⟨bg, 0, none⟩) 512 bcap) fv.1.b := hpw.rd (fun h9 => by
        have hlo := h6d.lo
        rcases h9 with h9 | h9 | h9 | h9
        · have := hlo _ h9; omega
        · have := (h6d.own.fs.lt _ h9).2; omega
        · have := (h6d.own.ds.lt _ h9).2; omega
        · have := (h6d.own.ks.lt _ h9).2; omega)
      have h8 := h7.setK (i := pn) (q := (fv.1.b, .slice (some ⟨bg, 0, none⟩) 512 bcap)) (by omega) hb8 ekv
      simp only at h8
      rw [hw8] at h8
      have f8 : FBox w8 (w.heap.size + 2) fv := (f6.keep (show w7.heap[w.heap.size + 2]? = w6.heap[w.heap.size + 2]? from hb7.block _ f6.lt)).keep (by rw [← hw8]; exact setCell_heap _ _ _ _ (by have h1 := hkg.1; obtain ⟨-, -, -, -, -, -, -, s3, -⟩ := HX.out; simp only; omega))
      obtain ⟨fg, fc, efv, hfg, hfcl, hfz⟩ := h8.own.fcell (show ({ x1 with ks := x1.ks.set pn (fv.1.b, .slice (some ⟨bg, 0, none⟩) 512 bcap) } : RPV).fs[i]? = some fv from hf1)
      simp only at efv
      obtain ⟨fn, hfn⟩ : ∃ fn, x1.fs.length = fn := ⟨_, rfl⟩
      have hifn : (i : Int) < (fn : Int) := by have := (List.getElem?_eq_some_iff.1 hf1).1; omega
      have a0 : w8.cell? ⟨w.heap.size, 0, none⟩ = some (.slice (some ⟨fg, 0, none⟩) fn fc) := h8.box.cell 0 (by simp [rpcells, efv, hfn])
      have a5 : w8.cell? ⟨fg, i * 6 + 5, none⟩ = some (.bool true) := hfcl 5 _ (by decide) (by rw [HR6.out]; rfl)
      have z5 := hfz (i * 6 + 5)
      obtain ⟨w9, hw9⟩ : ∃ w9, w8.setCell ⟨fg, i * 6 + 5, none⟩ (.bool false) = w9 := ⟨_, rfl⟩
      obtain ⟨x3, hx3⟩ : ∃ x3 : RPV, x3 = { x1 with ks := x1.ks.set pn (fv.1.b, .slice (some ⟨bg, 0, none⟩) 512 bcap), fs := x1.fs.set i (fv.1.clean, fv.2) } := ⟨_, rfl⟩
      have hfpg : fv.1.pg = (pn : Int) := by obtain ⟨-, -, -, -, -, -, -, -, -, hfv, -⟩ := HX.out; rw [hfv]
      have h9 : RW F w w3.heap.size w9 (p.out2 i fv.1) x3 := by
        have h9 := h8.setF (i := i) (k := 5) (f := fv) (f' := (fv.1.clean, fv.2)) (u := .bool false) hf1 (by decide) (by rfl) (h8.own.fb fv hmem) efv
        rw [hw9] at h9
        have e1 : p.out2 i fv.1 = { p.out1 fv.1 with dk := (p.out1 fv.1).dk.set pn fv.1.b, fr := (p.out1 fv.1).fr.set i fv.1.clean } := by
          unfold RP.out2
          rw [hfpg]
          rfl
        rw [e1, hx3]
        exact h9
      have f9 : FBox w9 (w.heap.size + 2) fv := f8.keep (by rw [← hw9]; exact setCell_heap _ _ _ _ (by have h1 := hfg.1; obtain ⟨-, -, -, -, -, -, -, s3, -⟩ := HX.out; simp only; omega))
      obtain ⟨md, hmd⟩ : ∃ md, p.dt.length = md := ⟨_, rfl⟩
      have hmdl : md ≤ 1024 := by obtain ⟨-, hsm, -⟩ := HX.out; have := hsm.dt; omega
      have hmdi : (md : Int) ≤ 1024 := by omega
      have hmd0 : (0 : Int) ≤ (md : Int) := by omega
      obtain ⟨da, dc, edv, -, -⟩ := h9.rat.ds.form
      rw [show (p.out2 i fv.1).dt.length = md from hmd] at edv
      obtain ⟨P, hP⟩ : ∃ P, p.out2 i fv.1 = P := ⟨_, rfl⟩
      have hPd : P.dt = p.dt := by rw [← hP]; rfl
      rw [hP] at h9
      have b2 : w9.cell? ⟨w.heap.size, 2, none⟩ = some (.slice da md dc) := h9.box.cell 2 (by simp [rpcells, edv])
      have H9 := Lib.hid (And.intro h9 (And.intro f9 (And.intro edv (And.intro hP (And.intro hPd (And.intro hmd hfpg))))))
      clear h6d f6 hf1 hxl hqk ekv hkc hkz hkg hkn hpw hb7 h7 hbg hmem hb8 h8 f8 hfg hfcl hfz h9 f9 hP hPd hmd hfpg efv hx3 edv H6 HPW HCY hS0 hS1 hkc7 hkz7 dk d0 d3 hmdl
      go_wp2
      go_loopw [6] (fun i0 wr => ∃ k : Nat, k ≤ md ∧ i0 = .int .i64 (k : Int) ∧ RW F w w3.heap.size wr { P with dt := mapTo (clr (pn : Int)) k p.dt } x3 ∧ FBox wr (w.heap.size + 2) fv) (fun i0 _ => md - (RowKit.intOf i0).toNat)
      case atStart =>
        obtain ⟨h9, f9, edv, hP, hPd, hmd, hfpg⟩ := H9.out
        refine ⟨0, Nat.zero_le _, rfl, ?_, f9⟩
        rw [mapTo_zero, ← hPd]
        exact h9
      case round =>
        obtain ⟨k, hk, rfl, hr, fr⟩ := hrel
        obtain ⟨wq, rfl⟩ : ∃ wq : World, wq = wr := ⟨_, rfl⟩
        obtain ⟨h9, f9, edv, hP, hPd, hmd, hfpg⟩ := H9.out
        have hk0 : (0 : Int) ≤ (k : Int) := by omega
        have b2r : wq.cell? ⟨w.heap.size, 2, none⟩ = some (.slice da md dc) := hr.box.cell 2 (by simp [rpcells, edv])
        rcases Nat.lt_or_eq_of_le hk with hlt | heq
        · obtain ⟨d, hd⟩ : ∃ d, p.dt[k]? = some d := ⟨_, List.getElem?_eq_getElem (by omega)⟩
          have hdk : (mapTo (clr (pn : Int)) k p.dt)[k]? = some d := by rw [mapTo_get, if_neg (by omega), hd]
          obtain ⟨dg, dc', edv', hdg, hdcl, hdz⟩ := hr.own.dcell (show ({ P with dt := mapTo (clr (pn : Int)) k p.dt } : RP).dt[k]? = some d from hdk)
          rw [show ({ P with dt := mapTo (clr (pn : Int)) k p.dt } : RP).dt.length = md from (mapTo_length _ _ _).trans hmd] at edv'
          rw [edv] at edv'
          injection edv' with e1 e2 e3
          subst e1 e3
          have hki : (k : Int) < (md : Int) := by omega
          have c0 := hdcl 0 _ (by decide) rfl
          rw [Nat.add_zero] at c0
          have c2 := hdcl 2 _ (by decide) rfl
          have z2 := hdz (k * 3 + 2)
          have p0 : wq.cell? ⟨w.heap.size + 2, 0, none⟩ = some (.int .i64 (pn : Int)) := fr.cell 0 (by rw [HR6.out]; rfl)
          obtain ⟨dp, hdp⟩ : ∃ dp, d.1 = dp := ⟨_, rfl⟩
          rw [hdp] at c0
          by_cases hpe : dp = (pn : Int)
          · have HM : Hid (∀ nq, RW F w w3.heap.size ((wq.drewN nq).setCell ⟨dg, k * 3 + 2, none⟩ (.bool false)) { P with dt := mapTo (clr (pn : Int)) (k + 1) p.dt } x3 ∧ FBox ((wq.drewN nq).setCell ⟨dg, k * 3 + 2, none⟩ (.bool false)) (w.heap.size + 2) fv) := by
              intro nq
              have hrd : RW F w w3.heap.size (wq.drewN nq) { P with dt := mapTo (clr (pn : Int)) k p.dt } x3 := hr.below (below_drewN (Below.refl _ _) nq)
              have h8 := hrd.setD (i := k) (k := 2) (d := d) (d' := clr (pn : Int) d) (u := .bool false) hdk (by decide) (by unfold clr; rw [if_pos (hdp.trans hpe)]; rfl) (c := dc) (by rw [edv]; exact congrArg (fun q => Value.slice (some ⟨dg, 0, none⟩) q dc) ((mapTo_length _ _ _).trans hmd).symm)
              simp only at h8
              rw [← mapTo_succ _ hd] at h8
              refine ⟨h8, (show FBox (wq.drewN nq) (w.heap.size + 2) fv from (below_drewN (Below.refl wq.heap.size wq) nq).block _ fr.lt |>.trans fr).keep (setCell_heap _ _ _ _ (by have h1 := hdg.1; obtain ⟨-, -, -, -, -, -, -, s3, -⟩ := HX.out; simp only; omega))⟩
            clear h9 f9 edv hP hPd hmd hfpg hdk hdcl hdz hr fr hd hdp hdg hk
            go_wp2_with fail
            go_quiet (fail)
            go_wp2
            go_roundw
            case rel => exact ⟨k + 1, by omega, by go_num, HM.out _⟩
            case measure => simp [RowKit.intOf]; omega
          · have HM : Hid (RW F w w3.heap.size wq { P with dt := mapTo (clr (pn : Int)) (k + 1) p.dt } x3 ∧ FBox wq (w.heap.size + 2) fv) := by
              have e9 : mapTo (clr (pn : Int)) (k + 1) p.dt = mapTo (clr (pn : Int)) k p.dt := by
                rw [mapTo_succ _ hd]
                apply List.ext_getElem?
                intro j
                rw [List.getElem?_set]
                by_cases ej : k = j
                · subst ej
                  rw [if_pos rfl, if_pos (by rw [mapTo_length]; omega), hdk]
                  unfold clr
                  rw [if_neg (fun h => hpe (hdp.symm.trans h))]
                · rw [if_neg ej]
              rw [e9]
              exact ⟨hr, fr⟩
            clear h9 f9 edv hP hPd hmd hfpg hdk hdcl hdz hr fr hd hdp hdg hk
            go_wp2_with fail
            go_quiet (fail)
            go_wp2
            go_roundw
            case rel => exact ⟨k + 1, by omega, by go_num, HM.out.1.below (below_drewN (Below.refl _ _) _), (below_drewN (Below.refl wq.heap.size wq) _).block _ HM.out.2.lt |>.trans HM.out.2⟩
            case measure => simp [RowKit.intOf]; omega
        · subst heq
          obtain ⟨w10, hw10, k10, ho10, hb10⟩ := hr.ret
          have hone10 := hr.own.one
          have kbx := hr.box
          have kres := hr.res
          obtain ⟨csz, hcsz⟩ : ∃ csz, rpcells { P with dt := mapTo (clr (pn : Int)) k p.dt } x3 = csz := ⟨_, rfl⟩
          have HI9 : Hid ((Tryz.prog.info? 36).map (·.size) = some csz.size) := by rw [← hcsz]; exact info6
          rw [hcsz] at hw10 k10 hone10 kbx
          have HFIN : Hid (PBox w10 (w.heap.size + 1) csz ∧ post (.returned (.agg csz)) w10) := by
            obtain ⟨h, hsm, hF, hf, hpost, hcs', hb3, s3, f3, hfv, hm, hfp, -⟩ := HX.out
            refine ⟨k10, ?_⟩
            have he : p.out i = { P with dt := mapTo (clr (pn : Int)) k p.dt } := by
              unfold RP.out
              rw [hfp]
              simp only
              rw [if_neg (by decide), ← hP, ← hmd, mapTo_all, hfv]
            rw [hpost]
            refine ⟨x3, by rw [he, hcsz], hb10, .inr ?_⟩
            rw [he]
            exact ho10
          have HKB := Lib.hid kbx
          have HKR := Lib.hid kres
          have HON := Lib.hid hone10
          clear h9 f9 edv hP hPd hmd hfpg hr fr k10 ho10 hb10 hone10 kbx kres hcsz HX
          go_wp2_with (first | (refine wpList_load_row rfl _ _ rfl w.heap.size rfl _ _ (0, 0) _ HKB.out Tryz.underlying36 rfl HI9.out ?_) | (refine wpList_store_row rfl _ _ _ rfl (w.heap.size + 1) _ rfl rfl _ _ HKR.out HI9.out (by have := HI9.out; rw [info6] at this; injection this) HON.out ?_; rw [hw10]))
          exact bodyPost_ret (by simp [results, Tryz.results76, asAddr, Act.put, run_loadVar_row w10 (w.heap.size + 1) 36 36 _ (0, 0) _ HFIN.out.1 Tryz.underlying36 rfl HI9.out]) rfl HFIN.out.2
end
end Mun
end

section
/- Unpin, Write, WriteAll of chapter 8's own pool. -/
set_option maxRecDepth 100000
set_option linter.unusedVariables false
set_option linter.unusedSimpArgs false
namespace Mun
open Go Go.RowKit
open Go.Proofs

structure RP.Ok (p : RP) : Prop where
  fb : ∀ f ∈ p.fr, 0 ≤ f.pg → f.pg < p.dk.length ∧ f.b.length = 512
  fc : ∀ f ∈ p.fr, f.chg = true → 0 ≤ f.pg
  dk : ∀ b ∈ p.dk, b.length = 512
  hand : p.hand < p.fr.length
  sm : p.Sm

theorem mem_set {α : Type} {l : List α} {i : Nat} {a y : α} (h : y ∈ l.set i a) : y ∈ l ∨ y = a := List.mem_or_eq_of_mem_set h

theorem RP.out_frl (p : RP) (i : Nat) : (p.out i).fr.length = p.fr.length := by
  unfold RP.out
  split
  · rfl
  · split
    · rfl
    · exact List.length_set
theorem RP.out_dkl (p : RP) (i : Nat) : (p.out i).dk.length = p.dk.length := by
  unfold RP.out
  split
  · rfl
  · split
    · rfl
    · exact List.length_set
theorem RP.out_dtl (p : RP) (i : Nat) : (p.out i).dt.length = p.dt.length := by
  unfold RP.out
  split
  · rfl
  · split
    · rfl
    · exact List.length_map ..
theorem RP.Ok.out {p : RP} (h : p.Ok) (i : Nat) : (p.out i).Ok := by
  have h1 := p.out_frl i
  have h2 := p.out_dkl i
  have h3 := p.out_dtl i
  have hsm := h.sm
  have hh : (p.out i).hand = p.hand := by
    unfold RP.out
    split
    · rfl
    · split <;> rfl
  have hfr : ∀ f ∈ (p.out i).fr, ∃ f0 ∈ p.fr, f.pg = f0.pg ∧ f.b = f0.b ∧ (f.chg = true → f0.chg = true) := by
    intro f hf
    unfold RP.out at hf
    split at hf
    · exact ⟨f, hf, rfl, rfl, id⟩
    · rename_i f1 hf1
      split at hf
      · exact ⟨f, hf, rfl, rfl, id⟩
      · rcases mem_set hf with hf | rfl
        · exact ⟨f, hf, rfl, rfl, id⟩
        · exact ⟨f1, List.mem_of_getElem? hf1, rfl, rfl, fun h9 => by cases h9⟩
  refine ⟨fun f hf h0 => ?_, fun f hf hc => ?_, fun b hb => ?_, by rw [hh, h1]; exact h.hand, ⟨by rw [h1]; exact hsm.fr, by rw [h3]; exact hsm.dt, by rw [h2]; exact hsm.dk⟩⟩
  · obtain ⟨f0, hf0, e1, e2, -⟩ := hfr f hf
    rw [h2, e1, e2]
    exact h.fb f0 hf0 (by omega)
  · obtain ⟨f0, hf0, e1, e2, e3⟩ := hfr f hf
    rw [e1]
    exact h.fc f0 hf0 (e3 hc)
  · unfold RP.out at hb
    split at hb
    · exact h.dk b hb
    · rename_i f1 hf1
      split at hb
      · exact h.dk b hb
      · rename_i hc
        rcases mem_set hb with hb | rfl
        · exact h.dk b hb
        · have hm := List.mem_of_getElem? hf1
          exact (h.fb f1 hm (h.fc f1 hm (by simpa using hc))).2
theorem RP.Ok.outA {p : RP} (h : p.Ok) {f : RF} (hf : f ∈ p.fr) (hc : f.chg = true) : (0 ≤ f.pg ∧ f.pg < p.dk.length) ∧ f.b.length = 512 :=
  have h0 := h.fc f hf hc
  ⟨⟨h0, (h.fb f hf h0).1⟩, (h.fb f hf h0).2⟩

/-- what a step of the reference tells: the pool, and more -/
def REnd (F : Foot) (w : World) (p' : RP) (mk : Value → Value) (e : Ending) (w' : World) : Prop := ∃ x', e = .returned (mk (.agg (rpcells p' x'))) ∧ RAt F w' p' x' ∧ Below w.heap.size w w'
abbrev withE (c : Int) (v : Value) : Value := .tuple #[v, .int .i64 c]

def RP.setF (p : RP) (i : Nat) (f : RF) : RP := { p with fr := p.fr.set i f }
def RP.unpin (p : RP) (n : Int) : RP × Int := match p.held n with
  | none => (p, 18)
  | some i => match p.fr[i]? with
    | none => (p, 18)
    | some f => (p.setF i { f with pins := f.pins - 1 }, 0)
def RP.write (p : RP) (n : Int) : RP × Int := if n < 0 then (p, 18) else match p.find n with
  | none => (p, 18)
  | some i => (p.out i, 0)
theorem RP.held_some {p : RP} {n : Int} {i : Nat} (h : p.held n = some i) : 0 ≤ n ∧ p.find n = some i ∧ ∃ f, p.fr[i]? = some f ∧ 0 < f.pins := by
  unfold RP.held at h
  split at h
  · cases h
  · rename_i hn
    cases hf : p.find n with
    | none => rw [hf] at h; cases h
    | some j =>
      rw [hf] at h
      simp only at h
      split at h
      · cases h
      · rename_i hp
        injection h with h
        subst h
        refine ⟨by omega, rfl, _, List.getElem?_eq_getElem (RP.find_lt hf), ?_⟩
        rw [List.getElem?_eq_getElem (RP.find_lt hf)] at hp
        simp only [Option.map_some, Option.getD_some] at hp
        omega

section
variable {F : Foot} {w : World} {p : RP} {x : RPV}

set_option maxHeartbeats 2000000 in
theorem rp_unpin (h : RAt F w p x) (hok : p.Ok) (hF : ∀ k, F k → k < w.heap.size) (hpins : ∀ f ∈ p.fr, f.pins ≤ 8796093022208) (n : Int) :
    Calls Tryz.prog 34 #[.agg (rpcells p x), .int .i64 n] w (REnd F w (p.unpin n).1 (withE (p.unpin n).2)) := by
  obtain ⟨w1, hw1, hb1, k0, k1, s1⟩ := rp_boxes w (rpcells p x) rfl
  have h1 := h.below hb1
  have hhd := rp_held h1 hok.sm.fr n
  obtain ⟨cs, hcs⟩ : ∃ cs, rpcells p x = cs := ⟨_, rfl⟩
  have HI6 : Hid ((Tryz.prog.info? 36).map (·.size) = some cs.size) := by rw [← hcs]; exact info6
  have hone := h.one
  rw [hcs] at hw1 hhd k0 hone ⊢
  obtain ⟨post, hpost⟩ : ∃ post : Ending → World → Prop, post = REnd F w (p.unpin n).1 (withE (p.unpin n).2) := ⟨_, rfl⟩
  rw [← hpost]
  have HHD := Lib.hid hhd
  have HK0 := Lib.hid k0
  have HONE := Lib.hid hone
  have HX := Lib.hid (And.intro h (And.intro hok (And.intro hF (And.intro hb1 (And.intro k1 (And.intro s1 (And.intro hcs (And.intro hpost hpins))))))))
  clear h hok hF hb1 k0 k1 s1 h1 hcs hpost hone hhd hpins
  unfold Z6 at hw1
  go_enter Tryz.func34, Tryz.ntmps34
  go_wp2_with (first | rw [hw1] | (refine wpList_load_row rfl _ _ rfl w.heap.size rfl _ _ (0, 0) _ HK0.out Tryz.underlying36 rfl HI6.out ?_))
  refine HHD.out.mono ?_
  rintro e w2 ⟨rfl, hb2⟩
  have hk02 : PBox w2 w.heap.size cs := PBox.below HK0.out hb2 (PBox.lt HK0.out)
  have HK2 := Lib.hid hk02
  cases hh : p.held n with
  | none =>
    obtain ⟨w3, hw3⟩ : ∃ w3, w2.setRow (w.heap.size + 1) cs = w3 := ⟨_, rfl⟩
    have HFIN : Hid (PBox w2 (w.heap.size + 1) Z6 ∧ PBox w3 (w.heap.size + 1) cs ∧ post (.returned (.tuple #[.agg cs, .int .i64 18])) w3) := by
      obtain ⟨h, hok, hF, hb1, k1, s1, hcs, hpost, hpins⟩ := HX.out
      have k12 := k1.below hb2 k1.lt
      have hb3 : Below w.heap.size w w3 := by rw [← hw3]; exact below_setRow (hb1.trans (hb2.mono hb1.size)) (by omega) _
      refine ⟨k12, by rw [← hw3]; exact k12.row _, ?_⟩
      have he : p.unpin n = (p, 18) := by unfold RP.unpin; rw [hh]
      rw [hpost, he]
      exact ⟨x, by rw [hcs], h.below hb3, hb3⟩
    clear HX HHD hk02 hb2
    simp only [idxV]
    go_wp2_with (first | (refine wpList_load_row rfl _ _ rfl w.heap.size rfl _ _ (0, 0) _ HK2.out Tryz.underlying36 rfl HI6.out ?_) | (refine wpList_store_row rfl _ _ _ rfl (w.heap.size + 1) _ rfl rfl _ _ HFIN.out.1 HI6.out (by have := HI6.out; rw [info6] at this; injection this) HONE.out ?_; rw [hw3]))
    exact bodyPost_ret (v := .tuple #[.agg cs, .int .i64 18]) (by simp [results, Tryz.results34, asAddr, Act.put, run_loadVar_row w3 (w.heap.size + 1) 36 36 _ (0, 0) _ HFIN.out.2.1 Tryz.underlying36 rfl HI6.out]) rfl HFIN.out.2.2
  | some i =>
    have hbw2 : Below w.heap.size w w2 := by obtain ⟨h, hok, hF, hb1, -⟩ := HX.out; exact hb1.trans (hb2.mono hb1.size)
    have hcp : Calls Tryz.prog 74 #[.agg cs] w2 (CpPost (inF F w w2.heap.size) w2 p x) := by
      obtain ⟨h, hok, hF, hb1, k1, s1, hcs, hpost, hpins⟩ := HX.out
      rw [← hcs]
      exact rp_copied (h.inF hbw2 _) hok.sm (inF_lt hF hbw2)
    have HCP := Lib.hid hcp
    have HB2 := Lib.hid hb2
    have hi0 : (0 : Int) ≤ (i : Int) := by omega
    have hin : ¬ (i : Int) < 0 := by omega
    clear hcp hk02 HHD hb2
    simp only [idxV]
    go_wp2_with (first | (refine wpList_load_row rfl _ _ rfl w.heap.size rfl _ _ (0, 0) _ HK2.out Tryz.underlying36 rfl HI6.out ?_))
    refine HCP.out.mono ?_
    rintro e w4 ⟨x1, rfl, hx1f, hx1k, ho4, hb4⟩
    obtain ⟨h, hok, hF, hb1, k1, s1, hcs, hpost, hpins⟩ := HX.out
    obtain ⟨hn0, hfi, f, hfp, hfpin⟩ := RP.held_some hh
    obtain ⟨w5, hw5⟩ : ∃ w5, w4.setRow w.heap.size (rpcells p x1) = w5 := ⟨_, rfl⟩
    have h5 : RW F w w2.heap.size w5 p x1 := RW.start h hF hbw2 (show PBox w2 w.heap.size (rpcells p x) by rw [hcs]; exact HK2.out) (k1.below HB2.out k1.lt) ho4 hb4 hw5
    have hon1 := ho4.one
    have kb4 : PBox w4 w.heap.size cs := PBox.below HK2.out hb4 (PBox.lt HK2.out)
    have hxl := h5.len.1
    obtain ⟨fv, hfv, hfv1⟩ := h5.rat.at_ (List.getElem?_eq_some_iff.1 hfp).1
    rw [hfp] at hfv1
    injection hfv1 with hfv1
    obtain ⟨fg, fc, efv, hfg, hfcl, hfz⟩ := h5.own.fcell hfv
    obtain ⟨m, hm⟩ : ∃ m, x1.fs.length = m := ⟨_, rfl⟩
    have him : (i : Int) < (m : Int) := by have := (List.getElem?_eq_some_iff.1 hfp).1; omega
    have a0 : w5.cell? ⟨w.heap.size, 0, none⟩ = some (.slice (some ⟨fg, 0, none⟩) m fc) := h5.box.cell 0 (by simp [rpcells, efv, hm])
    obtain ⟨pn, hpn⟩ : ∃ pn, f.pins = pn := ⟨_, rfl⟩
    have hfpn : fv.1.pins = pn := by rw [← hfv1]; exact hpn
    have a1 : w5.cell? ⟨fg, i * 6 + 1, none⟩ = some (.int .i64 (pn : Int)) := hfcl 1 _ (by decide) (by rw [← hfpn]; rfl)
    have z1 := hfz (i * 6 + 1)
    have hp1 : (1 : Int) ≤ (pn : Int) := by omega
    have hp2 : (pn : Int) ≤ 8796093022208 := by have := hpins f (List.mem_of_getElem? hfp); omega
    obtain ⟨w6, hw6⟩ : ∃ w6, w5.setCell ⟨fg, i * 6 + 1, none⟩ (.int .i64 ((pn : Int) - 1)) = w6 := ⟨_, rfl⟩
    have h6 : RW F w w2.heap.size w6 (p.setF i { f with pins := f.pins - 1 }) { x1 with fs := x1.fs.set i ({ fv.1 with pins := pn - 1 }, fv.2) } := by
      have h9 := h5.setF (i := i) (k := 1) (f := fv) (f' := ({ fv.1 with pins := pn - 1 }, fv.2)) (u := .int .i64 ((pn : Int) - 1)) hfv (by decide) (by
        show _ = r6 _
        unfold r6
        simp only [List.set_cons_succ, List.set_cons_zero]
        rw [show (((pn - 1 : Nat) : Int)) = (pn : Int) - 1 by omega]) (h5.own.fb fv (List.mem_of_getElem? hfv)) efv
      rw [hw6] at h9
      have e1 : p.setF i { f with pins := f.pins - 1 } = { p with fr := p.fr.set i { fv.1 with pins := pn - 1 } } := by unfold RP.setF; rw [hfv1, hfpn]
      rw [e1]
      exact h9
    obtain ⟨p6, hp6⟩ : ∃ p6, p.setF i { f with pins := f.pins - 1 } = p6 := ⟨_, rfl⟩
    have he : p.unpin n = (p6, 0) := by unfold RP.unpin; rw [hh]; simp only [hfp]; rw [hp6]
    obtain ⟨x6, hx6⟩ : ∃ x6 : RPV, x6 = { x1 with fs := x1.fs.set i ({ fv.1 with pins := pn - 1 }, fv.2) } := ⟨_, rfl⟩
    rw [hp6, ← hx6] at h6
    obtain ⟨w7, hw7, k7, ho7, hb7⟩ := h6.ret
    have hone7 := h6.own.one
    have kbx := h6.box
    have kres := h6.res
    have HSZ1 : Hid ((Tryz.prog.info? 36).map (·.size) = some (rpcells p x1).size) := rp_size p x1
    have HSZ6 : Hid ((Tryz.prog.info? 36).map (·.size) = some (rpcells p6 x6).size) := rp_size p6 x6
    obtain ⟨cs1, hcs1⟩ : ∃ cs1, rpcells p x1 = cs1 := ⟨_, rfl⟩
    obtain ⟨cs6, hcs6⟩ : ∃ cs6, rpcells p6 x6 = cs6 := ⟨_, rfl⟩
    have hfin : post (.returned (.tuple #[.agg cs6, .int .i64 0])) w7 := by
      rw [hpost, he, ← hcs6]
      exact ⟨x6, rfl, ho7.rat (fun _ h => h), hb7⟩
    rw [hcs1] at hw5 hon1 HSZ1 ⊢
    rw [hcs6] at hw7 k7 hone7 kbx HSZ6
    have HKB4 := Lib.hid kb4
    have HON1 := Lib.hid hon1
    have HON7 := Lib.hid hone7
    have HKBX := Lib.hid kbx
    have HKRS := Lib.hid kres
    have HFIN := Lib.hid (And.intro k7 hfin)
    clear h hok hF hb1 k1 s1 hcs hpost hpins hn0 hfi hfp hfpin h5 hon1 kb4 hxl hfv hfv1 efv hfg hfcl hfz hm hpn hfpn h6 hp6 he hx6 k7 ho7 hb7 hone7 kbx kres hcs1 hcs6 hfin ho4 hb4 hbw2 hx1f hx1k HX hh
    go_wp2_with (first | (refine wpList_store_row rfl _ _ _ rfl w.heap.size _ rfl rfl _ _ HKB4.out HSZ1.out (by have h1 := HI6.out; have h2 := HSZ1.out; rw [info6] at h1 h2; injection h1 with h1; injection h2 with h2; omega) HON1.out ?_; rw [hw5]) | (refine wpList_load_row rfl _ _ rfl w.heap.size rfl _ _ (0, 0) _ HKBX.out Tryz.underlying36 rfl HSZ6.out ?_) | (refine wpList_store_row rfl _ _ _ rfl (w.heap.size + 1) _ rfl rfl _ _ HKRS.out HSZ6.out (by have := HSZ6.out; rw [info6] at this; injection this) HON7.out ?_; rw [hw7]))
    exact bodyPost_ret (v := .tuple #[.agg cs6, .int .i64 0]) (by simp [results, Tryz.results34, asAddr, Act.put, run_loadVar_row w7 (w.heap.size + 1) 36 36 _ (0, 0) _ HFIN.out.1 Tryz.underlying36 rfl HSZ6.out]) rfl HFIN.out.2
end
end Mun
end

section
/- Write, WriteAll, Sync of chapter 8's own pool. -/
set_option maxRecDepth 100000
set_option linter.unusedVariables false
set_option linter.unusedSimpArgs false
namespace Mun
open Go Go.RowKit
open Go.Proofs

/-- the pages 0 .. k-1 that are held, written out -/
def RP.outsN (p : RP) : Nat → RP
  | 0 => p
  | k + 1 => match (p.outsN k).find (k : Int) with
    | none => p.outsN k
    | some i => (p.outsN k).out i
def RP.writeAll (p : RP) : RP := p.outsN p.dk.length
def RP.sync (p : RP) : RP := { p with dt := p.dt.filter (·.2.2) }
theorem RP.Ok.outsN {p : RP} (h : p.Ok) : ∀ k, (p.outsN k).Ok ∧ (p.outsN k).dk.length = p.dk.length
  | 0 => ⟨h, rfl⟩
  | k + 1 => by
    obtain ⟨h1, h2⟩ := RP.Ok.outsN h k
    unfold RP.outsN
    split
    · exact ⟨h1, h2⟩
    · exact ⟨h1.out _, (RP.out_dkl _ _).trans h2⟩

/-- a pool in a box, whoever owns its rows -/
structure RB (F : Foot) (w0 w : World) (p : RP) (x : RPV) : Prop where
  bl : Below w0.heap.size w0 w
  box : PBox w w0.heap.size (rpcells p x)
  res : PBox w (w0.heap.size + 1) Z6
  at_ : RAt (inF F w0 (w0.heap.size + 2)) w p x
  hF : ∀ k, F k → k < w0.heap.size

section
variable {F : Foot} {w0 w w' : World} {p p' : RP} {x x' : RPV}
theorem RB.below (h : RB F w0 w p x) (hb : Below w.heap.size w w') : RB F w0 w' p x :=
  ⟨h.bl.trans (hb.mono h.bl.size), h.box.below hb h.box.lt, h.res.below hb h.res.lt, h.at_.below hb, h.hF⟩
theorem RB.lo (h : RB F w0 w p x) : ∀ k, inF F w0 (w0.heap.size + 2) k → k < w.heap.size := fun k hk => by
  have h1 := h.res.lt
  rcases hk with hk | hk
  · have := h.hF k hk; omega
  · omega
/-- a call gave another pool, and the box is laid anew -/
theorem RB.step (h : RB F w0 w p x) (hb : Below w.heap.size w w') (ha : RAt (inF F w0 (w0.heap.size + 2)) w' p' x') : RB F w0 (w'.setRow w0.heap.size (rpcells p' x')) p' x' :=
  ⟨below_setRow (h.bl.trans (hb.mono h.bl.size)) (Nat.le_refl _) _, (h.box.below hb h.box.lt).row _, (h.res.below hb h.res.lt).rowNe _ (by omega), ha.keep (fun k hk hn => setRow_ne _ _ _ _ (fun e => hn (.inr ⟨by omega, by omega⟩))) (fun _ _ h => h), h.hF⟩
theorem RB.ret (h : RB F w0 w p x) : ∃ w6, w.setRow (w0.heap.size + 1) (rpcells p x) = w6 ∧ PBox w6 (w0.heap.size + 1) (rpcells p x) ∧ RAt F w6 p x ∧ Below w0.heap.size w0 w6 :=
  ⟨_, rfl, h.res.row _, h.at_.keep (fun k hk hn => setRow_ne _ _ _ _ (fun e => hn (.inr ⟨by omega, by omega⟩))) (fun _ _ h => .inl h), below_setRow h.bl (by omega) _⟩
theorem OutP.rat {i : Nat} {e : Ending} (h : RAt F w p x) (ho : OutP F w p x i e w') : ∃ x', e = .returned (.agg (rpcells (p.out i) x')) ∧ Below w.heap.size w w' ∧ RAt F w' (p.out i) x' := by
  obtain ⟨x', he, hb, h1 | h1⟩ := ho
  · refine ⟨x', he, hb, ?_⟩
    rw [h1.1, h1.2]
    exact h.below hb
  · exact ⟨x', he, hb, h1.rat (fun _ h => h)⟩
theorem RB.start (h : RAt F w p x) (hF : ∀ k, F k → k < w.heap.size) {w1 : World} (hb1 : Below w.heap.size w w1) (k0 : PBox w1 w.heap.size (rpcells p x)) (k1 : PBox w1 (w.heap.size + 1) Z6) : RB F w w1 p x := ⟨hb1, k0, k1, h.inF hb1 _, hF⟩

set_option maxHeartbeats 2000000 in
theorem rp_write (h : RAt F w p x) (hok : p.Ok) (hF : ∀ k, F k → k < w.heap.size) (n : Int) :
    Calls Tryz.prog 36 #[.agg (rpcells p x), .int .i64 n] w (REnd F w (p.write n).1 (withE (p.write n).2)) := by
  obtain ⟨w1, hw1, hb1, k0, k1, s1⟩ := rp_boxes w (rpcells p x) rfl
  have hB1 := RB.start h hF hb1 k0 k1
  have hfi := rp_find hB1.at_ hok.sm.fr n
  obtain ⟨cs, hcs⟩ : ∃ cs, rpcells p x = cs := ⟨_, rfl⟩
  have HI6 : Hid ((Tryz.prog.info? 36).map (·.size) = some cs.size) := by rw [← hcs]; exact info6
  have hone := h.one
  rw [hcs] at hw1 hfi k0 hone ⊢
  obtain ⟨post, hpost⟩ : ∃ post : Ending → World → Prop, post = REnd F w (p.write n).1 (withE (p.write n).2) := ⟨_, rfl⟩
  rw [← hpost]
  have HFI := Lib.hid hfi
  have HK0 := Lib.hid k0
  have HONE := Lib.hid hone
  have HX := Lib.hid (And.intro hok (And.intro hB1 (And.intro hcs hpost)))
  clear h hok hF hb1 k0 k1 s1 hcs hpost hone hfi hB1
  unfold Z6 at hw1
  go_enter Tryz.func36, Tryz.ntmps36
  go_wp2_with (first | rw [hw1] | (refine wpList_load_row rfl _ _ rfl w.heap.size rfl _ _ (0, 0) _ HK0.out Tryz.underlying36 rfl HI6.out ?_))
  refine HFI.out.mono ?_
  rintro e w2 ⟨rfl, hb2⟩
  have hk02 : PBox w2 w.heap.size cs := PBox.below HK0.out hb2 (PBox.lt HK0.out)
  have HK2 := Lib.hid hk02
  by_cases hno : n < 0 ∨ p.find n = none
  · obtain ⟨w3, hw3⟩ : ∃ w3, w2.setRow (w.heap.size + 1) cs = w3 := ⟨_, rfl⟩
    have HFIN : Hid (PBox w2 (w.heap.size + 1) Z6 ∧ PBox w3 (w.heap.size + 1) cs ∧ post (.returned (.tuple #[.agg cs, .int .i64 18])) w3) := by
      obtain ⟨hok, hB1, hcs, hpost⟩ := HX.out
      have hB2 := hB1.below hb2
      obtain ⟨w4, hw4, k4, ha4, hb4⟩ := hB2.ret
      rw [hcs] at hw4 k4
      rw [hw3] at hw4
      subst hw4
      refine ⟨hB2.res, k4, ?_⟩
      have he : p.write n = (p, 18) := by
        unfold RP.write
        rcases hno with h9 | h9
        · rw [if_pos h9]
        · split
          · rfl
          · rw [h9]
      rw [hpost, he]
      exact ⟨x, by rw [hcs], ha4, hb4⟩
    have hcs2 : n < 0 ∨ (¬ n < 0 ∧ p.find n = none) := by
      rcases hno with h9 | h9
      · exact .inl h9
      · by_cases h8 : n < 0
        · exact .inl h8
        · exact .inr ⟨h8, h9⟩
    clear HX HFI hk02 hb2 hno
    rcases hcs2 with hn | ⟨hn, hf⟩
    · go_wp2_with (first | (refine wpList_load_row rfl _ _ rfl w.heap.size rfl _ _ (0, 0) _ HK2.out Tryz.underlying36 rfl HI6.out ?_) | (refine wpList_store_row rfl _ _ _ rfl (w.heap.size + 1) _ rfl rfl _ _ HFIN.out.1 HI6.out (by have := HI6.out; rw [info6] at this; injection this) HONE.out ?_; rw [hw3]))
      exact bodyPost_ret (v := .tuple #[.agg cs, .int .i64 18]) (by simp [results, Tryz.results36, asAddr, Act.put, run_loadVar_row w3 (w.heap.size + 1) 36 36 _ (0, 0) _ HFIN.out.2.1 Tryz.underlying36 rfl HI6.out]) rfl HFIN.out.2.2
    · rw [hf]
      simp only [idxV]
      clear hf
      go_wp2_with (first | (refine wpList_load_row rfl _ _ rfl w.heap.size rfl _ _ (0, 0) _ HK2.out Tryz.underlying36 rfl HI6.out ?_) | (refine wpList_store_row rfl _ _ _ rfl (w.heap.size + 1) _ rfl rfl _ _ HFIN.out.1 HI6.out (by have := HI6.out; rw [info6] at this; injection this) HONE.out ?_; rw [hw3]))
      exact bodyPost_ret (v := .tuple #[.agg cs, .int .i64 18]) (by simp [results, Tryz.results36, asAddr, Act.put, run_loadVar_row w3 (w.heap.size + 1) 36 36 _ (0, 0) _ HFIN.out.2.1 Tryz.underlying36 rfl HI6.out]) rfl HFIN.out.2.2
  · have hn : ¬ n < 0 := fun h => hno (.inl h)
    obtain ⟨i, hf⟩ : ∃ i, p.find n = some i := Option.ne_none_iff_exists'.1 (fun h => hno (.inr h))
    clear hno
    have HB2 : Hid (RB F w w2 p x) := by obtain ⟨hok, hB1, hcs, hpost⟩ := HX.out; exact hB1.below hb2
    obtain ⟨fv, hfv, hfv1⟩ : ∃ f : RFV, x.fs[i]? = some f ∧ p.fr[i]? = some f.1 := by obtain ⟨hok, hB1, hcs, hpost⟩ := HX.out; exact hB1.at_.at_ (RP.find_lt hf)
    have hot : Calls Tryz.prog 76 #[.agg cs, .int .i64 i] w2 (OutP (inF F w (w.heap.size + 2)) w2 p x i) := by
      obtain ⟨hok, hB1, hcs, hpost⟩ := HX.out
      rw [← hcs]
      exact rp_out HB2.out.at_ hok.sm HB2.out.lo i fv hfv (fun hc => hok.outA (List.mem_of_getElem? hfv1) hc)
    have HOT := Lib.hid hot
    have hi0 : ¬ (i : Int) < 0 := by omega
    have he : p.write n = (p.out i, 0) := by unfold RP.write; rw [if_neg hn, hf]
    have HE := Lib.hid he
    rw [hf]
    simp only [idxV]
    clear hot hk02 HFI hb2 hfv hfv1 hf he
    go_wp2_with (first | (refine wpList_load_row rfl _ _ rfl w.heap.size rfl _ _ (0, 0) _ HK2.out Tryz.underlying36 rfl HI6.out ?_))
    refine HOT.out.mono ?_
    rintro e w3 ho
    obtain ⟨x3, rfl, hb3, ha3⟩ := OutP.rat HB2.out.at_ ho
    obtain ⟨p3, hp3⟩ : ∃ p3, p.out i = p3 := ⟨_, rfl⟩
    rw [hp3] at ha3 HE ⊢
    obtain ⟨w4, hw4⟩ : ∃ w4, w3.setRow (w.heap.size + 1) (rpcells p3 x3) = w4 := ⟨_, rfl⟩
    have HI3 : Hid ((Tryz.prog.info? 36).map (·.size) = some (rpcells p3 x3).size) := rp_size p3 x3
    have HON3 := Lib.hid ha3.one
    have HFIN : Hid (PBox w3 (w.heap.size + 1) Z6 ∧ PBox w4 (w.heap.size + 1) (rpcells p3 x3) ∧ post (.returned (.tuple #[.agg (rpcells p3 x3), .int .i64 0])) w4) := by
      obtain ⟨hok, hB1, hcs, hpost⟩ := HX.out
      have k3 := HB2.out.res.below hb3 HB2.out.res.lt
      refine ⟨k3, by rw [← hw4]; exact k3.row _, ?_⟩
      rw [hpost, HE.out]
      refine ⟨x3, rfl, ?_, ?_⟩
      · rw [← hw4]; exact ha3.keep (fun k hk hn => setRow_ne _ _ _ _ (fun e => hn (.inr ⟨by omega, by omega⟩))) (fun _ _ h => .inl h)
      · rw [← hw4]; exact below_setRow (HB2.out.bl.trans (hb3.mono HB2.out.bl.size)) (by omega) _
    obtain ⟨cs3, hcs3⟩ : ∃ cs3, rpcells p3 x3 = cs3 := ⟨_, rfl⟩
    rw [hcs3] at hw4 HI3 HON3 HFIN ⊢
    clear HX HE HB2 HOT HK2 HK0 ho hp3 hb3 ha3 hcs3
    go_wp2_with (first | (refine wpList_store_row rfl _ _ _ rfl (w.heap.size + 1) _ rfl rfl _ _ HFIN.out.1 HI3.out (by have := HI3.out; rw [info6] at this; injection this) HON3.out ?_; rw [hw4]))
    exact bodyPost_ret (v := .tuple #[.agg cs3, .int .i64 0]) (by simp [results, Tryz.results36, asAddr, Act.put, run_loadVar_row w4 (w.heap.size + 1) 36 36 _ (0, 0) _ HFIN.out.2.1 Tryz.underlying36 rfl HI3.out]) rfl HFIN.out.2.2

set_option maxHeartbeats 2000000 in
theorem rp_writeAll (h : RAt F w p x) (hok : p.Ok) (hF : ∀ k, F k → k < w.heap.size) :
    Calls Tryz.prog 37 #[.agg (rpcells p x)] w (REnd F w p.writeAll id) := by
  obtain ⟨w1, hw1, hb1, k0, k1, s1⟩ := rp_boxes w (rpcells p x) rfl
  have hB1 := RB.start h hF hb1 k0 k1
  obtain ⟨cs, hcs⟩ : ∃ cs, rpcells p x = cs := ⟨_, rfl⟩
  rw [hcs] at hw1 ⊢
  obtain ⟨post, hpost⟩ : ∃ post : Ending → World → Prop, post = REnd F w p.writeAll id := ⟨_, rfl⟩
  rw [← hpost]
  obtain ⟨kn, hkn⟩ : ∃ kn, p.dk.length = kn := ⟨_, rfl⟩
  have hkl : (kn : Int) ≤ 1024 := by have := hok.sm.dk; omega
  have hkl0 : (0 : Int) ≤ (kn : Int) := by omega
  obtain ⟨ka, kc, ekv, -, -⟩ := hB1.at_.ks.form
  rw [show x.ks.length = kn by rw [← hkn, ← h.kps, List.length_map]] at ekv
  have q3 : w1.cell? ⟨w.heap.size, 3, none⟩ = some (.slice ka kn kc) := k0.cell 3 (by simp [rpcells, ekv])
  have HX := Lib.hid (And.intro hok (And.intro hB1 (And.intro hcs (And.intro hpost hkn))))
  clear h hok hF hb1 k0 k1 s1 hcs hpost hB1 hkn ekv
  unfold Z6 at hw1
  go_enter Tryz.func37, Tryz.ntmps37
  go_wp2_with (first | rw [hw1])
  go_loopw [3, 4] (fun i0 _ wr => ∃ (k : Nat) (xr : RPV), k ≤ kn ∧ i0 = .int .i64 (k : Int) ∧ RB F w wr (p.outsN k) xr) (fun i0 _ _ => kn - (RowKit.intOf i0).toNat)
  case atStart => exact ⟨0, x, Nat.zero_le _, rfl, HX.out.2.1⟩
  case round =>
    obtain ⟨k, xr, hk, rfl, hr⟩ := hrel
    obtain ⟨wq, rfl⟩ : ∃ wq : World, wq = wr := ⟨_, rfl⟩
    obtain ⟨hok, hB1, hcs, hpost, hkn⟩ := HX.out
    obtain ⟨hokk, hdkk⟩ := hok.outsN k
    have hk0 : (0 : Int) ≤ (k : Int) := by omega
    obtain ⟨ka, kc, ekv, -, -⟩ := hr.at_.ks.form
    rw [show xr.ks.length = kn by rw [← hkn, ← hdkk, ← hr.at_.kps, List.length_map]] at ekv
    have q3r : wq.cell? ⟨w.heap.size, 3, none⟩ = some (.slice ka kn kc) := hr.box.cell 3 (by simp [rpcells, ekv])
    obtain ⟨q, hq⟩ : ∃ q, p.outsN k = q := ⟨_, rfl⟩
    rw [hq] at hr hokk hdkk
    have hbx := hr.box
    have hone := hr.at_.one
    have hsz := rp_size q xr
    obtain ⟨csr, hcsr⟩ : ∃ csr, rpcells q xr = csr := ⟨_, rfl⟩
    rcases Nat.lt_or_eq_of_le hk with hlt | heq
    · have hfi := rp_find hr.at_ hokk.sm.fr (k : Int)
      have hki : (k : Int) < (kn : Int) := by omega
      rw [hcsr] at hbx hone hsz hfi
      have HBX := Lib.hid hbx
      have HSZ := Lib.hid hsz
      have HFI := Lib.hid hfi
      have HR := Lib.hid (And.intro hr (And.intro hokk (And.intro hq hcsr)))
      clear hr hokk hdkk hq hbx hone hsz hcsr hfi hok hB1 hcs hpost hkn ekv hk
      go_wp2_with (first | (refine wpList_load_row rfl _ _ rfl w.heap.size rfl _ _ (0, 0) _ HBX.out Tryz.underlying36 rfl HSZ.out ?_))
      refine HFI.out.mono ?_
      rintro e w2 ⟨rfl, hb2⟩
      obtain ⟨hr, hokk, hq, hcsr⟩ := HR.out
      have hr2 := hr.below hb2
      cases hf : q.find (k : Int) with
      | none =>
        have HM : Hid (RB F w w2 (p.outsN (k + 1)) xr) := by
          have e9 : p.outsN (k + 1) = q := by unfold RP.outsN; rw [hq, hf]
          rw [e9]; exact hr2
        clear hr hokk hq hcsr hr2 hf hb2 HR HFI HSZ HBX
        simp only [idxV]
        go_wp2
        go_roundw
        case rel => exact ⟨k + 1, xr, by omega, by go_num, HM.out⟩
        case measure => simp [RowKit.intOf]; omega
      | some i =>
        obtain ⟨fv, hfv, hfv1⟩ := hr2.at_.at_ (RP.find_lt hf)
        have hot : Calls Tryz.prog 76 #[.agg csr, .int .i64 i] w2 (OutP (inF F w (w.heap.size + 2)) w2 q xr i) := by
          rw [← hcsr]
          exact rp_out hr2.at_ hokk.sm hr2.lo i fv hfv (fun hc => hokk.outA (List.mem_of_getElem? hfv1) hc)
        have hbx2 : PBox w2 w.heap.size csr := by rw [← hcsr]; exact hr2.box
        have HOT := Lib.hid hot
        have HB2 := Lib.hid hbx2
        have HR2 := Lib.hid hr2
        have hi0 : (0 : Int) ≤ (i : Int) := by omega
        have HE : Hid (p.outsN (k + 1) = q.out i) := by show _ = _; unfold RP.outsN; rw [hq, hf]
        clear hr hokk hq hcsr hr2 hf hb2 HR HFI HBX hot hbx2 hfv hfv1
        simp only [idxV]
        go_wp2_with (first | (refine wpList_load_row rfl _ _ rfl w.heap.size rfl _ _ (0, 0) _ HB2.out Tryz.underlying36 rfl HSZ.out ?_))
        refine HOT.out.mono ?_
        rintro e w3 ho
        obtain ⟨x3, rfl, hb3, ha3⟩ := OutP.rat HR2.out.at_ ho
        have hr3 := HR2.out.step hb3 ha3
        rw [← HE.out] at ha3 hr3 ⊢
        have HI3 : Hid ((Tryz.prog.info? 36).map (·.size) = some (rpcells (p.outsN (k + 1)) x3).size) := rp_size _ x3
        have HON3 := Lib.hid ha3.one
        obtain ⟨p3, hp3⟩ : ∃ p3, p.outsN (k + 1) = p3 := ⟨_, rfl⟩
        rw [hp3] at hr3 HI3 HON3 ⊢
        obtain ⟨w4, hw4⟩ : ∃ w4, w3.setRow w.heap.size (rpcells p3 x3) = w4 := ⟨_, rfl⟩
        rw [hw4] at hr3
        have HB3 : Hid (PBox w3 w.heap.size csr) := PBox.below HB2.out hb3 (PBox.lt HB2.out)
        have HM : Hid (RB F w w4 (p.outsN (k + 1)) x3) := by rw [hp3]; exact hr3
        obtain ⟨cs3, hcs3⟩ : ∃ cs3, rpcells p3 x3 = cs3 := ⟨_, rfl⟩
        rw [hcs3] at hw4 HI3 HON3 ⊢
        clear ho hb3 ha3 hr3 hp3 hcs3 HE HR2 HOT HB2
        go_wp2_with (first | (refine wpList_store_row rfl _ _ _ rfl w.heap.size _ rfl rfl _ _ HB3.out HI3.out (by have h1 := HI3.out; have h2 := HSZ.out; rw [info6] at h1 h2; injection h1 with h1; injection h2 with h2; omega) HON3.out ?_; rw [hw4]))
        go_roundw
        case rel => exact ⟨k + 1, x3, by omega, by go_num, HM.out⟩
        case measure => simp [RowKit.intOf]; omega
    · subst heq
      obtain ⟨w6, hw6, k6, ha6, hb6⟩ := hr.ret
      have hrs := hr.res
      rw [hcsr] at hw6 k6 hbx hone hsz
      have hfin : post (.returned (.agg csr)) w6 := by
        rw [hpost]
        have e9 : p.writeAll = q := by unfold RP.writeAll; rw [hkn]; exact hq
        rw [e9]
        exact ⟨xr, by rw [hcsr]; rfl, ha6, hb6⟩
      have HBX := Lib.hid hbx
      have HSZ := Lib.hid hsz
      have HON := Lib.hid hone
      have HRS := Lib.hid hrs
      have HFIN := Lib.hid (And.intro k6 hfin)
      clear hr hokk hdkk hq hbx hone hsz hcsr hok hB1 hcs hpost hkn ekv hk k6 ha6 hb6 hrs hfin HX
      go_wp2_with (first | (refine wpList_load_row rfl _ _ rfl w.heap.size rfl _ _ (0, 0) _ HBX.out Tryz.underlying36 rfl HSZ.out ?_) | (refine wpList_store_row rfl _ _ _ rfl (w.heap.size + 1) _ rfl rfl _ _ HRS.out HSZ.out (by have := HSZ.out; rw [info6] at this; injection this) HON.out ?_; rw [hw6]))
      exact bodyPost_ret (by simp [results, Tryz.results37, asAddr, Act.put, run_loadVar_row w6 (w.heap.size + 1) 36 36 _ (0, 0) _ HFIN.out.1 Tryz.underlying36 rfl HSZ.out]) rfl HFIN.out.2
end
end Mun
end
