/- The reference of chapter 7: Body at a record that stands well. Printed by a program. -/
import Derived.Test.YtoblajbffnkkiaaR7B
set_option maxRecDepth 100000
set_option linter.unusedVariables false
set_option linter.unusedSimpArgs false
namespace Mun
open Go Go.RowKit
open Go.Proofs

set_option maxHeartbeats 8000000 in
theorem r7body_yes {F : Foot} (w : World) (v : Value) (l : List UInt8) (A : Nat) (r : PR) (lsn : Nat) (rest : List UInt8) (hv : RdB F w v l) (hd : l.drop A = recB r lsn ++ rest) (hok : RecOk r) (hln : lsn < 18446744073709551616) (hl : l.length ≤ 1073741824) :
    Calls Try.prog 58 #[v, .int .i64 A, .int .u64 lsn] w (Bd7Yes w r (A + recLen r)) := by
  obtain ⟨ba, bn, bc, rfl, HBN, -, -⟩ := hv.formN
  obtain ⟨p1, p2, p3, p4⟩ := rec_parts l A r lsn rest hd hok.big
  obtain ⟨s, hs⟩ : ∃ s, (bodyR r).length = s := ⟨_, rfl⟩
  have hs6 := bodyR_pos r
  have hsb := hok.big
  rw [hs] at p1 p3 p4 hs6 hsb
  obtain ⟨a1, c1, hsl, hrd⟩ := slice_bytes hv (A + 8) (A + 8 + s) ((A : Int) + 8) ((A : Int) + 8 + (s : Int)) (by push_cast; rfl) (by push_cast; rfl) (by omega) (by have := HBN.out; omega)
  rw [show A + 8 + s - (A + 8) = s by omega] at hsl hrd
  rw [p3] at hrd
  obtain ⟨hb0, hbk⟩ := body_hd r
  obtain ⟨sg, so, sc', hse, -, -, -, -, hcell⟩ := hrd.at_ (by omega)
  injection hse with e1 e2 e3
  subst e1
  clear e2 e3
  obtain ⟨kk, hkk⟩ := Int.eq_ofNat_of_zero_le (show 0 ≤ r.kind by have := (goodR_iff r).1 hok.good; omega)
  have hk9 : kk ≤ 9 := by have := (goodR_iff r).1 hok.good; omega
  have ck := hcell 0 (by omega)
  rw [hbk, hkk, Int.toNat_natCast, Nat.add_zero] at ck
  have hku : (UInt8.ofNat kk).toNat = kk := by rw [UInt8.toNat_ofNat']; omega
  rw [hku] at ck
  have hgt := fun (W : World) (hW : Below w.heap.size w W) => refget_any W (.slice ba bn bc) l (A : Int) 4 A 4 (s : Int) rfl rfl (by rw [p1]) (hv.below hW) (by omega) (by decide)
  have HGT := Lib.hid hgt
  obtain ⟨wa, hwa⟩ : ∃ wa, (w.alloc (.cells #[.int .i64 0, .int .u64 0, .int .u64 0, .int .u64 0, .slice none 0 0, .slice none 0 0] 26)).alloc (.cells #[.int .i64 0, .int .u64 0, .int .u64 0, .int .u64 0, .slice none 0 0, .slice none 0 0] 26) = wa := ⟨_, rfl⟩
  have hba : Below w.heap.size w wa := by rw [← hwa]; exact below_more (below_more (Below.refl _ _) _) _
  have sa : wa.heap.size = w.heap.size + 1 + 1 := by rw [← hwa, World.size_alloc, World.size_alloc]
  have ka6 : wa.heap[w.heap.size]? = some (.cells noCs 26 (0, 0)) := by
    rw [← hwa, heap_alloc_old _ _ (by rw [World.size_alloc]; omega)]; exact heap_alloc_new w _
  obtain ⟨wb, hwb⟩ : ∃ wb, wa.alloc (.cells #[.slice (some ⟨sg, so, none⟩) s c1, .int .i64 1, .bool true] 123) = wb := ⟨_, rfl⟩
  obtain ⟨wd, hwd⟩ : ∃ wd, wb.alloc (.cells #[.int .i64 kk, .int .u64 0, .int .u64 0, .int .u64 0, .slice none 0 0, .slice none 0 0] 26) = wd := ⟨_, rfl⟩
  have hbb : Below wa.heap.size wa wb := by rw [← hwb]; exact (Below.refl _ _).alloc (Nat.le_refl _) _
  have hbd : Below wb.heap.size wb wd := by rw [← hwd]; exact (Below.refl _ _).alloc (Nat.le_refl _) _
  have sb : wb.heap.size = w.heap.size + 1 + 1 + 1 := by rw [← hwb, World.size_alloc, sa]
  have kb11 : wb.heap[w.heap.size + 1 + 1]? = some (.cells (curC (.slice (some ⟨sg, so, none⟩) s c1) 1) 123 (0, 0)) := by rw [← hwb, ← sa]; exact heap_alloc_new wa _
  have hR : BdR w wd (.slice (some ⟨sg, so, none⟩) s c1) 1 #[.int .i64 kk, .int .u64 0, .int .u64 0, .int .u64 0, .slice none 0 0, .slice none 0 0] :=
    ⟨(hba.trans (hbb.mono hba.size)).trans (hbd.mono (by rw [sb]; omega)), (hbd.block _ (by rw [sb]; omega)).trans ((hbb.block _ (lt_of_block ka6)).trans ka6), (hbd.block _ (lt_of_block kb11)).trans kb11, by rw [← hwd, ← sb]; exact heap_alloc_new wb _⟩
  have ckb : wb.cell? ⟨sg, so, none⟩ = some (.int .u8 kk) := by
    have hg := World.block_lt_of_cell? _ _ ck
    have h9 := ((hbb.block sg (Nat.lt_of_lt_of_le hg hba.size)).trans (hba.block sg hg))
    exact (World.cell?_of_block h9).trans ck
  have cka : wa.cell? ⟨sg, so, none⟩ = some (.int .u8 kk) := by
    have hg := World.block_lt_of_cell? _ _ ck
    exact (World.cell?_of_block (hba.block sg hg)).trans ck
  have zb0 : wb.cell? ⟨w.heap.size + 1 + 1, 0, none⟩ = some (.slice (some ⟨sg, so, none⟩) s c1) := cell_of_row wb _ 0 _ _ _ kb11
  have HBA := Lib.hid hba
  have HV := Lib.hid (And.intro hv (And.intro hrd (And.intro hok (And.intro hln (And.intro hl (And.intro p4 (And.intro hsb (And.intro hs hd))))))))
  have HR0 := Lib.hid hR
  have hi1 : ¬ ((bn : Int) - (A : Int) < 9) := by have := HBN.out; omega
  have hi2 : ¬ ((s : Int) > 1048576) := by omega
  have hi3 : ¬ ((s : Int) < 1) := by omega
  have hi4 : ¬ ((s : Int) > (bn : Int) - (A : Int) - 8) := by have := HBN.out; omega
  have hcs : IntKind.i64.wrap (s : Int) = (s : Int) := by rw [IntKind.wrap_i64]; omega
  have hA0 : (0 : Int) ≤ (A : Int) := by omega
  have hs0 : (0 : Int) < (s : Int) := by omega
  have hAi : (A : Int) + 8 + (s : Int) ≤ 1073741824 := by omega
  have hsi : (s : Int) ≤ 1048576 := by omega
  have hbi : (bn : Int) ≤ 1073741824 := by have := HBN.out; omega
  have HKK := Lib.hid (And.intro hkk hk9)
  have hki0 : (0 : Int) ≤ (kk : Int) := by omega
  have hki9 : (kk : Int) ≤ 9 := by omega
  have q1 := (body_drop1 r)
  have HWA := Lib.hid hwa
  have HWD := Lib.hid hwd
  clear hwd
  have HSA := Lib.hid (And.intro sa sb)
  clear hwa
  clear hv hd hok hln hl p1 p2 p3 p4 hs6 hsb hrd hbk hcell hb0 ck hku hgt hba sa ka6 hbb hbd sb kb11 hR hkk hk9
  go_enter Try.func58, Try.ntmps58
  go_wp2_with fail
  try rw [HWA.out]
  refine (HGT.out wa HBA.out).mono ?_
  rintro e w1 ⟨rfl, hw1⟩
  rw [← hw1]
  clear hw1 HGT HWA
  have HD0 := Lib.hid q1
  have hrdd := fun (W : World) (hW : Below w.heap.size w W) => HV.out.2.1.below hW
  have HRD := Lib.hid hrdd
  have hsl30 : (bodyR r).length ≤ 1073741824 := by rw [HV.out.2.2.2.2.2.2.2.1]; omega
  have HS30 := Lib.hid hsl30
  clear q1 hrdd hsl30
  obtain ⟨p0, hp0⟩ : ∃ p0 : Nat, p0 = 1 := ⟨_, rfl⟩
  rw [← hp0] at HR0 HD0
  have hp0' : Hid (p0 = 1) := hp0
  have hn0 := r7num wd (.slice (some ⟨sg, so, none⟩) s c1) (bodyR r) p0 r.tx 18446744073709551615 (vi r.prev ++ (vi r.next ++ (txt r.data ++ (vi r.cs.length ++ r.cs.flatMap chB)))) (HRD.out wd HR0.out.bl) HD0.out HV.out.2.2.1.tx (by have := HV.out.2.2.1.tx; omega) (by omega) HS30.out
  have HN0 := Lib.hid hn0
  clear hn0
  try rw [hp0] at HN0
  have sa' := HSA.out.1
  have sb' := HSA.out.2
  go_wp2_with (first | (rw [HWD.out]; refine wpList_load_row rfl _ _ rfl (w.heap.size + 1 + 1) rfl _ _ (0, 0) _ HR0.out.k11 Try.underlying123 rfl infoCu ?_) | fail)
  clear hwb HWD ckb cka zb0 hsl sa' sb' hi1 hi2 hi3 hi4
  refine HN0.out.mono ?_
  rintro e wx0 ⟨rfl, hbx0⟩
  rename ((s : Int) ≤ 1048576 ∧ 1 ≤ (s : Int)) ∧ (s : Int) ≤ (bn : Int) - (A : Int) - 8 => hh9
  clear hh9
  have hRx0 := HR0.out.call hbx0
  obtain ⟨p1, hp1⟩ : ∃ p1, p0 + (vi r.tx).length = p1 := ⟨_, rfl⟩
  have hp1' : 1 + (vi r.tx).length = p1 := by rw [← hp1, hp0]
  rw [hp1']
  clear hp1'
  have hd1 := drop_more HD0.out
  rw [hp1] at hd1
  obtain ⟨wb0, hwb0⟩ : ∃ wb0, wx0.setCell ⟨w.heap.size + 1 + 1 + 1, 1, none⟩ (.int .u64 r.tx) = wb0 := ⟨_, rfl⟩
  obtain ⟨wc0, hwc0⟩ : ∃ wc0, wb0.setRow (w.heap.size + 1 + 1) (curC (.slice (some ⟨sg, so, none⟩) s c1) p1) = wc0 := ⟨_, rfl⟩
  have hRb0 := hRx0.put 1 (.int .u64 r.tx)
  rw [hwb0] at hRb0
  have hRc0 : BdR w wc0 (.slice (some ⟨sg, so, none⟩) s c1) p1 #[.int .i64 kk, .int .u64 r.tx, .int .u64 0, .int .u64 0, .slice none 0 0, .slice none 0 0] := by
    have h9 := hRb0.cur p1
    rw [hwc0] at h9
    exact h9
  have z0 : wx0.cell? ⟨w.heap.size + 1 + 1 + 1, 1, none⟩ = some (.int .u64 0) := cell_of_row wx0 _ 1 _ _ _ hRx0.k12
  have f0 : wx0.frozen? ⟨w.heap.size + 1 + 1 + 1, 1, none⟩ = false := by simp [World.frozen?, hRx0.k12]
  have K0 := Lib.hid hRb0.k11
  have HR1 := Lib.hid hRc0
  have HD1 := Lib.hid hd1
  clear hRx0 hRb0 hRc0 hd1 hbx0 HN0
  have hn1 := r7num wc0 (.slice (some ⟨sg, so, none⟩) s c1) (bodyR r) p1 r.prev 18446744073709551615 (vi r.next ++ (txt r.data ++ (vi r.cs.length ++ r.cs.flatMap chB))) (HRD.out wc0 HR1.out.bl) HD1.out HV.out.2.2.1.prev (by have := HV.out.2.2.1.prev; omega) (by omega) HS30.out
  have HN1 := Lib.hid hn1
  clear hn1
  go_wp2_with (first | (refine wpList_store_row rfl _ _ _ rfl (w.heap.size + 1 + 1) _ rfl rfl _ _ K0.out infoCu rfl (by simp [Value.oneCell']) ?_; rw [hwc0]) | (refine wpList_load_row rfl _ _ rfl (w.heap.size + 1 + 1) rfl _ _ (0, 0) _ HR1.out.k11 Try.underlying123 rfl infoCu ?_) | fail)
  clear hwb0 hwc0 f0 z0
  refine HN1.out.mono ?_
  rintro e wx1 ⟨rfl, hbx1⟩
  have hRx1 := HR1.out.call hbx1
  obtain ⟨p2, hp2⟩ : ∃ p2, p1 + (vi r.prev).length = p2 := ⟨_, rfl⟩
  try rw [hp2]
  have hd2 := drop_more HD1.out
  rw [hp2] at hd2
  obtain ⟨wb1, hwb1⟩ : ∃ wb1, wx1.setCell ⟨w.heap.size + 1 + 1 + 1, 2, none⟩ (.int .u64 r.prev) = wb1 := ⟨_, rfl⟩
  obtain ⟨wc1, hwc1⟩ : ∃ wc1, wb1.setRow (w.heap.size + 1 + 1) (curC (.slice (some ⟨sg, so, none⟩) s c1) p2) = wc1 := ⟨_, rfl⟩
  have hRb1 := hRx1.put 2 (.int .u64 r.prev)
  rw [hwb1] at hRb1
  have hRc1 : BdR w wc1 (.slice (some ⟨sg, so, none⟩) s c1) p2 #[.int .i64 kk, .int .u64 r.tx, .int .u64 r.prev, .int .u64 0, .slice none 0 0, .slice none 0 0] := by
    have h9 := hRb1.cur p2
    rw [hwc1] at h9
    exact h9
  have z1 : wx1.cell? ⟨w.heap.size + 1 + 1 + 1, 2, none⟩ = some (.int .u64 0) := cell_of_row wx1 _ 2 _ _ _ hRx1.k12
  have f1 : wx1.frozen? ⟨w.heap.size + 1 + 1 + 1, 2, none⟩ = false := by simp [World.frozen?, hRx1.k12]
  have K1 := Lib.hid hRb1.k11
  have HR2 := Lib.hid hRc1
  have HD2 := Lib.hid hd2
  clear hRx1 hRb1 hRc1 hd2 hbx1 HN1
  have hn2 := r7num wc1 (.slice (some ⟨sg, so, none⟩) s c1) (bodyR r) p2 r.next 18446744073709551615 (txt r.data ++ (vi r.cs.length ++ r.cs.flatMap chB)) (HRD.out wc1 HR2.out.bl) HD2.out HV.out.2.2.1.next (by have := HV.out.2.2.1.next; omega) (by omega) HS30.out
  have HN2 := Lib.hid hn2
  clear hn2
  go_wp2_with (first | (refine wpList_store_row rfl _ _ _ rfl (w.heap.size + 1 + 1) _ rfl rfl _ _ K1.out infoCu rfl (by simp [Value.oneCell']) ?_; rw [hwc1]) | (refine wpList_load_row rfl _ _ rfl (w.heap.size + 1 + 1) rfl _ _ (0, 0) _ HR2.out.k11 Try.underlying123 rfl infoCu ?_) | fail)
  clear hwb1 hwc1 f1 z1
  refine HN2.out.mono ?_
  rintro e wx2 ⟨rfl, hbx2⟩
  have hRx2 := HR2.out.call hbx2
  obtain ⟨p3, hp3⟩ : ∃ p3, p2 + (vi r.next).length = p3 := ⟨_, rfl⟩
  try rw [hp3]
  have hd3 := drop_more HD2.out
  rw [hp3] at hd3
  obtain ⟨wb2, hwb2⟩ : ∃ wb2, wx2.setCell ⟨w.heap.size + 1 + 1 + 1, 3, none⟩ (.int .u64 r.next) = wb2 := ⟨_, rfl⟩
  obtain ⟨wc2, hwc2⟩ : ∃ wc2, wb2.setRow (w.heap.size + 1 + 1) (curC (.slice (some ⟨sg, so, none⟩) s c1) p3) = wc2 := ⟨_, rfl⟩
  have hRb2 := hRx2.put 3 (.int .u64 r.next)
  rw [hwb2] at hRb2
  have hRc2 : BdR w wc2 (.slice (some ⟨sg, so, none⟩) s c1) p3 #[.int .i64 kk, .int .u64 r.tx, .int .u64 r.prev, .int .u64 r.next, .slice none 0 0, .slice none 0 0] := by
    have h9 := hRb2.cur p3
    rw [hwc2] at h9
    exact h9
  have z2 : wx2.cell? ⟨w.heap.size + 1 + 1 + 1, 3, none⟩ = some (.int .u64 0) := cell_of_row wx2 _ 3 _ _ _ hRx2.k12
  have f2 : wx2.frozen? ⟨w.heap.size + 1 + 1 + 1, 3, none⟩ = false := by simp [World.frozen?, hRx2.k12]
  have K2 := Lib.hid hRb2.k11
  have HR3 := Lib.hid hRc2
  have HD3 := Lib.hid hd3
  clear hRx2 hRb2 hRc2 hd3 hbx2 HN2
  have hdl : r.data.length ≤ 1048576 ∧ r.cs.length ≤ 1048576 := by
    have h1 := flat_len r.cs
    have h2 := HV.out.2.2.2.2.2.2.2.1
    have h3 := HV.out.2.2.2.2.2.2.1
    simp only [bodyR, txt, List.length_append] at h2
    omega
  have HDL := Lib.hid hdl
  have hc3 := r7cut wc2 (.slice (some ⟨sg, so, none⟩) s c1) (bodyR r) p3 r.data (vi r.cs.length ++ r.cs.flatMap chB) (HRD.out wc2 HR3.out.bl) HD3.out HDL.out.1 HS30.out
  have HC3 := Lib.hid hc3
  clear hc3 hdl
  go_wp2_with (first | (refine wpList_store_row rfl _ _ _ rfl (w.heap.size + 1 + 1) _ rfl rfl _ _ K2.out infoCu rfl (by simp [Value.oneCell']) ?_; rw [hwc2]) | (refine wpList_load_row rfl _ _ rfl (w.heap.size + 1 + 1) rfl _ _ (0, 0) _ HR3.out.k11 Try.underlying123 rfl infoCu ?_) | fail)
  clear hwb2 hwc2 f2 z2
  refine HC3.out.mono ?_
  rintro e wx3 ⟨da, dc, rfl, ho3, hbx3⟩
  obtain ⟨dn, hdn⟩ : ∃ dn, r.data.length = dn := ⟨_, rfl⟩
  rw [hdn] at ho3
  rw [hdn]
  have hRx3 := HR3.out.call hbx3
  obtain ⟨p4, hp4⟩ : ∃ p4, p3 + (txt r.data).length = p4 := ⟨_, rfl⟩
  rw [hp4]
  have hd4 := drop_more HD3.out
  rw [hp4] at hd4
  obtain ⟨wb3, hwb3⟩ : ∃ wb3, wx3.setCell ⟨w.heap.size + 1 + 1 + 1, 4, none⟩ (.slice da dn dc) = wb3 := ⟨_, rfl⟩
  obtain ⟨wc3, hwc3⟩ : ∃ wc3, wb3.setRow (w.heap.size + 1 + 1) (curC (.slice (some ⟨sg, so, none⟩) s c1) p4) = wc3 := ⟨_, rfl⟩
  have hRb3 := hRx3.put 4 (.slice da dn dc)
  rw [hwb3] at hRb3
  have hRc3 : BdR w wc3 (.slice (some ⟨sg, so, none⟩) s c1) p4 (rcs r (.slice da dn dc) (.slice none 0 0)) := by
    have h9 := hRb3.cur p4
    rw [hwc3] at h9
    unfold rcs
    rw [HKK.out.1]
    exact h9
  have hL4 : BdL w wc3 (.slice (some ⟨sg, so, none⟩) s c1) p4 r (.slice da dn dc) (.slice none 0 0) [] := by
    refine ⟨hRc3, ⟨by simp, .inl ⟨rfl, rfl⟩⟩, by simp, ?_⟩
    have h9 := ownsRow_base ho3 (base' := w.heap.size) (fun k e => by have := (ho3.lt k e).1; have := HR3.out.bl.size; omega)
    refine ownB_same h9 (fun k e => ?_)
    rw [← hwc3, ← hwb3]
    exact hRx3.chg k (by have := (ho3.lt k e).1; have := lt_of_block HR3.out.k12; omega)
  have z3 : wx3.cell? ⟨w.heap.size + 1 + 1 + 1, 4, none⟩ = some (.slice none 0 0) := cell_of_row wx3 _ 4 _ _ _ hRx3.k12
  have f3 : wx3.frozen? ⟨w.heap.size + 1 + 1 + 1, 4, none⟩ = false := by simp [World.frozen?, hRx3.k12]
  have K3 := Lib.hid hRb3.k11
  have HL4 := Lib.hid hL4
  have HD4 := Lib.hid hd4
  clear hRx3 hRb3 hRc3 hL4 hd4 hbx3 ho3 HC3 HR3 HR2 HR1 HR0 K2 K1 K0 HD0 HD1 HD2 HD3
  have hn4 := r7num wc3 (.slice (some ⟨sg, so, none⟩) s c1) (bodyR r) p4 r.cs.length 1048576 (r.cs.flatMap chB) (HRD.out wc3 HL4.out.bx.bl) HD4.out (by have := HDL.out.2; omega) HDL.out.2 (by omega) HS30.out
  have HN4 := Lib.hid hn4
  clear hn4
  go_wp2_with (first | (refine wpList_store_row rfl _ _ _ rfl (w.heap.size + 1 + 1) _ rfl rfl _ _ K3.out infoCu rfl (by simp [Value.oneCell']) ?_; rw [hwc3]) | (refine wpList_load_row rfl _ _ rfl (w.heap.size + 1 + 1) rfl _ _ (0, 0) _ HL4.out.bx.k11 Try.underlying123 rfl infoCu ?_) | fail)
  clear hwb3 hwc3 f3 z3
  refine HN4.out.mono ?_
  rintro e wx4 ⟨rfl, hbx4⟩
  obtain ⟨n, hn⟩ : ∃ n, r.cs.length = n := ⟨_, rfl⟩
  obtain ⟨p5, hp5⟩ : ∃ p5, p4 + (vi n).length = p5 := ⟨_, rfl⟩
  rw [hn, hp5]
  have hLx4 := HL4.out.call hbx4
  have hd5 := drop_more HD4.out
  rw [hn, hp5] at hd5
  obtain ⟨wc4, hwc4⟩ : ∃ wc4, wx4.setRow (w.heap.size + 1 + 1) (curC (.slice (some ⟨sg, so, none⟩) s c1) p5) = wc4 := ⟨_, rfl⟩
  have hL5 := hLx4.cur p5
  rw [hwc4] at hL5
  have K4 := Lib.hid hLx4.bx.k11
  have HL5 := Lib.hid hL5
  have HD5 := Lib.hid hd5
  have HNN := Lib.hid hn
  have hni : (n : Int) ≤ 1048576 := by have := HDL.out.2; omega
  have hn0 : (0 : Int) ≤ (n : Int) := by omega
  have hcn : IntKind.i64.wrap (n : Int) = (n : Int) := by rw [IntKind.wrap_i64]; omega
  clear hLx4 hd5 hL5 hbx4 HN4 hn K3 HL4 HD4
  go_wp2_with (first | (refine wpList_store_row rfl _ _ _ rfl (w.heap.size + 1 + 1) _ rfl rfl _ _ K4.out infoCu rfl (by simp [Value.oneCell']) ?_; rw [hwc4]) | fail)
  clear hwc4
  go_loopw [14, 15, 16, 17, 18, 19] (fun i _ _ _ _ _ wr => ∃ (k A' : Nat) (v : Value) (us : List CV), k ≤ n ∧ i = .int .i64 k ∧ us.map (·.1) = r.cs.take k ∧ BdL w wr (.slice (some ⟨sg, so, none⟩) s c1) A' r (.slice da dn dc) v us ∧ (bodyR r).drop A' = (r.cs.drop k).flatMap chB) (fun i _ _ _ _ _ _ => n - (intOf i).toNat)
  case atStart => exact ⟨0, p5, _, [], Nat.zero_le _, rfl, by simp, HL5.out, by simpa using HD5.out⟩
  case round =>
    obtain ⟨k, A', v, us, hk, rfl, hus, hL, hdk⟩ := hrel
    have z0 : wr.cell? ⟨w.heap.size + 1 + 1, 2, none⟩ = some (.bool true) := cell_of_row wr _ 2 _ _ _ hL.bx.k11
    have hk0 : (0 : Int) ≤ (k : Int) := by omega
    have hkn : (k : Int) ≤ (n : Int) := by omega
    rcases Nat.lt_or_ge k n with hlt | hge
    · have hki : (k : Int) < (n : Int) := by omega
      have hkr : k < r.cs.length := by rw [HNN.out]; exact hlt
      obtain ⟨c, hcE⟩ : ∃ c, r.cs[k] = c := ⟨_, rfl⟩
      have hcm : c ∈ r.cs := by rw [← hcE]; exact List.getElem_mem hkr
      have hgc := ((goodR_iff r).1 HV.out.2.2.1.good).2.2 c hcm
      have hdk1 : r.cs.drop k = c :: r.cs.drop (k + 1) := by rw [← hcE]; exact List.drop_eq_getElem_cons hkr
      have hus1 : us.map (·.1) ++ [c] = r.cs.take (k + 1) := by rw [hus, take_snoc r.cs k hkr, hcE]
      have hul : us.length = k := by
        have h1 := congrArg List.length hus
        simp only [List.length_map, List.length_take] at h1
        omega
      obtain ⟨va, vc, rfl⟩ : ∃ a c, v = .slice a us.length c := by
        obtain ⟨a, c, h1, _⟩ := (RdV.of_own (F := NoF) hL.row (fun _ _ => noF _)).form
        exact ⟨a, c, h1⟩
      obtain ⟨pg, hpg⟩ := Int.eq_ofNat_of_zero_le hgc.p0
      obtain ⟨ag, hag⟩ := Int.eq_ofNat_of_zero_le hgc.a0
      have hpl : pg < 65536 := by have := hgc.p1; omega
      have hal : ag ≤ 512 ∧ c.b.length ≤ 512 := by have := hgc.len; omega
      have hd0 : (bodyR r).drop A' = vi pg ++ (vi ag ++ (Mun.wb c :: (txt c.b ++ (r.cs.drop (k + 1)).flatMap chB))) := by
        rw [hdk, hdk1, List.flatMap_cons]
        unfold chB
        rw [hpg, hag, Int.toNat_natCast, Int.toNat_natCast]
        simp [List.append_assoc]
      obtain ⟨g, hg⟩ : ∃ g, wr.heap.size = g := ⟨_, rfl⟩
      obtain ⟨w1, hw1⟩ : ∃ w1, wr.alloc (.cells #[.int .i64 0, .int .i64 0, .bool false, .slice none 0 0] 81) = w1 := ⟨_, rfl⟩
      have hX1 := BdX.start hL #[.int .i64 0, .int .i64 0, .bool false, .slice none 0 0]
      rw [hw1, hg] at hX1
      have hn1 := r7num w1 (.slice (some ⟨sg, so, none⟩) s c1) (bodyR r) A' pg 65536 (vi ag ++ (Mun.wb c :: (txt c.b ++ (r.cs.drop (k + 1)).flatMap chB))) (HRD.out w1 hX1.st.bx.bl) hd0 (by omega) (by omega) (by omega) HS30.out
      have HX1 := Lib.hid hX1
      have HN1 := Lib.hid hn1
      have HD0 := Lib.hid hd0
      have HK := Lib.hid (And.intro hus1 (And.intro hul (And.intro hpg (And.intro hag (And.intro hpl (And.intro hal hlt))))))
      have HW1 := Lib.hid hw1
      have hpgi : (pg : Int) < 65536 := by omega
      have hpg0 : (0 : Int) ≤ (pg : Int) := by omega
      have hagi : (ag : Int) ≤ 512 := by omega
      have hag0 : (0 : Int) ≤ (ag : Int) := by omega
      clear hL hX1 hn1 hd0 hus hus1 hul hlt hpg hag hpl hal hgc hk hkr hcm hdk1 hdk hw1 hcE
      go_wp2_with (first | (rw [HW1.out]; refine wpList_load_row rfl _ _ rfl (w.heap.size + 1 + 1) rfl _ _ (0, 0) _ HX1.out.st.bx.k11 Try.underlying123 rfl infoCu ?_) | fail)
      refine HN1.out.mono ?_
      rintro e w2 ⟨rfl, hb2⟩
      obtain ⟨A1, hA1⟩ : ∃ A1, A' + (vi pg).length = A1 := ⟨_, rfl⟩
      rw [hA1]
      have hX2 := HX1.out.call hb2
      have hd1 := drop_more HD0.out
      rw [hA1] at hd1
      obtain ⟨g2, hg2⟩ : ∃ g2, w2.heap.size = g2 := ⟨_, rfl⟩
      obtain ⟨w3, hw3⟩ : ∃ w3, w2.alloc (.cells (curC (.slice (some ⟨sg, so, none⟩) s c1) A1) 123) = w3 := ⟨_, rfl⟩
      have hX3 := hX2.call ((Below.refl _ _).alloc (Nat.le_refl _) (.cells (curC (.slice (some ⟨sg, so, none⟩) s c1) A1) 123))
      rw [hw3] at hX3
      have k3 : w3.heap[g2]? = some (.cells (curC (.slice (some ⟨sg, so, none⟩) s c1) A1) 123 (0, 0)) := by rw [← hw3, ← hg2]; exact heap_alloc_new w2 _
      have hn3 := r7num w3 (.slice (some ⟨sg, so, none⟩) s c1) (bodyR r) A1 ag 65536 (Mun.wb c :: (txt c.b ++ (r.cs.drop (k + 1)).flatMap chB)) (HRD.out w3 hX3.st.bx.bl) hd1 (by omega) (by omega) (by omega) HS30.out
      have HX3 := Lib.hid hX3
      have HN3 := Lib.hid hn3
      have HD1 := Lib.hid hd1
      have HW3 := Lib.hid hw3
      have HK3 := Lib.hid k3
      clear hX2 hX3 hn3 hd1 hw3 k3 hb2 HN1 HW1 HX1 HD0 z0 hg
      go_wp2_with (first | (rw [HW3.out]; refine wpList_load_row rfl _ _ rfl g2 rfl _ _ (0, 0) _ HK3.out Try.underlying123 rfl infoCu ?_) | fail)
      refine HN3.out.mono ?_
      rintro e w4 ⟨rfl, hb4⟩
      obtain ⟨A2, hA2⟩ : ∃ A2, A1 + (vi ag).length = A2 := ⟨_, rfl⟩
      rw [hA2]
      have hX4 := HX3.out.call hb4
      have hd2 := drop_more HD1.out
      rw [hA2] at hd2
      obtain ⟨hA2s, hgx, hd3⟩ := drop_hd hd2
      obtain ⟨g4, hg4⟩ : ∃ g4, w4.heap.size = g4 := ⟨_, rfl⟩
      obtain ⟨w5, hw5⟩ : ∃ w5, w4.alloc (.cells (curC (.slice (some ⟨sg, so, none⟩) s c1) A2) 123) = w5 := ⟨_, rfl⟩
      have hX5 := hX4.call ((Below.refl _ _).alloc (Nat.le_refl _) (.cells (curC (.slice (some ⟨sg, so, none⟩) s c1) A2) 123))
      rw [hw5] at hX5
      have k5 : w5.heap[g4]? = some (.cells (curC (.slice (some ⟨sg, so, none⟩) s c1) A2) 123 (0, 0)) := by rw [← hw5, ← hg4]; exact heap_alloc_new w4 _
      obtain ⟨w6, hw6⟩ : ∃ w6, w5.setRow (w.heap.size + 1 + 1) (curC (.slice (some ⟨sg, so, none⟩) s c1) A2) = w6 := ⟨_, rfl⟩
      have hX6 := hX5.cur A2
      rw [hw6] at hX6
      obtain ⟨w7, hw7⟩ : ∃ w7, w6.setCell ⟨g, 0, none⟩ (.int .i64 pg) = w7 := ⟨_, rfl⟩
      have hX7 := hX6.setx 0 (.int .i64 pg)
      rw [hw7] at hX7
      obtain ⟨w8, hw8⟩ : ∃ w8, w7.setCell ⟨g, 1, none⟩ (.int .i64 ag) = w8 := ⟨_, rfl⟩
      have hX8 := hX7.setx 1 (.int .i64 ag)
      rw [hw8] at hX8
      obtain ⟨bw, hbw⟩ : ∃ bw : Int, ((Mun.wb c).toNat : Int) = bw := ⟨_, rfl⟩
      have hbd : decide (bw = 1) = c.whole := by
        rw [← hbw]; unfold Mun.wb; cases c.whole <;> rfl
      obtain ⟨wh, hwh⟩ : ∃ wh, c.whole = wh := ⟨_, rfl⟩
      rw [hwh] at hbd
      obtain ⟨w9, hw9⟩ : ∃ w9, w8.setCell ⟨g, 2, none⟩ (.bool wh) = w9 := ⟨_, rfl⟩
      have hX9 := hX8.setx 2 (.bool wh)
      rw [hw9] at hX9
      have hX10 := hX9.at1
      obtain ⟨w10, hw10⟩ : ∃ w10, w9.setCell ⟨w.heap.size + 1 + 1, 1, none⟩ (.int .i64 ((A2 : Int) + 1)) = w10 := ⟨_, rfl⟩
      have hq1 : ((A2 + 1 : Nat) : Int) = (A2 : Int) + 1 := by push_cast; rfl
      rw [hq1, hw10] at hX10
      have hsl : (bodyR r).length = s := HV.out.2.2.2.2.2.2.2.1
      have hA2i : (A2 : Int) < (s : Int) := by omega
      have hA20 : (0 : Int) ≤ (A2 : Int) := by omega
      have hA2e : decide (s ≤ A2) = false := decide_eq_false (by omega)
      obtain ⟨g8, o8, c8, hse, -, -, -, -, hcell⟩ := (HRD.out w8 hX8.st.bx.bl).at_ (by omega)
      injection hse with e1 e2 e3
      injection e1 with e1
      injection e1 with e4 e5
      subst e4
      subst e5
      clear e2 e3
      have cb := hcell A2 hA2s
      rw [hgx, hbw] at cb
      have z60 : w6.cell? ⟨w.heap.size + 1 + 1, 0, none⟩ = some (.slice (some ⟨sg, so, none⟩) s c1) := cell_of_row w6 _ 0 _ _ _ hX6.st.bx.k11
      have z61 : w6.cell? ⟨w.heap.size + 1 + 1, 1, none⟩ = some (.int .i64 A2) := cell_of_row w6 _ 1 _ _ _ hX6.st.bx.k11
      have z62 : w6.cell? ⟨w.heap.size + 1 + 1, 2, none⟩ = some (.bool true) := cell_of_row w6 _ 2 _ _ _ hX6.st.bx.k11
      have x60 : w6.cell? ⟨g, 0, none⟩ = some (.int .i64 0) := cell_of_row w6 _ 0 _ _ _ hX6.kx
      have x6f : w6.frozen? ⟨g, 0, none⟩ = false := by simp [World.frozen?, hX6.kx]
      have x71 : w7.cell? ⟨g, 1, none⟩ = some (.int .i64 0) := cell_of_row w7 _ 1 _ _ _ hX7.kx
      have x7f : w7.frozen? ⟨g, 1, none⟩ = false := by simp [World.frozen?, hX7.kx]
      have z80 : w8.cell? ⟨w.heap.size + 1 + 1, 0, none⟩ = some (.slice (some ⟨sg, so, none⟩) s c1) := cell_of_row w8 _ 0 _ _ _ hX8.st.bx.k11
      have z81 : w8.cell? ⟨w.heap.size + 1 + 1, 1, none⟩ = some (.int .i64 A2) := cell_of_row w8 _ 1 _ _ _ hX8.st.bx.k11
      have x82 : w8.cell? ⟨g, 2, none⟩ = some (.bool false) := cell_of_row w8 _ 2 _ _ _ hX8.kx
      have x8f : w8.frozen? ⟨g, 2, none⟩ = false := by simp [World.frozen?, hX8.kx]
      have z91 : w9.cell? ⟨w.heap.size + 1 + 1, 1, none⟩ = some (.int .i64 A2) := cell_of_row w9 _ 1 _ _ _ hX9.st.bx.k11
      have z9f : w9.frozen? ⟨w.heap.size + 1 + 1, 1, none⟩ = false := by simp [World.frozen?, hX9.st.bx.k11]
      have hcp : IntKind.i64.wrap (pg : Int) = (pg : Int) := by rw [IntKind.wrap_i64]; omega
      have hca : IntKind.i64.wrap (ag : Int) = (ag : Int) := by rw [IntKind.wrap_i64]; omega
      have hct := r7cut w10 (.slice (some ⟨sg, so, none⟩) s c1) (bodyR r) (A2 + 1) c.b ((r.cs.drop (k + 1)).flatMap chB) (HRD.out w10 hX10.st.bx.bl) hd3 (by have := HK.out.2.2.2.2.2.1.2; omega) HS30.out
      have HCT := Lib.hid hct
      have HD3 := Lib.hid hd3
      have HX5 := Lib.hid (And.intro hX5.st.bx.k11 k5)
      have HX10 := Lib.hid hX10
      have HW5 := Lib.hid hw5
      have HWH := Lib.hid (And.intro hbw hwh)
      clear hX4 hX5 hX6 hX7 hX8 hX9 hX10 hd2 hd3 hct k5 hw5 hb4 hgx hbw hwh hcell hA2s HN3 HW3 HX3 HK3 HD1 hg2 hsl
      clear hq1
      go_upto_region 20 with (first | (rw [HW5.out]; refine wpList_load_row rfl _ _ rfl g4 rfl _ _ (0, 0) _ HX5.out.2 Try.underlying123 rfl infoCu ?_) | (refine wpList_store_row rfl _ _ _ rfl (w.heap.size + 1 + 1) _ rfl rfl _ _ HX5.out.1 infoCu rfl (by simp [Value.oneCell']) ?_; rw [hw6]) | (refine wpList_load_row rfl _ _ rfl (w.heap.size + 1 + 1) rfl _ _ (0, 0) _ HX10.out.st.bx.k11 Try.underlying123 rfl infoCu ?_) | fail)
      go_upto_region 21 with (first | (rw [HW5.out]; refine wpList_load_row rfl _ _ rfl g4 rfl _ _ (0, 0) _ HX5.out.2 Try.underlying123 rfl infoCu ?_) | (refine wpList_store_row rfl _ _ _ rfl (w.heap.size + 1 + 1) _ rfl rfl _ _ HX5.out.1 infoCu rfl (by simp [Value.oneCell']) ?_; rw [hw6]) | (refine wpList_load_row rfl _ _ rfl (w.heap.size + 1 + 1) rfl _ _ (0, 0) _ HX10.out.st.bx.k11 Try.underlying123 rfl infoCu ?_) | fail)
      go_upto_region 23 with fail
      go_upto_region 24 with fail
      go_upto_region 25 with fail
      have hA2n : A2 < s := by omega
      have hbe : (bw == 1) = wh := hbd
      go_upto_region 26 with fail
      clear cb hbe hbd z60 z61 z62 x60 x6f x71 x7f z80 z81 x82 x8f hA2e hw7 hw8 hw9
      go_upto_region 27 with fail
      clear z91 z9f hw10
      obtain ⟨bl, hbl⟩ : ∃ bl, c.b.length = bl := ⟨_, rfl⟩
      go_wp2_with (first | (refine wpList_load_row rfl _ _ rfl (w.heap.size + 1 + 1) rfl _ _ (0, 0) _ HX10.out.st.bx.k11 Try.underlying123 rfl infoCu ?_) | fail)
      refine HCT.out.mono ?_
      rintro e w11 ⟨ea, ec, rfl, ho11, hb11⟩
      rw [hbl] at ho11
      rw [hbl]
      obtain ⟨A3, hA3⟩ : ∃ A3, A2 + 1 + (txt c.b).length = A3 := ⟨_, rfl⟩
      rw [hA3]
      have hX11 := HX10.out.call hb11
      have hd4 := drop_more HD3.out
      rw [hA3] at hd4
      obtain ⟨w12, hw12⟩ : ∃ w12, w11.setCell ⟨g, 3, none⟩ (.slice ea bl ec) = w12 := ⟨_, rfl⟩
      have hX12 := hX11.setx 3 (.slice ea bl ec)
      rw [hw12] at hX12
      obtain ⟨w13, hw13⟩ : ∃ w13, w12.setRow (w.heap.size + 1 + 1) (curC (.slice (some ⟨sg, so, none⟩) s c1) A3) = w13 := ⟨_, rfl⟩
      have hX13 := hX12.cur A3
      rw [hw13] at hX13
      have ho13 : OwnB w13 w.heap.size 5 (.slice ea bl ec) c.b := by
        have h9 := ownsRow_base ho11 (base' := w.heap.size) (fun k e => by have := (ho11.lt k e).1; have := HX10.out.st.bx.bl.size; omega)
        refine ownB_same h9 (fun q e => ?_)
        rw [← hw13, setRow_other (fun e2 => by subst e2; exact ownB_ne h9 hX11.st.bx.k11 (by decide) e), ← hw12]
        exact setCell_heap _ _ _ _ (fun e2 => by subst e2; exact ownB_ne h9 hX11.kx (by decide) e)
      have kx13 : w13.heap[g]? = some (.cells #[.int .i64 pg, .int .i64 ag, .bool wh, .slice ea bl ec] 81 (0, 0)) := hX13.kx
      obtain ⟨R, cp, w14, hr, hrow, hgr, hor, hlt3⟩ := push_changeV (ty := 24) (c := c) (bv := .slice ea bl ec) rfl hX13.st.row hX13.st.bx.bl.size (by have := HK.out.2.1; have := HK.out.2.2.2.2.2.2; omega)
      obtain ⟨c5, f5, hL14⟩ := hX13.st.push ho13 hrow hgr hor hlt3
      rw [HK.out.2.2.1, HK.out.2.2.2.1, HWH.out.2] at hr
      have z135 : w13.cell? ⟨w.heap.size + 1 + 1 + 1, 5, none⟩ = some (.slice va us.length vc) := cell_of_row w13 _ 5 _ _ _ hX13.st.bx.k12
      have x113 : w11.cell? ⟨g, 3, none⟩ = some (.slice none 0 0) := cell_of_row w11 _ 3 _ _ _ hX11.kx
      have x11f : w11.frozen? ⟨g, 3, none⟩ = false := by simp [World.frozen?, hX11.kx]
      have HX11 := Lib.hid hX11
      have K12 := Lib.hid hX12.st.bx.k11
      have KX := Lib.hid kx13
      have HR := Lib.hid hr
      have HL14 := Lib.hid hL14
      have HD4 := Lib.hid hd4
      clear hX11 hX12 hX13 ho13 kx13 hr hrow hgr hor hlt3 hL14 hd4 hb11 HCT ho11
      go_upto_region 28 with (first | (refine wpList_store_row rfl _ _ _ rfl (w.heap.size + 1 + 1) _ rfl rfl _ _ K12.out infoCu rfl (by simp [Value.oneCell']) ?_; rw [hw13]) | fail)
      go_wp2_with (first | (refine wpList_load_row rfl _ _ rfl g rfl _ _ (0, 0) _ KX.out Try.underlying81 rfl infoC ?_) | (at_builtin; refine wpList_append_eq rfl rfl HR.out rfl rfl ?_; clear HR) | fail)
      clear c5 f5 z135 x113 x11f hw12 hw13
      go_roundw
      case rel => exact ⟨k + 1, A3, _, us ++ [(c, .slice ea bl ec)], by have := HK.out.2.2.2.2.2.2; omega, by go_num, by rw [List.map_append]; exact HK.out.1, HL14.out, HD4.out⟩
      case measure => have := HK.out.2.2.2.2.2.2; simp [intOf]; omega
    · obtain rfl : k = n := by omega
      have hus2 : us.map (·.1) = r.cs := by rw [hus, ← HNN.out, List.take_length]
      obtain ⟨va, vc, rfl⟩ : ∃ a c, v = .slice a us.length c := by
        obtain ⟨a, c, h1, _⟩ := (RdV.of_own (F := NoF) hL.row (fun _ _ => noF _)).form
        exact ⟨a, c, h1⟩
      have hrd0 := hL.read1 hus2 HV.out.2.2.1.tx HV.out.2.2.1.prev HV.out.2.2.1.next
      have hby : Calls Try.prog 23 #[.agg (rcs r (.slice da dn dc) (.slice va us.length vc)), .int .u64 lsn] wr (RBytesOut wr (recB r lsn)) :=
        r7bytes_ok wr r ⟨.slice da dn dc, .slice va us.length vc, us⟩ lsn HV.out.2.2.2.1 hrd0 HV.out.2.2.1.good (by have := szR_body r; have := HV.out.2.2.1.big; omega) HV.out.2.2.1.big
      have hlb : (recB r lsn).length = 8 + s := by rw [recB_length, HV.out.2.2.2.2.2.2.2.1]
      obtain ⟨a2, c2, hsl2, hrd2⟩ := slice_bytes HV.out.1 A (A + 8 + s) (A : Int) ((A : Int) + 8 + (s : Int)) rfl (by push_cast; rfl) (by omega) HV.out.2.2.2.2.2.1
      rw [show A + 8 + s - A = 8 + s by omega] at hsl2 hrd2
      rw [HV.out.2.2.2.2.2.2.2.2, List.take_left' hlb] at hrd2
      have K12 := Lib.hid hL.bx.k12
      have K6 := Lib.hid hL.bx.k6
      have HBL := Lib.hid hL.bx.bl
      have HRD0 := Lib.hid hrd0
      have HBY := Lib.hid hby
      have HRD2 := Lib.hid hrd2
      clear hL hus hus2 hdk hk hge hrd0 hby hlb hrd2 K4 HL5 HD5
      go_wp2_with (first | (refine wpList_load_row rfl _ _ rfl (w.heap.size + 1 + 1 + 1) rfl _ _ (0, 0) _ K12.out Try.underlying26 rfl infoR ?_) | fail)
      refine HBY.out.mono ?_
      rintro e w2 ⟨bg, bm, bc2, rfl, hbm, ho2, hb2⟩
      obtain ⟨S, hS⟩ : ∃ S, strOf (recB r lsn) = S := ⟨_, rfl⟩
      have cv1 := fun nq => str_bytes ((OwnB.rd (F := NoF) ho2 (fun _ _ => noF _)).drewN nq)
      have cv2 := fun nq => str_bytes ((HRD2.out.below (HBL.out.trans (hb2.mono HBL.out.size))).drewN nq)
      rw [hS] at cv1 cv2
      have HB2 := Lib.hid hb2
      clear ho2 hb2 z0 HBY
      go_wp2
      go_quiet (fail)
      obtain ⟨w3, hw3⟩ : ∃ w3, w2.drewN nq = w3 := ⟨_, rfl⟩
      rw [hw3]
      have hb3 : Below wr.heap.size wr w3 := by rw [← hw3]; exact below_drewN HB2.out nq
      have k123 := (hb3.block _ (lt_of_block K12.out)).trans K12.out
      have k63 := (hb3.block _ (lt_of_block K6.out)).trans K6.out
      obtain ⟨w4, hw4⟩ : ∃ w4, w3.setRow w.heap.size (rcs r (.slice da dn dc) (.slice va us.length vc)) = w4 := ⟨_, rfl⟩
      have k64 : w4.heap[w.heap.size]? = some (.cells (rcs r (.slice da dn dc) (.slice va us.length vc)) 26 (0, 0)) := by rw [← hw4]; exact setRow_blk k63
      have h1c : (rcs r (.slice da dn dc) (.slice va us.length vc)).all (·.oneCell') = true := by simp [rcs, Value.oneCell']
      have hbw3 := HBL.out.trans (hb3.mono HBL.out.size)
      have hs4 : w4.heap.size = w3.heap.size := by rw [← hw4]; simp [World.setRow]
      have hb4 : Below w.heap.size w w4 := ⟨by rw [← hw4]; exact hbw3.os, by rw [← hw4]; exact hbw3.tape, by rw [← hw4]; exact hbw3.output, by rw [hs4]; exact hbw3.size, fun k hk => by rw [← hw4, setRow_other (by omega)]; exact hbw3.block k hk⟩
      have hrec4 : RecAt (OldF w.heap.size) w4 r ⟨.slice da dn dc, .slice va us.length vc, us⟩ := (HRD0.out.below hb3).keep (fun k hk hn => by rw [← hw4]; exact setRow_other (fun e => hn (by unfold OldF; omega))) (fun k hk h => by unfold OldF at *; omega)
      have K123 := Lib.hid k123
      have K63 := Lib.hid k63
      have K64 := Lib.hid k64
      have H1C := Lib.hid h1c
      have HB4 := Lib.hid (And.intro hb4 hrec4)
      clear cv1 cv2 hw3 hb3 k123 k63 k64 h1c hbw3 hs4 hb4 hrec4 hsl2 hbm hS
      go_wp2_with (first | (refine wpList_load_row rfl _ _ rfl (w.heap.size + 1 + 1 + 1) rfl _ _ (0, 0) _ K123.out Try.underlying26 rfl infoR ?_) | (refine wpList_store_row rfl _ _ _ rfl w.heap.size (rcs r (.slice da dn dc) (.slice va us.length vc)) rfl rfl _ _ K63.out infoR rfl H1C.out ?_; rw [hw4]) | fail)
      obtain ⟨q0, q1, q2, q3, q4, q5⟩ := box6 (w := w) K64.out
      refine bodyPost_ret (by simp [results, Try.results58, go_sem, q0, q1, q2, q3, q4, q5]; try rfl) rfl ?_
      have hnx : ((A + recLen r : Nat) : Int) = (A : Int) + 8 + (s : Int) := by
        unfold recLen; have := HV.out.2.2.2.2.2.2.2.1; omega
      refine ⟨⟨.slice da dn dc, .slice va us.length vc, us⟩, ?_, HB4.out.2, HB4.out.1⟩
      rw [hnx]
      rfl
end Mun
