/- Contracts of Head, Cell, Cells. -/
import Derived.Test.YtndeebchiodimaaP10
set_option maxRecDepth 100000
set_option linter.unusedVariables false
set_option linter.unusedSimpArgs false
namespace Mun
open Go Go.RowKit
open Go.Proofs

theorem head_no {F : Foot} (w : World) (v : Value) (p : List UInt8) (hv : RdB F w v p) (hg : ¬ GoodP p) : Calls Try.prog 28 #[v] w fun e w' => e = .returned (.tuple #[.int .i64 0, .int .u64 0, .int .i64 0, .int .i64 0, .int .i64 4]) ∧ Below w.heap.size w w' := by
  have hgo := pof_no w v p hv hg
  obtain ⟨a, n, c, rfl, HN, -, -⟩ := hv.formN
  have HG := Lib.hid hgo
  clear hgo hv hg HN
  go_enter Try.func28, Try.ntmps28
  go_wp2_with fail
  refine HG.out.mono ?_
  rintro e w2 ⟨rfl, hb⟩
  have HB := Lib.hid hb
  clear hb
  go_wp2
  exact bodyPost_ret (v := .tuple #[.int .i64 0, .int .u64 0, .int .i64 0, .int .i64 0, .int .i64 4]) (by simp [results, Try.results28, go_sem]) rfl ⟨rfl, HB.out.alloc HB.out.size _⟩

theorem gt1 (p : PBytes) (a : Nat) (h : a < p.length) : gt p a 1 = p[a].toNat := by
  unfold gt
  rw [List.drop_eq_getElem_cons h, List.take_succ_cons, List.take_zero]
  show p[a].toNat + 256 * 0 = _
  omega

set_option maxHeartbeats 1000000 in
theorem head_yes {F : Foot} (w : World) (v : Value) (p : List UInt8) (hv : RdB F w v p) (hg : GoodP p) :
    Calls Try.prog 28 #[v] w fun e w' => e = .returned (.tuple #[.int .i64 (gt p 12 1), .int .u64 (gt p 4 8), .int .i64 (gt p 18 4), .int .i64 (gt p 22 4), .int .i64 0]) ∧ Below w.heap.size w w' := by
  have hp := hg.len
  have hgo := pof_yes w v p hv hg
  obtain ⟨g, off, c, rfl, hlc, hcm, hF, hglt, hcells⟩ := hv.at_ (by omega)
  have c12 := hcells 12 (by omega)
  rw [hp] at hv hgo ⊢
  have hz := gt1 p 12 (by omega)
  rw [← hz] at c12
  have hzb : gt p 12 1 < 256 := gt_lt p 12 1
  obtain ⟨z, hzz⟩ : ∃ z, gt p 12 1 = z := ⟨_, rfl⟩
  obtain ⟨L, hL⟩ : ∃ L, gt p 4 8 = L := ⟨_, rfl⟩
  obtain ⟨x1, hx1⟩ : ∃ x1, gt p 18 4 = x1 := ⟨_, rfl⟩
  obtain ⟨x2, hx2⟩ : ∃ x2, gt p 22 4 = x2 := ⟨_, rfl⟩
  rw [hzz] at c12 hzb
  rw [hzz, hL, hx1, hx2]
  obtain ⟨a1, c1, hsl, hrd1⟩ := slice_bytes hv 4 12 4 12 rfl rfl (by decide) (by omega)
  have HG := Lib.hid hgo
  have HP := Lib.hid hp
  have HV := Lib.hid hv
  have HRD := Lib.hid hrd1
  have HX := Lib.hid (And.intro hL (And.intro hx1 (And.intro hx2 hglt)))
  have hwz : IntKind.i64.wrap (z : Int) = (z : Int) := by rw [IntKind.wrap_i64]; omega
  clear hgo hv hg hp hcells hz hzz hL hx1 hx2 hrd1 hF hzb
  go_enter Try.func28, Try.ntmps28
  go_wp2_with fail
  refine HG.out.mono ?_
  rintro e w2 ⟨rfl, hb⟩
  have hbx : (w2.alloc (.cells #[.slice (some ⟨g, off, none⟩) 512 c] 65)).drew.cell? ⟨w2.heap.size, 0, none⟩ = some (.slice (some ⟨g, off, none⟩) 512 c) := one_cell (w := w2.alloc (.cells #[.slice (some ⟨g, off, none⟩) 512 c] 65)) (heap_alloc_new w2 _)
  have hB3 : Below w.heap.size w (w2.alloc (.cells #[.slice (some ⟨g, off, none⟩) 512 c] 65)) := hb.alloc hb.size _
  obtain ⟨w3, hw3⟩ : ∃ w3, w2.alloc (.cells #[.slice (some ⟨g, off, none⟩) 512 c] 65) = w3 := ⟨_, rfl⟩
  rw [hw3] at hbx hB3
  have hS0 : (w3.drew.cell? ⟨w2.heap.size, 0, none⟩ = some (.slice (some ⟨g, off, none⟩) 512 c) ∧ Below w3.heap.size w3 w3.drew) ∧ w3.drew.cell? ⟨g, off + 12, none⟩ = some (.int .u8 (z : Int)) :=
    ⟨⟨hbx, below_drewN (Below.refl _ _) 1⟩, (hB3.cell (p := ⟨g, off + 12, none⟩) HX.out.2.2.2).trans c12⟩
  have hstep : ∀ W, Below w3.heap.size w3 W → W.cell? ⟨g, off + 12, none⟩ = some (.int .u8 (z : Int)) := fun W hW => ((hB3.trans (hW.mono hB3.size)).cell (p := ⟨g, off + 12, none⟩) HX.out.2.2.2).trans c12
  have hwd := word_any w3.drew _ _ (RdB.drewN (RdB.below HRD.out hB3) 1) (by rw [List.length_take]; exact Nat.min_le_left _ _)
  have hwe : leNat ((p.drop 4).take (12 - 4)) = L := HX.out.1
  rw [hwe] at hwd
  have hg1 : ∀ W, Below w3.heap.size w3 W → Calls Try.prog 62 #[.agg #[.slice (some ⟨g, off, none⟩) 512 c], .int .i64 18, .int .i64 4] W fun e w' => e = .returned (.int .i64 (x1 : Int)) ∧ Below W.heap.size W w' := fun W hW => by
    have := get_any (F := F) W _ p 18 4 18 4 rfl rfl (RdB.below (RdB.below HV.out hB3) hW) (by have := HP.out; omega) (by decide) (by have := HP.out; omega)
    rw [HX.out.2.1] at this
    exact this
  have hg2 : ∀ W, Below w3.heap.size w3 W → Calls Try.prog 62 #[.agg #[.slice (some ⟨g, off, none⟩) 512 c], .int .i64 22, .int .i64 4] W fun e w' => e = .returned (.int .i64 (x2 : Int)) ∧ Below W.heap.size W w' := fun W hW => by
    have := get_any (F := F) W _ p 22 4 22 4 rfl rfl (RdB.below (RdB.below HV.out hB3) hW) (by have := HP.out; omega) (by decide) (by have := HP.out; omega)
    rw [HX.out.2.2.1] at this
    exact this
  have HWD := Lib.hid hwd
  have HG1 := Lib.hid hg1
  have HG2 := Lib.hid hg2
  have HST := Lib.hid hstep
  have HB3 := Lib.hid hB3
  clear hb hbx hB3 hwd hwe hg1 hg2 hstep c12
  go_wp2
  go_region_held_law (fun W => (W.cell? ⟨w2.heap.size, 0, none⟩ = some (.slice (some ⟨g, off, none⟩) 512 c) ∧ Below w3.heap.size w3 W) ∧ W.cell? ⟨g, off + 12, none⟩ = some (.int .u8 (z : Int)))
    (first | exact ⟨hS2, HST.out _ hS2.2⟩ | exact ⟨hS1, HST.out _ hS1.2⟩ | exact hS0)
    (first
    | ((go_simp; go_at_call 61; refine HWD.out.mono ?_; rintro e W0 ⟨rfl, rfl⟩; clear HWD))
    | ((go_simp; go_at_call 62; refine (HG1.out _ hS0.1.2).mono ?_; rintro e W1 ⟨rfl, hb1⟩; have hS1 := boxS_keep hS0.1 hb1; clear HG1))
    | ((go_simp; go_at_call 62; refine (HG2.out _ hS1.2).mono ?_; rintro e W2 ⟨rfl, hb2⟩; have hS2 := boxS_keep hS1 hb2; clear HG2)))
  have HF := Lib.hid hS2.2
  clear hS0 hS1 hS2 hb1 hb2
  go_wp2
  exact bodyPost_ret (v := .tuple #[.int .i64 z, .int .u64 L, .int .i64 x1, .int .i64 x2, .int .i64 0]) (by simp [results, Try.results28, go_sem]) rfl ⟨rfl, HB3.out.trans (HF.out.mono HB3.out.size)⟩

/-- bytes are told, in new memory -/
def BytesOut (w : World) (c : PBytes) (e : Ending) (w' : World) : Prop := ∃ g, e = .returned (.tuple #[.slice (some ⟨g, 0, none⟩) c.length c.length, .int .i64 0]) ∧ w'.heap[g]? = some (bobj c) ∧ w.heap.size ≤ g ∧ Below w.heap.size w w'

theorem cell_no {F : Foot} (w : World) (v : Value) (p : List UInt8) (i : Int) (hv : RdB F w v p) (hg : ¬ GoodP p) : Calls Try.prog 34 #[v, .int .i64 i] w (PageNo w 4) := by
  have hgo := pof_no w v p hv hg
  obtain ⟨a, n, c, rfl, HN, -, -⟩ := hv.formN
  have HG := Lib.hid hgo
  clear hgo hv hg HN
  go_enter Try.func34, Try.ntmps34
  go_wp2_with fail
  refine HG.out.mono ?_
  rintro e w2 ⟨rfl, hb⟩
  have HB := Lib.hid hb
  clear hb
  go_wp2
  go_ret2
  exact ⟨rfl, HB.out.alloc HB.out.size _⟩

theorem cell_bad {F : Foot} (w : World) (v : Value) (p : List UInt8) (i : Int) (hv : RdB F w v p) (hg : GoodP p) (hi : i < 0 ∨ (¬ i < 0 ∧ (cnt p : Int) ≤ i)) : Calls Try.prog 34 #[v, .int .i64 i] w (PageNo w 1) := by
  have hgo := pof_yes w v p hv hg
  have HV := Lib.hid hv
  have HP := Lib.hid hg.len
  obtain ⟨a, n, c, rfl, HN, -, -⟩ := hv.formN
  have HG := Lib.hid hgo
  clear hgo hv hg HN
  rcases hi with hi | ⟨hi, hi2⟩
  · go_enter Try.func34, Try.ntmps34
    go_wp2_with fail
    refine HG.out.mono ?_
    rintro e w2 ⟨rfl, hb⟩
    have HB := Lib.hid hb
    clear hb
    go_wp2
    go_ret2
    exact ⟨rfl, HB.out.alloc HB.out.size _⟩
  · obtain ⟨m, hm⟩ : ∃ m, cnt p = m := ⟨_, rfl⟩
    rw [hm] at hi2
    have hi3 : i ≥ (m : Int) := hi2
    have HM := Lib.hid hm
    clear hm hi2
    go_enter Try.func34, Try.ntmps34
    go_wp2_with fail
    refine HG.out.mono ?_
    rintro e w2 ⟨rfl, hb⟩
    have hv3 : RdB F (w2.alloc (.cells #[.slice a n c] 65)) (.slice a n c) p := RdB.alloc (RdB.below HV.out hb) _
    have hc := count_any _ _ p hv3 HP.out
    rw [HM.out] at hc
    have HC := Lib.hid hc
    have HB := Lib.hid (hb.alloc hb.size (.cells #[.slice a n c] 65))
    clear hb hv3 hc
    go_wp2_with fail
    refine HC.out.mono ?_
    rintro e w4 ⟨rfl, hb4⟩
    have HB4 := Lib.hid hb4
    clear hb4
    go_wp2
    go_ret2
    exact ⟨rfl, HB.out.trans (HB4.out.mono HB.out.size)⟩

theorem cell_yes {F : Foot} (w : World) (v : Value) (p : List UInt8) (i : Nat) (hv : RdB F w v p) (hg : GoodP p) (hi : i < cnt p) : Calls Try.prog 34 #[v, .int .i64 i] w (BytesOut w (cellP p i)) := by
  have hgo := pof_yes w v p hv hg
  have HV := Lib.hid hv
  have HP := Lib.hid hg
  obtain ⟨a, n, c, rfl, HN, -, -⟩ := hv.formN
  obtain ⟨m, hm⟩ : ∃ m, cnt p = m := ⟨_, rfl⟩
  have HM := Lib.hid (And.intro hm hi)
  have t1 : ¬ (i : Int) < 0 := by omega
  have t2 : ¬ (i : Int) ≥ (m : Int) := by omega
  have HG := Lib.hid hgo
  clear hgo hv hg HN hm hi
  go_enter Try.func34, Try.ntmps34
  go_wp2_with fail
  refine HG.out.mono ?_
  rintro e w2 ⟨rfl, hb⟩
  have hv3 : RdB F (w2.alloc (.cells #[.slice a n c] 65)) (.slice a n c) p := RdB.alloc (RdB.below HV.out hb) _
  have hx3 := one_cell (heap_alloc_new w2 (.cells #[.slice a n c] 65))
  have hc := count_any _ _ p hv3 HP.out.len
  rw [HM.out.1] at hc
  have HC := Lib.hid hc
  have HB := Lib.hid (hb.alloc hb.size (.cells #[.slice a n c] 65))
  have HV3 := Lib.hid hv3
  clear hb hv3 hc
  go_wp2_with fail
  refine HC.out.mono ?_
  rintro e w4 ⟨rfl, hb4⟩
  have hx4 := box_chg hx3 (Chg.of_below hb4 (fun _ => False)) (fun x => x)
  have hcl := cell_any w4 _ p i (RdB.below HV3.out hb4) HP.out.len (by have := HP.out.fit; have := HP.out.low; have := HM.out.2; omega) (HP.out.cell i HM.out.2).2
  have HB4 := Lib.hid (HB.out.trans (hb4.mono HB.out.size))
  have HCL := Lib.hid hcl
  clear hb4 hcl hx3
  go_wp2_with fail
  refine HCL.out.mono ?_
  rintro e w5 ⟨v5, rfl, hv5, hb5⟩
  have hv55 := RdB.below hv5 hb5
  obtain ⟨a5, n5, c5, rfl, HN5, -, -⟩ := hv5.formN
  have HB5 := Lib.hid (HB4.out.trans (hb5.mono HB4.out.size))
  have HV5 := Lib.hid hv55
  have hle : (cellP p i).length ≤ 140737488355328 := by unfold cellP; rw [List.length_take, List.length_drop]; have := HP.out.len; omega
  have HLE := Lib.hid hle
  clear hb5 hv5 hv55 hx4 hle
  go_wp2_with fail
  refine (clone5 _ _ (cellP p i) HV5.out HLE.out).mono ?_
  rintro e w6 ⟨rfl, hw6⟩
  have HF : Hid (w6.heap[w5.heap.size]? = some (bobj (cellP p i)) ∧ Below w.heap.size w w6) := by
    show _ ∧ _
    rw [← hw6]
    exact ⟨heap_alloc_new w5 _, HB5.out.alloc HB5.out.size _⟩
  clear hw6
  go_wp2
  go_ret2
  exact ⟨_, rfl, HF.out.1, HB5.out.size, HF.out.2⟩
end Mun
