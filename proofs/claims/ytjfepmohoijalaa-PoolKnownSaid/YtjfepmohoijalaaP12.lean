/- Contracts of Head, Cell, Cells. -/
import Derived.Test.YtjfepmohoijalaaP10
set_option maxRecDepth 100000
set_option linter.unusedVariables false
set_option linter.unusedSimpArgs false
namespace Mun
open Go Go.RowKit
open Go.Proofs

theorem head_no {F : Foot} (w : World) (v : Value) (p : List UInt8) (hv : RdB F w v p) (hg : ¬ GoodP p) : Calls Try.prog 36 #[v] w fun e w' => e = .returned (.tuple #[.int .i64 0, .int .u64 0, .int .i64 0, .int .i64 0, .int .i64 4]) ∧ Below w.heap.size w w' := by
  have hgo := pof_no w v p hv hg
  obtain ⟨a, n, c, rfl, HN, -, -⟩ := hv.formN
  have HG := Lib.hid hgo
  clear hgo hv hg HN
  go_enter Try.func36, Try.ntmps36
  go_wp2_with fail
  refine HG.out.mono ?_
  rintro e w2 ⟨rfl, hb⟩
  have HB := Lib.hid hb
  clear hb
  go_wp2
  exact bodyPost_ret (v := .tuple #[.int .i64 0, .int .u64 0, .int .i64 0, .int .i64 0, .int .i64 4]) (by simp [results, Try.results36, go_sem]) rfl ⟨rfl, HB.out.alloc HB.out.size _⟩

theorem gt1 (p : PBytes) (a : Nat) (h : a < p.length) : gt p a 1 = p[a].toNat := by
  unfold gt
  rw [List.drop_eq_getElem_cons h, List.take_succ_cons, List.take_zero]
  show p[a].toNat + 256 * 0 = _
  omega

set_option maxHeartbeats 1000000 in
theorem head_yes {F : Foot} (w : World) (v : Value) (p : List UInt8) (hv : RdB F w v p) (hg : GoodP p) :
    Calls Try.prog 36 #[v] w fun e w' => e = .returned (.tuple #[.int .i64 (gt p 12 1), .int .u64 (gt p 4 8), .int .i64 (gt p 18 4), .int .i64 (gt p 22 4), .int .i64 0]) ∧ Below w.heap.size w w' := by
  have hp := hg.len
  have hgo := pof_yes w v p hv hg
  obtain ⟨g, off, c, rfl, hlc, hcm, hF, hglt, hcells⟩ := hv.at_ (by omega)
  have c12 := hcells 12 (by omega)
  rw [hp] at hv hgo ⊢
  have hz := gt1 p 12 (by omega)
  rw [← hz] at c12
  have hzb : gt p 12 1 < 256 := gt_lt p 12 1
  obtain ⟨z, hzz⟩ : ∃ z, gt p 12 1 = z := ⟨_, rfl⟩
  obtain ⟨L, hL⟩ : ∃ L, gt p 4 8 = L := ⟨_, rfl⟩
  obtain ⟨x1, hx1⟩ : ∃ x1, gt p 18 4 = x1 := ⟨_, rfl⟩
  obtain ⟨x2, hx2⟩ : ∃ x2, gt p 22 4 = x2 := ⟨_, rfl⟩
  rw [hzz] at c12 hzb
  rw [hzz, hL, hx1, hx2]
  obtain ⟨a1, c1, hsl, hrd1⟩ := slice_bytes hv 4 12 4 12 rfl rfl (by decide) (by omega)
  have HG := Lib.hid hgo
  have HP := Lib.hid hp
  have HV := Lib.hid hv
  have HRD := Lib.hid hrd1
  have HX := Lib.hid (And.intro hL (And.intro hx1 (And.intro hx2 hglt)))
  have hwz : IntKind.i64.wrap (z : Int) = (z : Int) := by rw [IntKind.wrap_i64]; omega
  clear hgo hv hg hp hcells hz hzz hL hx1 hx2 hrd1 hF hzb
  go_enter Try.func36, Try.ntmps36
  go_wp2_with fail
  refine HG.out.mono ?_
  rintro e w2 ⟨rfl, hb⟩
  have hbx : (w2.alloc (.cells #[.slice (some ⟨g, off, none⟩) 512 c] 96)).drew.cell? ⟨w2.heap.size, 0, none⟩ = some (.slice (some ⟨g, off, none⟩) 512 c) := one_cell (w := w2.alloc (.cells #[.slice (some ⟨g, off, none⟩) 512 c] 96)) (heap_alloc_new w2 _)
  have hB3 : Below w.heap.size w (w2.alloc (.cells #[.slice (some ⟨g, off, none⟩) 512 c] 96)) := hb.alloc hb.size _
  obtain ⟨w3, hw3⟩ : ∃ w3, w2.alloc (.cells #[.slice (some ⟨g, off, none⟩) 512 c] 96) = w3 := ⟨_, rfl⟩
  rw [hw3] at hbx hB3
  have hS0 : (w3.drew.cell? ⟨w2.heap.size, 0, none⟩ = some (.slice (some ⟨g, off, none⟩) 512 c) ∧ Below w3.heap.size w3 w3.drew) ∧ w3.drew.cell? ⟨g, off + 12, none⟩ = some (.int .u8 (z : Int)) :=
    ⟨⟨hbx, below_drewN (Below.refl _ _) 1⟩, (hB3.cell (p := ⟨g, off + 12, none⟩) HX.out.2.2.2).trans c12⟩
  have hstep : ∀ W, Below w3.heap.size w3 W → W.cell? ⟨g, off + 12, none⟩ = some (.int .u8 (z : Int)) := fun W hW => ((hB3.trans (hW.mono hB3.size)).cell (p := ⟨g, off + 12, none⟩) HX.out.2.2.2).trans c12
  have hwd := word_any w3.drew _ _ (RdB.drewN (RdB.below HRD.out hB3) 1) (by rw [List.length_take]; exact Nat.min_le_left _ _)
  have hwe : leNat ((p.drop 4).take (12 - 4)) = L := HX.out.1
  rw [hwe] at hwd
  have hg1 : ∀ W, Below w3.heap.size w3 W → Calls Try.prog 42 #[.agg #[.slice (some ⟨g, off, none⟩) 512 c], .int .i64 18, .int .i64 4] W fun e w' => e = .returned (.int .i64 (x1 : Int)) ∧ Below W.heap.size W w' := fun W hW => by
    have := get_any (F := F) W _ p 18 4 18 4 rfl rfl (RdB.below (RdB.below HV.out hB3) hW) (by have := HP.out; omega) (by decide) (by have := HP.out; omega)
    rw [HX.out.2.1] at this
    exact this
  have hg2 : ∀ W, Below w3.heap.size w3 W → Calls Try.prog 42 #[.agg #[.slice (some ⟨g, off, none⟩) 512 c], .int .i64 22, .int .i64 4] W fun e w' => e = .returned (.int .i64 (x2 : Int)) ∧ Below W.heap.size W w' := fun W hW => by
    have := get_any (F := F) W _ p 22 4 22 4 rfl rfl (RdB.below (RdB.below HV.out hB3) hW) (by have := HP.out; omega) (by decide) (by have := HP.out; omega)
    rw [HX.out.2.2.1] at this
    exact this
  have HWD := Lib.hid hwd
  have HG1 := Lib.hid hg1
  have HG2 := Lib.hid hg2
  have HST := Lib.hid hstep
  have HB3 := Lib.hid hB3
  clear hb hbx hB3 hwd hwe hg1 hg2 hstep c12
  go_wp2
  go_region_held_law (fun W => (W.cell? ⟨w2.heap.size, 0, none⟩ = some (.slice (some ⟨g, off, none⟩) 512 c) ∧ Below w3.heap.size w3 W) ∧ W.cell? ⟨g, off + 12, none⟩ = some (.int .u8 (z : Int)))
    (first | exact ⟨hS2, HST.out _ hS2.2⟩ | exact ⟨hS1, HST.out _ hS1.2⟩ | exact hS0)
    (first
    | ((go_simp; go_at_call 29; refine HWD.out.mono ?_; rintro e W0 ⟨rfl, rfl⟩; clear HWD))
    | ((go_simp; go_at_call 42; refine (HG1.out _ hS0.1.2).mono ?_; rintro e W1 ⟨rfl, hb1⟩; have hS1 := boxS_keep hS0.1 hb1; clear HG1))
    | ((go_simp; go_at_call 42; refine (HG2.out _ hS1.2).mono ?_; rintro e W2 ⟨rfl, hb2⟩; have hS2 := boxS_keep hS1 hb2; clear HG2)))
  have HF := Lib.hid hS2.2
  clear hS0 hS1 hS2 hb1 hb2
  go_wp2
  exact bodyPost_ret (v := .tuple #[.int .i64 z, .int .u64 L, .int .i64 x1, .int .i64 x2, .int .i64 0]) (by simp [results, Try.results36, go_sem]) rfl ⟨rfl, HB3.out.trans (HF.out.mono HB3.out.size)⟩

/-- bytes are told, in new memory -/
def BytesOut (w : World) (c : PBytes) (e : Ending) (w' : World) : Prop := ∃ g, e = .returned (.tuple #[.slice (some ⟨g, 0, none⟩) c.length c.length, .int .i64 0]) ∧ w'.heap[g]? = some (bobj c) ∧ w.heap.size ≤ g ∧ Below w.heap.size w w'

end Mun
