/- The law's own page: awake. -/
import Derived.Test.YtjfepmohoijalaaPoolR
set_option maxRecDepth 100000
set_option linter.unusedVariables false
set_option linter.unusedSimpArgs false
namespace Mun
open Go Go.RowKit
open Go.Proofs

set_option maxHeartbeats 1000000 in
theorem awake8 (w : World) : Calls Try.prog 5 #[] w fun e w' => e = .returned (.bool true) ∧ Below w.heap.size w w' := by
  have hbe : Calls Try.prog 6 #[.int .i64 4, .int .i64 100, .int .i64 2] w (BenchOut w 4 100 2) := bench_any w 4 100 2 (by decide) (by decide) (by decide) (by decide) (by decide)
  have HBE := Lib.hid hbe
  clear hbe
  go_enter Try.func5, Try.ntmps5
  go_wp2_with fail
  refine HBE.out.mono ?_
  rintro e w1 ⟨D, L, Pb, g, Fd, rfl, hat, hb1, hpf⟩
  obtain ⟨w2, hw2⟩ : ∃ w2, w1.alloc (.cells #[.pointer (some ⟨D, 0, none⟩), .pointer (some ⟨L, 0, none⟩), .pointer (some ⟨Pb, 0, none⟩)] 28) = w2 := ⟨_, rfl⟩
  have hb12 : Below w1.heap.size w1 w2 := by rw [← hw2]; exact (Below.refl _ _).alloc (Nat.le_refl _) _
  have hat2 := hat.below hb12
  have kB : w2.heap[w1.heap.size]? = some (.cells #[.pointer (some ⟨D, 0, none⟩), .pointer (some ⟨L, 0, none⟩), .pointer (some ⟨Pb, 0, none⟩)] 28 (0, 0)) := by rw [← hw2]; exact heap_alloc_new w1 _
  have cB : w2.cell? ⟨w1.heap.size, 2, none⟩ = some (.pointer (some ⟨Pb, 0, none⟩)) := cell_of_row _ _ 2 _ _ _ kB
  have hpin := pin_new hat2 (PinI.new 2 4) (fun n => new_page 4 100 n) 0 (by decide) (by simp) (by decide)
  have HPIN := Lib.hid hpin
  have HX := Lib.hid (And.intro hb1 (And.intro hb12 (And.intro hpf (And.intro kB hat.rep))))
  clear hat hb1 hpf hb12 hat2 kB hpin
  go_wp2_with fail
  refine HPIN.out.mono ?_
  rintro e w4 ⟨gx, p', v', rfl, hown, hat4, hpi, hft, hc⟩
  obtain ⟨hb1, hb12, hpf, kB, hrep⟩ := HX.out
  have hnB : ¬ pfoot Pb (newPLV g 2) w1.heap.size := fun hk => Nat.lt_irrefl _ (hrep.lt _ hk)
  have hBl : w1.heap.size < w2.heap.size := (Array.getElem?_eq_some_iff.1 kB).1
  have kB4 := (hc.block _ hBl hnB).trans kB
  have hb4 : Below w.heap.size w w4 := (hb1.trans (hb12.mono hb1.size)).trans (hc.below (Nat.le_trans hb1.size hb12.size) (fun k hk h => by have := hpf k h; omega))
  obtain ⟨i, x, hx, hp, hpn, -, -⟩ := hpi.at_ (n := ((0 : Nat) : Int)) (by simp)
  have hrx : RdB NoF w4 (.slice (some ⟨gx, 0, none⟩) 512 512) page0 := hown.rd (fun _ _ => noF _)
  have b0 : Below w4.heap.size w4 w4.drew := below_drewN (Below.refl _ _) 1
  have b1 : Below w4.heap.size w4 (w4.alloc (bobj page0)).drew := b0.alloc b0.size _
  have hms : ∀ V : World, (Instr.makeSlice 31 (.int .i64 512) (.int .i64 512)).run Try.prog V = .ok (.slice (some ⟨V.heap.size, 0, none⟩) 512 512) (V.alloc (bobj page0)) := fun V => make_bytes 512 512 (Nat.le_refl _) (by decide) V
  have cc4 : w4.cell? ⟨w1.heap.size, 2, none⟩ = some (.pointer (some ⟨Pb, 0, none⟩)) := cell_of_row _ _ 2 _ _ _ kB4
  have hbl4 : w1.heap.size < w4.heap.size := (Array.getElem?_eq_some_iff.1 kB4).1
  have hS0 : (convert 31 9 (.slice (some ⟨gx, 0, none⟩) 512 512)).run Try.prog w4.drew = .ok (.string (strOf page0)) w4.drew ∧ w4.drew.cell? ⟨w1.heap.size, 2, none⟩ = some (.pointer (some ⟨Pb, 0, none⟩)) := ⟨str_bytes (RdB.below hrx b0), cc4⟩
  have hS1 : (convert 31 9 (.slice (some ⟨gx, 0, none⟩) 512 512)).run Try.prog (w4.alloc (bobj page0)).drew = .ok (.string (strOf page0)) (w4.alloc (bobj page0)).drew ∧ (w4.alloc (bobj page0)).drew.cell? ⟨w1.heap.size, 2, none⟩ = some (.pointer (some ⟨Pb, 0, none⟩)) := ⟨str_bytes (RdB.below hrx b1), (World.cell?_of_block (b1.block _ hbl4)).trans cc4⟩
  have cp1 : (convert 31 9 (.slice (some ⟨w4.heap.size, 0, none⟩) 512 512)).run Try.prog (w4.alloc (bobj page0)).drew = .ok (.string (strOf page0)) (w4.alloc (bobj page0)).drew :=
    str_bytes (bobj_rd (F := NoF) w4.drew page0 512 rfl (by decide) (noF _))
  have hpc := pins_yes (w4.alloc (bobj page0)).drew Pb D L _ p' v' ((hat4.below b1).rep) 0 i x hx hp (by decide)
  rw [hpn] at hpc
  have HPC : Hid (Calls Try.prog 10 #[.pointer (some ⟨Pb, 0, none⟩), .int .i64 0] (w4.alloc (bobj page0)).drew fun e w' => e = .returned (.int .i64 1) ∧ (w4.alloc (bobj page0)).drew = w') := hpc
  have HB := Lib.hid (hb4.trans (b1.mono hb4.size))
  clear hown hat4 hpi hft hc hb1 hb12 hpf kB hrep hnB hBl kB4 hb4 hx hp hpn hrx b0 b1 hbl4 hpc HX HPIN HBE cB hw2 cc4
  go_upto_region 5 with (fail)
  go_region_held (fun V => (convert 31 9 (.slice (some ⟨gx, 0, none⟩) 512 512)).run Try.prog V = .ok (.string (strOf page0)) V ∧ V.cell? ⟨w1.heap.size, 2, none⟩ = some (.pointer (some ⟨Pb, 0, none⟩)))
    (first | assumption | exact hS0 | exact hS1)
    ((go_at_call 10; refine HPC.out.mono ?_; rintro e W' ⟨rfl, rfl⟩))
  all_goals
    go_wp2
    go_ret
    exact ⟨rfl, HB.out⟩
end Mun
