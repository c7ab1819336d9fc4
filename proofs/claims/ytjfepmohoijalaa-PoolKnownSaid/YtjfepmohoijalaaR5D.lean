/- Contracts of munimentref5: New, Check. -/
import Derived.Test.YtjfepmohoijalaaR5B
import Derived.Test.YtjfepmohoijalaaR5C
import Derived.Test.YtjfepmohoijalaaR5P
import Derived.Test.YtjfepmohoijalaaKeptPA
import Derived.Test.YtjfepmohoijalaaP11
set_option maxRecDepth 100000
set_option linter.unusedVariables false
set_option linter.unusedSimpArgs false
namespace Mun
open Go Go.RowKit
open Go.Proofs

theorem r5new (w : World) (k : Nat) (h : k ≤ 255) : Calls Try.prog 14 #[.int .i64 k] w (PwOut w (newP k)) := by
  have hmk : (Instr.makeSlice 31 (.int .i64 512) (.int .i64 512)).run Try.prog w = .ok (.slice (some ⟨w.heap.size, 0, none⟩) 512 512) (w.alloc (bobj (zer 512))) := make_bytes 512 512 (Nat.le_refl _) (by decide) w
  have h0 : Pw w.heap.size (w.alloc (bobj (zer 512))) w.heap.size 512 512 (zer 512) := ⟨own_block (heap_alloc_new w _) 512 (by simp [zer]) (by decide) (Nat.le_refl _), by simp [zer], by decide⟩
  obtain ⟨w1, hw1⟩ : ∃ w1, w.alloc (bobj (zer 512)) = w1 := ⟨_, rfl⟩
  have hb1 : Below w.heap.size w w1 := by rw [← hw1]; exact (Below.refl _ _).alloc (Nat.le_refl _) _
  rw [hw1] at hmk h0
  have hset := h0.set 12 (by decide) (UInt8.ofNat k) (k : Int) (by rw [UInt8.toNat_ofNat']; omega)
  obtain ⟨b0, hcell⟩ := h0.own.cellEx 12 (by rw [← h0.len]; decide)
  have hfr := h0.own.frozenAt (by rw [← h0.len]; decide) 12
  have hch := chg_set w1 w.heap.size 12 (.int .u8 (k : Int))
  have hp := r5put _ w.heap.size w.heap.size 512 512 _ 16 2 16 2 512 rfl rfl hset (by decide) (by decide) (by decide) (by decide)
  have HP := Lib.hid hp
  have HB := Lib.hid (And.intro hb1 hch)
  have hk : (k : Int) ≤ 255 := by omega
  clear hset h0 hch hp hb1 hw1 h
  go_enter Try.func14, Try.ntmps14
  go_wp2_with fail
  refine HP.out.mono ?_
  rintro e w4 ⟨rfl, hp4, hc4⟩
  have hfin : Hid (PwOut w (newP k) (.returned (.slice (some ⟨w.heap.size, 0, none⟩) 512 512)) w4) := ⟨_, _, rfl, hp4, HB.out.1.trans ((HB.out.2.trans hc4).below HB.out.1.size (fun k hk e => by have h4 : k = w.heap.size := e; omega))⟩
  clear hp4 hc4 HP HB hmk hcell hfr
  go_wp2
  go_ret
  exact hfin.out

/-- all noughts so far -/
def zk (p : PBytes) (k : Nat) : Bool := decide (p.length = 512) && (p.take k).all (· == 0)
theorem zk_zero (p : PBytes) : zk p 0 = decide (p.length = 512) := by simp [zk]
theorem zk_succ (p : PBytes) (k : Nat) (hk : k < p.length) : zk p (k + 1) = (zk p k && (p[k] == 0)) := by
  unfold zk
  rw [take_snoc p k hk, List.all_append, List.all_cons, List.all_nil, Bool.and_true, Bool.and_assoc]
theorem zk_all (p : PBytes) : zk p p.length = decide (p = zer 512) := by
  unfold zk
  rw [List.take_length]
  by_cases h : p = zer 512
  · subst h
    rfl
  · rw [decide_eq_false h]
    by_cases hl : p.length = 512
    · rw [decide_eq_true hl, Bool.true_and]
      by_cases ha : p.all (· == 0) = true
      · exfalso
        apply h
        unfold zer
        rw [List.eq_replicate_iff]
        refine ⟨hl, fun b hb => ?_⟩
        rw [List.all_eq_true] at ha
        simpa using ha b hb
      · simpa using ha
    · rw [decide_eq_false hl, Bool.false_and]

end Mun
