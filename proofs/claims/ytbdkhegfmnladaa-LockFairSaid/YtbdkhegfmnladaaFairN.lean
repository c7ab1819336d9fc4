/- Contract of munimentlaw14.numbers at two rows that read as one list. -/
import Derived.Test.YtbdkhegfmnladaaLockMk
set_option maxRecDepth 100000
set_option linter.unusedVariables false
set_option linter.unusedSimpArgs false
namespace Mun
open Go Go.RowKit
open Go.Proofs

theorem ov_cell {F : Foot} {w : World} {a : Option Addr} {n c : Nat} {l : List (Int × Int)} (h : RdV F w 1 (.slice a n c) n (ov l)) (hn : l.length = n) (i : Nat) (hi : i < l.length) :
    ∃ g off, a = some ⟨g, off, none⟩ ∧ ∀ W, Below w.heap.size w W → W.cell? ⟨g, off + i, none⟩ = some (.int .u64 l[i].1) := by
  obtain ⟨g, off, c', hv, -, -, -, hg, hc⟩ := RdV.at_ h (by omega)
  injection hv with e1 e2 e3
  refine ⟨g, off, e1, fun W hb => ?_⟩
  have hx := hc i (.int .u64 l[i].1) (by simp [ov, hi])
  rw [World.cell?_of_block (hb.block g (World.block_lt_of_cell? _ _ hx))]
  exact hx

theorem numbers_same {F : Foot} (w : World) (a b : Option Addr) (n c d : Nat) (l : List (Int × Int)) (hn : l.length = n) (hn2 : n ≤ 4398046511104) (h1 : RdV F w 1 (.slice a n c) n (ov l)) (h2 : RdV F w 1 (.slice b n d) n (ov l)) :
    Calls Try.prog 20 #[.slice a n c, .slice b n d] w fun e w' => e = .returned (.bool true) ∧ Below w.heap.size w w' := by
  have HN := Lib.hid (And.intro hn (And.intro h1 h2))
  have hnb : (n : Int) ≤ 4398046511104 := by omega
  have hnn : ((n : Int) != (n : Int)) = false := by simp
  clear hn h1 h2 hn2
  go_enter Try.func20, Try.ntmps20
  go_wp2_with fail
  go_loopw [5] (fun iv wr => ∃ i : Nat, i ≤ n ∧ iv = .int .i64 i ∧ Below w.heap.size w wr) (fun iv _ => n - (Go.RowKit.intOf iv).toNat)
  case atStart => exact ⟨0, Nat.zero_le _, rfl, Below.refl _ _⟩
  case round =>
    obtain ⟨i, hin, rfl, hb⟩ := hrel
    by_cases hi : i < n
    · obtain ⟨g1, o1, rfl, k1⟩ := ov_cell HN.out.2.1 HN.out.1 i (by rw [HN.out.1]; exact hi)
      obtain ⟨g2, o2, rfl, k2⟩ := ov_cell HN.out.2.2 HN.out.1 i (by rw [HN.out.1]; exact hi)
      have c1 := k1 wr hb
      have c2 := k2 wr hb
      obtain ⟨y, hy⟩ : ∃ y, (l[i]'(by rw [HN.out.1]; exact hi)).1 = y := ⟨_, rfl⟩
      rw [hy] at c1 c2
      have hyy : (y != y) = false := by simp
      have hii : (i : Int) < (n : Int) := by omega
      have hi0 : (0 : Int) ≤ (i : Int) := by omega
      have HI := Lib.hid (And.intro hi hb)
      clear k1 k2 hy hi hb hin
      go_upto_region 6 with fail
      go_quiet (fail)
      go_wp2
      go_roundw
      case rel => exact ⟨i + 1, HI.out.1, by go_num, below_drewN HI.out.2 _⟩
      case measure => have := HI.out.1; simp [Go.RowKit.intOf]; omega
    · have hii : ¬ (i : Int) < (n : Int) := by omega
      have HB := Lib.hid hb
      clear hb hi hin
      go_wp2
      go_ret
      exact ⟨rfl, HB.out⟩
end Mun
