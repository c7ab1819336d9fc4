/- PoolKnown's parts: frames; Put of a page that is not held. -/
import Derived.Test.YtjfepmohoijalaaPoolT
set_option maxRecDepth 100000
set_option linter.unusedVariables false
set_option linter.unusedSimpArgs false
namespace Mun
open Go Go.RowKit
open Go.Proofs

theorem put_no (w : World) (Pb D L : Nat) (F : Foot) (p : PM) (v : PLV) (h : PRep w Pb D L F p v) (n : Int) (hn : NotHeld v n) (b : Value) (lsn : Nat) :
    Calls Try.prog 13 #[.pointer (some ⟨Pb, 0, none⟩), .int .i64 n, b, .int .u64 (lsn : Int)] w fun e w' => e = .returned (.int .i64 18) ∧ w = w' := by
  have hh := held_no w Pb D L F p v h n hn
  clear h hn
  go_enter Try.func13, Try.ntmps13
  go_wp2_with fail
  refine hh.mono ?_
  rintro e w' ⟨rfl, rfl⟩
  go_wp2
  go_ret
  exact ⟨rfl, rfl⟩

/-- are these the pages of the frames? -/
theorem frames_eq (w : World) (Pb D L : Nat) (F : Foot) (p : PM) (v : PLV) (h : PRep w Pb D L F p v) (xs : List Int) (hv : pgsOf v = xs) (hpos : 0 < xs.length) (q : Value) (hq : RdV NoF w 1 q xs.length (zv xs)) :
    Calls Try.prog 12 #[.pointer (some ⟨Pb, 0, none⟩), q] w fun e w' => e = .returned (.bool true) ∧ Below w.heap.size w w' := by
  have hfr := frames_any w Pb D L F p v h
  have hl : v.fs.length = xs.length := by
    have h9 := congrArg List.length hv
    unfold pgsOf at h9
    rw [List.length_map] at h9
    exact h9
  have hbig : xs.length ≤ 1024 := by rw [← hl]; exact h.big
  obtain ⟨m, hm⟩ : ∃ m, xs.length = m := ⟨_, rfl⟩
  unfold FramesOut at hfr
  rw [hl, hv, hm] at hfr
  rw [hm] at hq hpos hbig
  obtain ⟨qg, qo, qc, rfl, hqc, -, -, hql, hqcell⟩ := hq.at_ hpos
  have HQ := Lib.hid (And.intro hql (And.intro hqcell (And.intro hm hbig)))
  have HFR := Lib.hid hfr
  clear h hv hl hq hfr hql hqcell hm hbig
  go_enter Try.func12, Try.ntmps12
  go_wp2_with fail
  refine HFR.out.mono ?_
  rintro e w1 ⟨g, c, rfl, hown, hb1⟩
  obtain ⟨g9, o9, c9, e9, -, -, -, -, hcl⟩ := (RdV.of_own (F := NoF) hown (fun _ _ => noF _)).at_ hpos
  injection e9 with e1 e2 e3
  injection e1 with e1
  injection e1 with e1 e4
  subst e1
  subst e4
  have HC := Lib.hid (And.intro hcl hb1)
  clear hown hcl hb1 HFR e2 e3 hpos
  go_wp2
  go_loopw [6] (fun i wr => ∃ k : Nat, k ≤ m ∧ i = .int .i64 (k : Int) ∧ ∃ n, wr = w1.drewN n) (fun i _ => m - (intOf i).toNat)
  case atStart => exact ⟨0, by omega, rfl, 0, rfl⟩
  case round =>
    obtain ⟨k, hk, rfl, n, rfl⟩ := hrel
    rcases Nat.lt_or_eq_of_le hk with hlt | rfl
    · obtain ⟨x, hx⟩ : ∃ x, xs[k]? = some x := ⟨_, List.getElem?_eq_getElem (by rw [HQ.out.2.2.1]; exact hlt)⟩
      obtain ⟨wn, hwn⟩ : ∃ wn, w1.drewN n = wn := ⟨_, rfl⟩
      rw [hwn]
      have c1 : wn.cell? ⟨g, 0 + k, none⟩ = some (.int .i64 x) := by rw [← hwn]; exact HC.out.1 k (.int .i64 x) (by unfold zv; rw [List.getElem?_map, hx]; rfl)
      rw [Nat.zero_add] at c1
      have c2 : wn.cell? ⟨qg, qo + k, none⟩ = some (.int .i64 x) := by
        rw [← hwn]
        exact (World.cell?_of_block (HC.out.2.block _ HQ.out.1)).trans (HQ.out.2.1 k (.int .i64 x) (by unfold zv; rw [List.getElem?_map, hx]; rfl))
      have k1 : (k : Int) < (m : Int) := by omega
      have k0 : (0 : Int) ≤ (k : Int) := by omega
      have HW := Lib.hid (And.intro hwn hlt)
      have HWZ : Hid (wrap64 ((k : Int) + 1) = (k : Int) + 1) := by show _ = _; have h9 := HQ.out.2.2.2; unfold wrap64; omega
      clear hx hwn hlt hk
      go_upto_region 7 with (fail)
      go_quiet (fail)
      go_wp2
      go_roundw
      case rel => exact ⟨k + 1, by have := HW.out.2; omega, by rw [HWZ.out]; rfl, _, by rw [← HW.out.1]; exact World.drewN_drewN _ _ _⟩
      case measure => have := HW.out.2; rw [HWZ.out]; simp [intOf]; omega
    · have hb := below_drewN HC.out.2 n
      have HB := Lib.hid hb
      clear hb hk
      go_wp2
      go_ret
      exact ⟨rfl, HB.out⟩
end Mun
