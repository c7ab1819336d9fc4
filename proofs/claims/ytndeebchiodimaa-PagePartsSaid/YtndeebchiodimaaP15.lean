/- Contract of Remove. -/
import Derived.Test.YtndeebchiodimaaP12
import Derived.Test.YtndeebchiodimaaPageO
set_option maxRecDepth 100000
set_option linter.unusedVariables false
set_option linter.unusedSimpArgs false
namespace Mun
open Go Go.RowKit
open Go.Proofs

theorem remove_no {F : Foot} (w : World) (v : Value) (p : List UInt8) (i : Int) (hv : RdB F w v p) (hg : ¬ GoodP p) : Calls Try.prog 19 #[v, .int .i64 i] w (PageNo w 4) := by
  have hgo := copied_no w v p hv hg
  obtain ⟨a, n, c, rfl, HN, -, -⟩ := hv.formN
  have HG := Lib.hid hgo
  clear hgo hv hg HN
  go_enter Try.func19, Try.ntmps19
  go_wp2_with fail
  refine HG.out.mono ?_
  rintro e w2 ⟨rfl, hb⟩
  have HB := Lib.hid hb
  clear hb
  go_wp2
  go_ret2
  exact ⟨rfl, HB.out.alloc HB.out.size _⟩

theorem remove_bad {F : Foot} (w : World) (v : Value) (p : List UInt8) (i : Int) (hv : RdB F w v p) (hg : GoodP p) (hi : i < 0 ∨ (¬ i < 0 ∧ i ≥ (cnt p : Int))) : Calls Try.prog 19 #[v, .int .i64 i] w (PageNo w 1) := by
  have hgo := copied_yes w v p hv hg
  have HP := Lib.hid hg.len
  obtain ⟨a, n, c, rfl, HN, -, -⟩ := hv.formN
  have HG := Lib.hid hgo
  clear hgo hv hg HN
  rcases hi with hi | ⟨hi, hi2⟩
  · go_enter Try.func19, Try.ntmps19
    go_wp2_with fail
    refine HG.out.mono ?_
    rintro e w2 ⟨g, rfl, hpg, hgs, hb⟩
    have HB := Lib.hid hb
    clear hb hpg hgs
    go_wp2
    go_ret2
    exact ⟨rfl, HB.out.alloc HB.out.size _⟩
  · obtain ⟨m, hm⟩ : ∃ m, cnt p = m := ⟨_, rfl⟩
    rw [hm] at hi2
    have HM := Lib.hid hm
    clear hm
    go_enter Try.func19, Try.ntmps19
    go_wp2_with fail
    refine HG.out.mono ?_
    rintro e w2 ⟨g, rfl, hpg, hgs, hb⟩
    have hbx := Bx.start hpg
    have hx := hbx.box
    have hc := count_any (F := fun _ => False) _ _ p (hbx.rd (fun h => h)) HP.out
    rw [HM.out] at hc
    have HC := Lib.hid hc
    have HB := Lib.hid (And.intro hbx (And.intro hgs hb))
    clear hb hc hpg hgs hbx
    go_wp2_with fail
    refine HC.out.mono ?_
    rintro e w4 ⟨rfl, hb4⟩
    have HB4 := Lib.hid (HB.out.1.below hb4)
    clear hb4
    go_wp2
    go_ret2
    exact ⟨rfl, HB4.out.fin HB.out.2.2 HB.out.2.1⟩

set_option maxHeartbeats 4000000 in
theorem remove_yes {F : Foot} (w : World) (v : Value) (p : List UInt8) (i : Nat) (hv : RdB F w v p) (hg : GoodP p) (hi : i < cnt p) : Calls Try.prog 19 #[v, .int .i64 i] w (PageOut w (remP p i)) := by
  have hgo := copied_yes w v p hv hg
  have HP := Lib.hid hg
  obtain ⟨a, n, cp, rfl, HN, -, -⟩ := hv.formN
  have HG := Lib.hid hgo
  have hmb : cnt p ≤ 121 := by have := hg.fit; have := hg.low; omega
  obtain ⟨m, hm⟩ : ∃ m, cnt p = m := ⟨_, rfl⟩
  have HRP : Hid (remP p i = if m = 1 then pt (pt (downP p i m) 14 2 (m - 1)) 16 2 512 else pt (downP p i m) 14 2 (m - 1)) := by show _ = _; rw [← hm]; rfl
  rw [hm] at hi hmb
  obtain ⟨r, hr⟩ : ∃ r, m - 1 = r := ⟨_, rfl⟩
  have hri : (m : Int) - 1 = (r : Int) := by omega
  have HM := Lib.hid (And.intro hm (And.intro hi (And.intro hr hg.len)))
  have t1 : ¬ (i : Int) < 0 := by omega
  have t2 : ¬ (i : Int) ≥ (m : Int) := by omega
  have hrb : r ≤ 120 := by omega
  clear hgo hv hg HN hm hi hr
  go_enter Try.func19, Try.ntmps19
  go_wp2_with fail
  refine HG.out.mono ?_
  rintro e w2 ⟨g, rfl, hpg, hgs, hb⟩
  have hbx := Bx.start hpg
  have hx := hbx.box
  have hc := count_any (F := fun _ => False) _ _ p (hbx.rd (fun h => h)) HP.out.len
  rw [HM.out.1] at hc
  have HC := Lib.hid hc
  have HB := Lib.hid (And.intro hbx (And.intro hgs hb))
  clear hb hc hpg hgs hbx
  go_wp2_with fail
  refine HC.out.mono ?_
  rintro e w4 ⟨rfl, hb4⟩
  have hbx4 := HB.out.1.below hb4
  have hx4 := hbx4.box
  have hcq := count_any (F := fun _ => False) _ _ p (hbx4.rd (fun h => h)) HP.out.len
  rw [HM.out.1] at hcq
  have HCQ := Lib.hid hcq
  have HB4 := Lib.hid hbx4
  clear hb4 hbx4 hcq hx
  go_wp2_with fail
  refine HCQ.out.mono ?_
  rintro e w8 ⟨rfl, hb8⟩
  have hbx8 := HB4.out.below hb8
  have hx8 := hbx8.box
  have hi := HM.out.2.1
  have hr := HM.out.2.2.1
  have hpl := HM.out.2.2.2
  obtain ⟨d, hd⟩ : ∃ d, 4 * (m - 1 - i) = d := ⟨_, rfl⟩
  have hs1 := slice_own g (26 + 4 * i) (26 + 4 * r) (26 + 4 * (i : Int)) (26 + 4 * (r : Int)) (by push_cast; rfl) (by push_cast; rfl) (by omega) (by omega) (by omega)
  have hs2 := slice_own g (26 + 4 * (i + 1)) (26 + 4 * m) (26 + 4 * ((i : Int) + 1)) (26 + 4 * (m : Int)) (by push_cast; rfl) (by push_cast; rfl) (by omega) (by omega) (by omega)
  have hs3 := slice_own g (26 + 4 * r) (26 + 4 * m) (26 + 4 * (r : Int)) (26 + 4 * (m : Int)) (by push_cast; rfl) (by push_cast; rfl) (by omega) (by omega) (by omega)
  have hrd := (hbx8.drew 1).pg.rdPart (F := fun _ => False) (fun h => h) (26 + 4 * (i + 1)) (26 + 4 * m) (by omega) (by omega) (by omega)
  rw [show 26 + 4 * r - (26 + 4 * i) = d by omega] at hs1
  rw [show 26 + 4 * m - (26 + 4 * (i + 1)) = d by omega] at hs2 hrd
  rw [show 26 + 4 * m - (26 + 4 * r) = 4 by omega] at hs3
  have hwl : ((p.drop (26 + 4 * (i + 1))).take d).length = d := win_length p (26 + 4 * (i + 1)) d (by omega)
  obtain ⟨W9, r9, hcr, hp9, hc9⟩ := copy_mid (ty := 3) w8.drew g (26 + 4 * i) d (512 - (26 + 4 * i)) p ((p.drop (26 + 4 * (i + 1))).take d) _ (hbx8.drew 1).pg hrd (by omega) (by omega) (.slice (some ⟨g, 26 + 4 * i, none⟩) d (512 - (26 + 4 * i))) ⟨fun _ => rfl, _, rfl⟩
  have hbx9 := (hbx8.drew 1).step hp9 hc9
  have hx9 := hbx9.box
  obtain ⟨W10, hcl, hp10, hc10⟩ := clear_any (ty := 0) W9 g (26 + 4 * r) 4 (512 - (26 + 4 * r)) _ hbx9.pg (by omega)
  have hbx10 := hbx9.step hp10 hc10
  have hx10 := hbx10.box
  have hS0 : w8.drew.cell? ⟨w2.heap.size, 0, none⟩ = some (.slice (some ⟨g, 0, none⟩) 512 512) := (hbx8.drew 1).box
  have HB10 := Lib.hid hbx10
  have HCR := Lib.hid hcr
  have HD := Lib.hid hd
  have j1 : IntKind.i64.wrap ((i : Int) + 1) = (i : Int) + 1 := by rw [IntKind.wrap_i64]; omega
  have j2 : IntKind.i64.wrap (4 * ((i : Int) + 1)) = 4 * ((i : Int) + 1) := by rw [IntKind.wrap_i64]; omega
  have j3 : IntKind.i64.wrap (26 + 4 * ((i : Int) + 1)) = 26 + 4 * ((i : Int) + 1) := by rw [IntKind.wrap_i64]; omega
  have j4 : IntKind.i64.wrap (r : Int) = (r : Int) := by rw [IntKind.wrap_i64]; omega
  have j5 : IntKind.i64.wrap (4 * (r : Int)) = 4 * (r : Int) := by rw [IntKind.wrap_i64]; omega
  have j6 : IntKind.i64.wrap (26 + 4 * (r : Int)) = 26 + 4 * (r : Int) := by rw [IntKind.wrap_i64]; omega
  have j7 : IntKind.i64.wrap (4 * (i : Int)) = 4 * (i : Int) := by rw [IntKind.wrap_i64]; omega
  have j8 : IntKind.i64.wrap (26 + 4 * (i : Int)) = 26 + 4 * (i : Int) := by rw [IntKind.wrap_i64]; omega
  have j9 : IntKind.i64.wrap (4 * (m : Int)) = 4 * (m : Int) := by rw [IntKind.wrap_i64]; omega
  have j10 : IntKind.i64.wrap (26 + 4 * (m : Int)) = 26 + 4 * (m : Int) := by rw [IntKind.wrap_i64]; omega
  clear hb8 hbx8 hi hr hpl hd hrd hwl hcr hp9 hc9 hbx9 hp10 hc10 hbx10 hx4
  go_wp2
  go_region_held_law (fun W => W.cell? ⟨w2.heap.size, 0, none⟩ = some (.slice (some ⟨g, 0, none⟩) 512 512))
    (first | exact hS0 | exact hx9)
    ((refine step_copy_eq rfl rfl HCR.out rfl rfl ?_))
  clear j1 j2 j3 j4 j5 j6 j7 j8 j9 j10 hS0 hx8 hs1 hs2
  go_wp2_with fail
  refine (put_any _ g _ 14 2 14 2 r rfl rfl HB10.out.pg (by decide) (by decide) (by decide)).mono ?_
  rintro e w11 ⟨rfl, hp11, hc11⟩
  have hbx11 := HB10.out.step hp11 hc11
  have hx11 := hbx11.box
  have HB11 := Lib.hid hbx11
  clear hp11 hc11 hbx11 hx9 hx10 hcl hs3
  by_cases h1 : m = 1
  · have t3 : ((m : Int) == 1) = true := by simp; omega
    have HR1 : Hid (remP p i = pt (pt (downP p i m) 14 2 (m - 1)) 16 2 512) := by show _ = _; rw [HRP.out, if_pos h1]
    clear h1
    go_wp2_with fail
    refine (put_any _ g _ 16 2 16 2 512 rfl rfl HB11.out.pg (by decide) (by decide) (by decide)).mono ?_
    rintro e w12 ⟨rfl, hp12, hc12⟩
    have hbx12 := HB11.out.step hp12 hc12
    have hx12 := hbx12.box
    have HB12 := Lib.hid hbx12
    clear hp12 hc12 hbx12 hx11
    go_wp2
    go_ret2
    refine ⟨g, rfl, ?_, HB.out.2.1, HB12.out.fin HB.out.2.2 HB.out.2.1⟩
    have h12 := HB12.out.pg
    rw [HR1.out, HM.out.2.2.1]
    unfold downP
    rw [HD.out, HM.out.2.2.1]
    exact h12
  · have t3 : ((m : Int) == 1) = false := by simp; omega
    have HR1 : Hid (remP p i = pt (downP p i m) 14 2 (m - 1)) := by show _ = _; rw [HRP.out, if_neg h1]
    clear h1
    go_wp2
    go_ret2
    refine ⟨g, rfl, ?_, HB.out.2.1, HB11.out.fin HB.out.2.2 HB.out.2.1⟩
    have h12 := HB11.out.pg
    rw [HR1.out, HM.out.2.2.1]
    unfold downP
    rw [HD.out, HM.out.2.2.1]
    exact h12
end Mun
