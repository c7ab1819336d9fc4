/- Contract of Replace. -/
import Derived.Test.YtndeebchiodimaaP12
import Derived.Test.YtndeebchiodimaaPageO
set_option maxRecDepth 100000
set_option linter.unusedVariables false
set_option linter.unusedSimpArgs false
namespace Mun
open Go Go.RowKit
open Go.Proofs

theorem replace_no {F : Foot} (w : World) (v u : Value) (p c : List UInt8) (i : Int) (hv : RdB F w v p) (hu : RdB F w u c) (hg : ¬ GoodP p) : Calls Try.prog 20 #[v, .int .i64 i, u] w (PageNo w 4) := by
  have hgo := copied_no w v p hv hg
  obtain ⟨a, n, cp, rfl, HN, -, -⟩ := hv.formN
  obtain ⟨a2, n2, c2, rfl, HN2, -, -⟩ := hu.formN
  have HG := Lib.hid hgo
  clear hgo hv hg HN hu HN2
  go_enter Try.func20, Try.ntmps20
  go_wp2_with fail
  refine HG.out.mono ?_
  rintro e w2 ⟨rfl, hb⟩
  have HB := Lib.hid hb
  clear hb
  go_wp2
  go_ret2
  exact ⟨rfl, HB.out.alloc HB.out.size _⟩

theorem replace_bad {F : Foot} (w : World) (v u : Value) (p c : List UInt8) (i : Int) (hv : RdB F w v p) (hu : RdB F w u c) (hg : GoodP p) (hi : i < 0 ∨ (¬ i < 0 ∧ i ≥ (cnt p : Int))) : Calls Try.prog 20 #[v, .int .i64 i, u] w (PageNo w 1) := by
  have hgo := copied_yes w v p hv hg
  have HP := Lib.hid hg.len
  obtain ⟨a, n, cp, rfl, HN, -, -⟩ := hv.formN
  obtain ⟨a2, n2, c2, rfl, HN2, -, -⟩ := hu.formN
  have HG := Lib.hid hgo
  clear hgo hv hg HN hu HN2
  rcases hi with hi | ⟨hi, hi2⟩
  · go_enter Try.func20, Try.ntmps20
    go_wp2_with fail
    refine HG.out.mono ?_
    rintro e w2 ⟨g, rfl, hpg, hgs, hb⟩
    have HB := Lib.hid hb
    clear hb hpg hgs
    go_wp2
    go_ret2
    exact ⟨rfl, HB.out.alloc HB.out.size _⟩
  · obtain ⟨m, hm⟩ : ∃ m, cnt p = m := ⟨_, rfl⟩
    rw [hm] at hi2
    have HM := Lib.hid hm
    clear hm
    go_enter Try.func20, Try.ntmps20
    go_wp2_with fail
    refine HG.out.mono ?_
    rintro e w2 ⟨g, rfl, hpg, hgs, hb⟩
    have hbx := Bx.start hpg
    have hx := hbx.box
    have hc := count_any (F := fun _ => False) _ _ p (hbx.rd (fun h => h)) HP.out
    rw [HM.out] at hc
    have HC := Lib.hid hc
    have HB := Lib.hid (And.intro hbx (And.intro hgs hb))
    clear hb hc hpg hgs hbx
    go_wp2_with fail
    refine HC.out.mono ?_
    rintro e w4 ⟨rfl, hb4⟩
    have HB4 := Lib.hid (HB.out.1.below hb4)
    clear hb4
    go_wp2
    go_ret2
    exact ⟨rfl, HB4.out.fin HB.out.2.2 HB.out.2.1⟩

set_option maxHeartbeats 1000000 in
theorem replace_fits {F : Foot} (w : World) (v u : Value) (p c : List UInt8) (i : Nat) (hv : RdB F w v p) (hu : RdB F w u c) (hg : GoodP p) (hi : i < cnt p) (hcs : c.length ≤ sSize p i) : Calls Try.prog 20 #[v, .int .i64 i, u] w (PageOut w (repP p i c)) := by
  have hgo := copied_yes w v p hv hg
  have HP := Lib.hid hg
  have HU := Lib.hid hu
  obtain ⟨a, n, cp, rfl, HN, -, -⟩ := hv.formN
  obtain ⟨a2, n2, c2, rfl, HN2, -, -⟩ := hu.formN
  have HG := Lib.hid hgo
  have hmb : cnt p ≤ 121 := by have := hg.fit; have := hg.low; omega
  have hlb : lowP p ≤ 512 := hg.low
  have hcell := hg.cell i hi
  have HRP : Hid (repP p i c = ss (putAt p (sFrom p i) c) i (sFrom p i) c.length) := by show _ = _; unfold repP; rw [if_pos hcs]
  obtain ⟨m, hm⟩ : ∃ m, cnt p = m := ⟨_, rfl⟩
  obtain ⟨lo, hlo⟩ : ∃ lo, lowP p = lo := ⟨_, rfl⟩
  obtain ⟨f, hff⟩ : ∃ f, sFrom p i = f := ⟨_, rfl⟩
  obtain ⟨s, hss⟩ : ∃ s, sSize p i = s := ⟨_, rfl⟩
  rw [hm] at hi hmb
  rw [hlo] at hlb
  rw [hss] at hcs hcell
  rw [hff] at hcell
  rw [hff, ← HN2.out] at HRP
  rw [← HN2.out] at hcs
  have HM := Lib.hid (And.intro hm (And.intro hlo (And.intro hff (And.intro hss hi))))
  have hfs : f + s ≤ 512 := hcell.2
  have t1 : ¬ (i : Int) < 0 := by omega
  have t2 : ¬ (i : Int) ≥ (m : Int) := by omega
  have t4 : (n2 : Int) ≤ (s : Int) := by omega
  have HCS := Lib.hid hcs
  clear hgo hv hg HN hu hm hff hss hlo hi hcell hcs
  go_enter Try.func20, Try.ntmps20
  go_wp2_with fail
  refine HG.out.mono ?_
  rintro e w2 ⟨g, rfl, hpg, hgs, hb⟩
  have hbx := Bx.start hpg
  have hx := hbx.box
  have hc := count_any (F := fun _ => False) _ _ p (hbx.rd (fun h => h)) HP.out.len
  rw [HM.out.1] at hc
  have HC := Lib.hid hc
  have hu3 : RdB (G1 g) (w2.alloc (.cells #[.slice (some ⟨g, 0, none⟩) 512 512] 65)) (.slice a2 n2 c2) c := by
    have h1 : RdB (fun k => F k ∨ k = g) w (.slice a2 n2 c2) c := RdB.mono HU.out (fun k hk h => h.elim id (fun h => by omega))
    exact RdB.mono (RdB.alloc (RdB.below h1 hb) _) (fun k _ h => .inr h)
  have HB := Lib.hid (And.intro hbx (And.intro hgs hb))
  have HU3 := Lib.hid hu3
  clear hb hc hpg hgs hbx hu3
  go_wp2_with fail
  refine HC.out.mono ?_
  rintro e w4 ⟨rfl, hb4⟩
  have hbx4 := HB.out.1.below hb4
  have hu4 := RdB.below HU3.out hb4
  have hx4 := hbx4.box
  have hsl := slot_any (F := fun _ => False) _ _ p i (hbx4.rd (fun h => h)) HP.out.len (by have := HP.out.fit; have := HP.out.low; have := HM.out; omega)
  rw [HM.out.2.2.1, HM.out.2.2.2.1] at hsl
  have HSL := Lib.hid hsl
  have HB4 := Lib.hid (And.intro hbx4 hu4)
  clear hb4 hbx4 hsl hx hu4
  go_wp2_with fail
  refine HSL.out.mono ?_
  rintro e w5 ⟨rfl, hb5⟩
  have hbx5 := HB4.out.1.below hb5
  have hu5 := RdB.below HB4.out.2 hb5
  have hx5 := hbx5.box
  obtain ⟨a3, hsl3, ha3⟩ := slice_from g f (f : Int) rfl (by omega)
  obtain ⟨W6, r6, hcr, hp6, hc6⟩ := copy_mid (ty := 3) w5 g f (512 - f) (512 - f) p c _ hbx5.pg hu5 (by have := HN2.out; have := HCS.out; omega) (by have := HN2.out; have := HCS.out; omega) (.slice a3 (512 - f) (512 - f))
    ⟨fun hp => by rw [ha3 (by have := HN2.out; have := HCS.out; omega)], _, rfl⟩
  have hbx6 := hbx5.step hp6 hc6
  have hx6 := hbx6.box
  have HB6 := Lib.hid hbx6
  have hnb : n2 ≤ 512 := by have := HCS.out; omega
  clear hb5 hbx5 hx4 hu5 ha3 hp6 hc6 hbx6
  go_wp2_with fail
  refine (setSlot_any _ g _ _ _ _ i f n2 rfl rfl rfl HB6.out.pg (by have := HM.out; omega) (by omega) (by omega)).mono ?_
  rintro e w7 ⟨rfl, hp7, hc7⟩
  have hbx7 := HB6.out.step hp7 hc7
  have hx7 := hbx7.box
  have HB7 := Lib.hid hbx7
  clear hp7 hc7 hbx7 hx6 hx5 hcr hsl3
  go_wp2
  go_ret2
  refine ⟨g, rfl, ?_, HB.out.2.1, HB7.out.fin HB.out.2.2 HB.out.2.1⟩
  rw [HRP.out]
  exact HB7.out.pg

set_option maxHeartbeats 1000000 in
theorem replace_full {F : Foot} (w : World) (v u : Value) (p c : List UInt8) (i : Nat) (hv : RdB F w v p) (hu : RdB F w u c) (hg : GoodP p) (hi : i < cnt p) (hcs : sSize p i < c.length) (hf : freeP p < (c.length : Int) - sSize p i) (hcl : c.length ≤ 140737488355328) : Calls Try.prog 20 #[v, .int .i64 i, u] w (PageNo w 7) := by
  have hgo := copied_yes w v p hv hg
  have HP := Lib.hid hg
  have HU := Lib.hid hu
  obtain ⟨a, n, cp, rfl, HN, -, -⟩ := hv.formN
  obtain ⟨a2, n2, c2, rfl, HN2, -, -⟩ := hu.formN
  have HG := Lib.hid hgo
  have hmb : cnt p ≤ 121 := by have := hg.fit; have := hg.low; omega
  have hlb : lowP p ≤ 512 := hg.low
  have hcell := hg.cell i hi
  obtain ⟨m, hm⟩ : ∃ m, cnt p = m := ⟨_, rfl⟩
  obtain ⟨lo, hlo⟩ : ∃ lo, lowP p = lo := ⟨_, rfl⟩
  obtain ⟨f, hff⟩ : ∃ f, sFrom p i = f := ⟨_, rfl⟩
  obtain ⟨s, hss⟩ : ∃ s, sSize p i = s := ⟨_, rfl⟩
  rw [hm] at hi hmb
  rw [hlo] at hlb
  rw [hss] at hcs hcell hf
  rw [hff] at hcell
  obtain ⟨fr, hfr⟩ : ∃ fr, freeP p = fr := ⟨_, rfl⟩
  rw [hfr] at hf
  rw [← HN2.out] at hcs hf
  have HM := Lib.hid (And.intro hm (And.intro hlo (And.intro hff (And.intro hss hi))))
  have hfs : f + s ≤ 512 := hcell.2
  have t1 : ¬ (i : Int) < 0 := by omega
  have t2 : ¬ (i : Int) ≥ (m : Int) := by omega
  have hnb : n2 ≤ 140737488355328 := by rw [HN2.out]; exact hcl
  have t4 : ¬ (n2 : Int) ≤ (s : Int) := by omega
  have HFR := Lib.hid hfr
  clear hgo hv hg HN hu HN2 hm hff hss hlo hi hcell hcs hfr hcl
  go_enter Try.func20, Try.ntmps20
  go_wp2_with fail
  refine HG.out.mono ?_
  rintro e w2 ⟨g, rfl, hpg, hgs, hb⟩
  have hbx := Bx.start hpg
  have hx := hbx.box
  have hc := count_any (F := fun _ => False) _ _ p (hbx.rd (fun h => h)) HP.out.len
  rw [HM.out.1] at hc
  have HC := Lib.hid hc
  have hu3 : RdB (G1 g) (w2.alloc (.cells #[.slice (some ⟨g, 0, none⟩) 512 512] 65)) (.slice a2 n2 c2) c := by
    have h1 : RdB (fun k => F k ∨ k = g) w (.slice a2 n2 c2) c := RdB.mono HU.out (fun k hk h => h.elim id (fun h => by omega))
    exact RdB.mono (RdB.alloc (RdB.below h1 hb) _) (fun k _ h => .inr h)
  have HB := Lib.hid (And.intro hbx (And.intro hgs hb))
  have HU3 := Lib.hid hu3
  clear hb hc hpg hgs hbx hu3
  go_wp2_with fail
  refine HC.out.mono ?_
  rintro e w4 ⟨rfl, hb4⟩
  have hbx4 := HB.out.1.below hb4
  have hu4 := RdB.below HU3.out hb4
  have hx4 := hbx4.box
  have hsl := slot_any (F := fun _ => False) _ _ p i (hbx4.rd (fun h => h)) HP.out.len (by have := HP.out.fit; have := HP.out.low; have := HM.out; omega)
  rw [HM.out.2.2.1, HM.out.2.2.2.1] at hsl
  have HSL := Lib.hid hsl
  have HB4 := Lib.hid (And.intro hbx4 hu4)
  clear hb4 hbx4 hsl hx hu4
  go_wp2_with fail
  refine HSL.out.mono ?_
  rintro e w5 ⟨rfl, hb5⟩
  have hbx5 := HB4.out.1.below hb5
  have hu5 := RdB.below HB4.out.2 hb5
  have hx5 := hbx5.box
  have hfr := free_any (F := fun _ => False) _ _ p (hbx5.rd (fun h => h)) HP.out.len (by have := HP.out.fit; have := HP.out.low; omega)
  rw [HFR.out] at hfr
  have HFF := Lib.hid hfr
  have HB5 := Lib.hid hbx5
  clear hb5 hbx5 hx4 hu5 hfr
  go_wp2_with fail
  refine HFF.out.mono ?_
  rintro e w6 ⟨rfl, hb6⟩
  have HB6 := Lib.hid (HB5.out.below hb6)
  clear hb6 hx5
  go_wp2
  go_ret2
  exact ⟨rfl, HB6.out.fin HB.out.2.2 HB.out.2.1⟩

set_option maxHeartbeats 4000000 in
theorem replace_yes {F : Foot} (w : World) (v u : Value) (p c : List UInt8) (i : Nat) (hv : RdB F w v p) (hu : RdB F w u c) (hg : GoodP p) (hi : i < cnt p) (hcs : sSize p i < c.length) (hf : (c.length : Int) - sSize p i ≤ freeP p) : Calls Try.prog 20 #[v, .int .i64 i, u] w (PageOut w (repP p i c)) := by
  have hgo := copied_yes w v p hv hg
  have HP := Lib.hid hg
  have HU := Lib.hid hu
  obtain ⟨a, n, cp, rfl, HN, -, -⟩ := hv.formN
  obtain ⟨a2, n2, c2, rfl, HN2, -, -⟩ := hu.formN
  have HG := Lib.hid hgo
  have hmb : cnt p ≤ 121 := by have := hg.fit; have := hg.low; omega
  have hlb : lowP p ≤ 512 := hg.low
  have hcell := hg.cell i hi
  have HRP : Hid (repP p i c = belowP (roomP (holeP p i) c.length) i c) := by show _ = _; unfold repP; rw [if_neg (by omega)]
  have hhg := hole_good hg hi
  have hcnt : cnt (holeP p i) = cnt p := cnt_ss _ _ _ _ (by rw [hg.len]; omega)
  have hlow : lowP (holeP p i) = lowP p := lowP_ss _ _ _ _ (by rw [hg.len]; omega)
  have hrm := room_ok hhg c.length (by rw [freeP_hole hg hi]; omega)
  have hfb : freeP p ≤ 486 := by unfold freeP; omega
  have HHP : Hid (holeP p i = ss p i (lowP p) 0) := by show _ = _; rfl
  obtain ⟨h, hh⟩ : ∃ h, holeP p i = h := ⟨_, rfl⟩
  obtain ⟨q, hq⟩ : ∃ q, roomP (holeP p i) c.length = q := ⟨_, rfl⟩
  rw [hq] at hrm HRP
  rw [hh] at hhg hcnt hlow hrm HHP hq
  obtain ⟨m, hm⟩ : ∃ m, cnt p = m := ⟨_, rfl⟩
  obtain ⟨lo, hlo⟩ : ∃ lo, lowP p = lo := ⟨_, rfl⟩
  obtain ⟨f, hff⟩ : ∃ f, sFrom p i = f := ⟨_, rfl⟩
  obtain ⟨s, hss⟩ : ∃ s, sSize p i = s := ⟨_, rfl⟩
  rw [hm] at hi hmb
  rw [hlo] at hlb
  rw [hss] at hcs hcell hf
  rw [hff] at hcell
  obtain ⟨fr, hfr⟩ : ∃ fr, freeP p = fr := ⟨_, rfl⟩
  rw [hfr] at hf hfb
  rw [← HN2.out] at hcs hf
  rw [hm] at hcnt
  rw [hlo] at hlow HHP
  have HM := Lib.hid (And.intro hm (And.intro hlo (And.intro hff (And.intro hss hi))))
  have hfs : f + s ≤ 512 := hcell.2
  have t1 : ¬ (i : Int) < 0 := by omega
  have t2 : ¬ (i : Int) ≥ (m : Int) := by omega
  have hnb : n2 ≤ 1000 := by omega
  have t4 : ¬ (n2 : Int) ≤ (s : Int) := by omega
  have t5 : ¬ fr < (n2 : Int) - (s : Int) := by omega
  have HFR := Lib.hid hfr
  have HHG := Lib.hid (And.intro hhg (And.intro hcnt hlow))
  have HRM := Lib.hid hrm
  have HQ := Lib.hid hq
  clear hgo hv hg HN hu hm hff hss hlo hi hcell hcs hfr hf hhg hcnt hlow hrm hq hh
  by_cases hroom : (lo : Int) - 26 - 4 * (m : Int) < (n2 : Int)
  · have hdummy := trivial
    go_enter Try.func20, Try.ntmps20
    go_wp2_with fail
    refine HG.out.mono ?_
    rintro e w2 ⟨g, rfl, hpg, hgs, hb⟩
    have hbx := Bx.start hpg
    have hx := hbx.box
    have hc := count_any (F := fun _ => False) _ _ p (hbx.rd (fun h => h)) HP.out.len
    rw [HM.out.1] at hc
    have HC := Lib.hid hc
    have hu3 : RdB (G1 g) (w2.alloc (.cells #[.slice (some ⟨g, 0, none⟩) 512 512] 65)) (.slice a2 n2 c2) c := by
      have h1 : RdB (fun k => F k ∨ k = g) w (.slice a2 n2 c2) c := RdB.mono HU.out (fun k hk h => h.elim id (fun h => by omega))
      exact RdB.mono (RdB.alloc (RdB.below h1 hb) _) (fun k _ h => .inr h)
    have HB := Lib.hid (And.intro hbx (And.intro hgs hb))
    have HU3 := Lib.hid hu3
    clear hb hc hpg hgs hbx hu3
    go_wp2_with fail
    refine HC.out.mono ?_
    rintro e w4 ⟨rfl, hb4⟩
    have hbx4 := HB.out.1.below hb4
    have hu4 := RdB.below HU3.out hb4
    have hx4 := hbx4.box
    have hsl := slot_any (F := fun _ => False) _ _ p i (hbx4.rd (fun h => h)) HP.out.len (by have := HP.out.fit; have := HP.out.low; have := HM.out; omega)
    rw [HM.out.2.2.1, HM.out.2.2.2.1] at hsl
    have HSL := Lib.hid hsl
    have HB4 := Lib.hid (And.intro hbx4 hu4)
    clear hb4 hbx4 hsl hx hu4
    go_wp2_with fail
    refine HSL.out.mono ?_
    rintro e w5 ⟨rfl, hb5⟩
    have hbx5 := HB4.out.1.below hb5
    have hu5 := RdB.below HB4.out.2 hb5
    have hx5 := hbx5.box
    have hfr := free_any (F := fun _ => False) _ _ p (hbx5.rd (fun h => h)) HP.out.len (by have := HP.out.fit; have := HP.out.low; omega)
    rw [HFR.out] at hfr
    have HFF := Lib.hid hfr
    have HB5 := Lib.hid (And.intro hbx5 hu5)
    clear hb5 hbx5 hx4 hu5 hfr
    go_wp2_with fail
    refine HFF.out.mono ?_
    rintro e w6 ⟨rfl, hb6⟩
    have hbx6 := HB5.out.1.below hb6
    have hu6 := RdB.below HB5.out.2 hb6
    have hx6 := hbx6.box
    have hS0 : w6.drew.cell? ⟨w2.heap.size, 0, none⟩ = some (.slice (some ⟨g, 0, none⟩) 512 512) := (hbx6.drew 1).box
    have hlw := low_any (F := fun _ => False) _ _ p ((hbx6.drew 1).rd (fun h => h)) HP.out.len
    rw [HM.out.2.1] at hlw
    have HLW := Lib.hid hlw
    have HB6 := Lib.hid (And.intro (hbx6.drew 1) (RdB.drewN hu6 1))
    clear hb6 hbx6 hx5 hu6 hlw
    go_wp2
    go_region_held_law (fun W => W.cell? ⟨w2.heap.size, 0, none⟩ = some (.slice (some ⟨g, 0, none⟩) 512 512))
      (first | exact hS2 | exact hS1 | exact hS0)
      (first
      | ((go_simp; go_at_call 46
          refine HLW.out.mono ?_
          rintro e W1 ⟨rfl, hb7⟩
          have hbx7 := HB6.out.1.below hb7
          have hu7 := RdB.below HB6.out.2 hb7
          have hS1 := hbx7.box
          have HB7 := Lib.hid (And.intro hbx7 hu7)
          clear hb7 hbx7 hu7))
      | ((go_simp; go_at_call 56
          refine (setSlot_any _ g _ _ _ _ i lo 0 rfl rfl rfl HB7.out.1.pg (by have := HM.out; omega) (by omega) (by omega)).mono ?_
          rintro e W2 ⟨rfl, hp8, hc8⟩
          have hbx8 := HB7.out.1.step hp8 hc8
          have hu8 := RdB.chg HB7.out.2 hc8
          rw [← HHP.out] at hbx8
          have hS2 := hbx8.box
          have HB8 := Lib.hid (And.intro hbx8 hu8)
          clear hp8 hc8 hbx8 hu8)))
    have hrr := room_any (F := fun _ => False) _ _ h (HB8.out.1.rd (fun h => h)) HHG.out.1.len
    rw [HHG.out.2.1, HHG.out.2.2] at hrr
    have HRR := Lib.hid hrr
    clear hrr hS0 hS1
    go_wp2_with fail
    refine HRR.out.mono ?_
    rintro e w9 ⟨rfl, hb9⟩
    have hbx9 := HB8.out.1.below hb9
    have hu9 := RdB.below HB8.out.2 hb9
    have hx9 := hbx9.box
    have HB9 := Lib.hid (And.intro hbx9 hu9)
    clear hb9 hbx9 hu9 hS2
    go_wp2_with fail
    refine (anew_any _ g h HB9.out.1.pg (good_anewOk HHG.out.1).fit (good_anewOk HHG.out.1).cell).mono ?_
    rintro e w10 ⟨rfl, hp10, hc10⟩
    have hbx10 := HB9.out.1.step hp10 hc10
    have hu10 := RdB.chg HB9.out.2 hc10
    rw [show anewP h = q by rw [← HQ.out]; unfold roomP; rw [if_pos (by rw [HHG.out.2.1, HHG.out.2.2, ← HN2.out]; omega)]] at hbx10
    have hx10 := hbx10.box
    clear hp10 hc10 hx9
    have hbl := below_any (F := G1 g) _ g _ c _ (i : Int) i rfl hbx10.pg hu10 rfl (by have := HM.out; omega) (by have := HRM.out.room; omega) HRM.out.low
    have HBL := Lib.hid hbl
    have HB10 := Lib.hid hbx10
    clear hbx10 hu10 hbl
    go_wp2_with fail
    refine HBL.out.mono ?_
    rintro e w11 ⟨rfl, hp11, hc11⟩
    have hbx11 := HB10.out.step hp11 hc11
    have hx11 := hbx11.box
    have HB11 := Lib.hid hbx11
    clear hp11 hc11 hbx11 hx10
    go_wp2
    go_ret2
    refine ⟨g, rfl, ?_, HB.out.2.1, HB11.out.fin HB.out.2.2 HB.out.2.1⟩
    rw [HRP.out]
    exact HB11.out.pg
  · have hdummy := trivial
    go_enter Try.func20, Try.ntmps20
    go_wp2_with fail
    refine HG.out.mono ?_
    rintro e w2 ⟨g, rfl, hpg, hgs, hb⟩
    have hbx := Bx.start hpg
    have hx := hbx.box
    have hc := count_any (F := fun _ => False) _ _ p (hbx.rd (fun h => h)) HP.out.len
    rw [HM.out.1] at hc
    have HC := Lib.hid hc
    have hu3 : RdB (G1 g) (w2.alloc (.cells #[.slice (some ⟨g, 0, none⟩) 512 512] 65)) (.slice a2 n2 c2) c := by
      have h1 : RdB (fun k => F k ∨ k = g) w (.slice a2 n2 c2) c := RdB.mono HU.out (fun k hk h => h.elim id (fun h => by omega))
      exact RdB.mono (RdB.alloc (RdB.below h1 hb) _) (fun k _ h => .inr h)
    have HB := Lib.hid (And.intro hbx (And.intro hgs hb))
    have HU3 := Lib.hid hu3
    clear hb hc hpg hgs hbx hu3
    go_wp2_with fail
    refine HC.out.mono ?_
    rintro e w4 ⟨rfl, hb4⟩
    have hbx4 := HB.out.1.below hb4
    have hu4 := RdB.below HU3.out hb4
    have hx4 := hbx4.box
    have hsl := slot_any (F := fun _ => False) _ _ p i (hbx4.rd (fun h => h)) HP.out.len (by have := HP.out.fit; have := HP.out.low; have := HM.out; omega)
    rw [HM.out.2.2.1, HM.out.2.2.2.1] at hsl
    have HSL := Lib.hid hsl
    have HB4 := Lib.hid (And.intro hbx4 hu4)
    clear hb4 hbx4 hsl hx hu4
    go_wp2_with fail
    refine HSL.out.mono ?_
    rintro e w5 ⟨rfl, hb5⟩
    have hbx5 := HB4.out.1.below hb5
    have hu5 := RdB.below HB4.out.2 hb5
    have hx5 := hbx5.box
    have hfr := free_any (F := fun _ => False) _ _ p (hbx5.rd (fun h => h)) HP.out.len (by have := HP.out.fit; have := HP.out.low; omega)
    rw [HFR.out] at hfr
    have HFF := Lib.hid hfr
    have HB5 := Lib.hid (And.intro hbx5 hu5)
    clear hb5 hbx5 hx4 hu5 hfr
    go_wp2_with fail
    refine HFF.out.mono ?_
    rintro e w6 ⟨rfl, hb6⟩
    have hbx6 := HB5.out.1.below hb6
    have hu6 := RdB.below HB5.out.2 hb6
    have hx6 := hbx6.box
    have hS0 : w6.drew.cell? ⟨w2.heap.size, 0, none⟩ = some (.slice (some ⟨g, 0, none⟩) 512 512) := (hbx6.drew 1).box
    have hlw := low_any (F := fun _ => False) _ _ p ((hbx6.drew 1).rd (fun h => h)) HP.out.len
    rw [HM.out.2.1] at hlw
    have HLW := Lib.hid hlw
    have HB6 := Lib.hid (And.intro (hbx6.drew 1) (RdB.drewN hu6 1))
    clear hb6 hbx6 hx5 hu6 hlw
    go_wp2
    go_region_held_law (fun W => W.cell? ⟨w2.heap.size, 0, none⟩ = some (.slice (some ⟨g, 0, none⟩) 512 512))
      (first | exact hS2 | exact hS1 | exact hS0)
      (first
      | ((go_simp; go_at_call 46
          refine HLW.out.mono ?_
          rintro e W1 ⟨rfl, hb7⟩
          have hbx7 := HB6.out.1.below hb7
          have hu7 := RdB.below HB6.out.2 hb7
          have hS1 := hbx7.box
          have HB7 := Lib.hid (And.intro hbx7 hu7)
          clear hb7 hbx7 hu7))
      | ((go_simp; go_at_call 56
          refine (setSlot_any _ g _ _ _ _ i lo 0 rfl rfl rfl HB7.out.1.pg (by have := HM.out; omega) (by omega) (by omega)).mono ?_
          rintro e W2 ⟨rfl, hp8, hc8⟩
          have hbx8 := HB7.out.1.step hp8 hc8
          have hu8 := RdB.chg HB7.out.2 hc8
          rw [← HHP.out] at hbx8
          have hS2 := hbx8.box
          have HB8 := Lib.hid (And.intro hbx8 hu8)
          clear hp8 hc8 hbx8 hu8)))
    have hrr := room_any (F := fun _ => False) _ _ h (HB8.out.1.rd (fun h => h)) HHG.out.1.len
    rw [HHG.out.2.1, HHG.out.2.2] at hrr
    have HRR := Lib.hid hrr
    clear hrr hS0 hS1
    go_wp2_with fail
    refine HRR.out.mono ?_
    rintro e w9 ⟨rfl, hb9⟩
    have hbx9 := HB8.out.1.below hb9
    have hu9 := RdB.below HB8.out.2 hb9
    have hx9 := hbx9.box
    have HB9 := Lib.hid (And.intro hbx9 hu9)
    clear hb9 hbx9 hu9 hS2
    have hbx10 := HB9.out.1
    have hu10 := HB9.out.2
    rw [show h = q by rw [← HQ.out]; unfold roomP; rw [if_neg (by rw [HHG.out.2.1, HHG.out.2.2, ← HN2.out]; omega)]] at hbx10
    have hx10 := hbx10.box
    clear hx9
    have hbl := below_any (F := G1 g) _ g _ c _ (i : Int) i rfl hbx10.pg hu10 rfl (by have := HM.out; omega) (by have := HRM.out.room; omega) HRM.out.low
    have HBL := Lib.hid hbl
    have HB10 := Lib.hid hbx10
    clear hbx10 hu10 hbl
    go_wp2_with fail
    refine HBL.out.mono ?_
    rintro e w11 ⟨rfl, hp11, hc11⟩
    have hbx11 := HB10.out.step hp11 hc11
    have hx11 := hbx11.box
    have HB11 := Lib.hid hbx11
    clear hp11 hc11 hbx11 hx10
    go_wp2
    go_ret2
    refine ⟨g, rfl, ?_, HB.out.2.1, HB11.out.fin HB.out.2.2 HB.out.2.1⟩
    rw [HRP.out]
    exact HB11.out.pg
end Mun
