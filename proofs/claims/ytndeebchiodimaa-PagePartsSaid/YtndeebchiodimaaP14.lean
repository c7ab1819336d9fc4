/- Contract of Insert. -/
import Derived.Test.YtndeebchiodimaaP12
import Derived.Test.YtndeebchiodimaaPageO
set_option maxRecDepth 100000
set_option linter.unusedVariables false
set_option linter.unusedSimpArgs false
namespace Mun
open Go Go.RowKit
open Go.Proofs

theorem insert_no {F : Foot} (w : World) (v u : Value) (p c : List UInt8) (i : Int) (hv : RdB F w v p) (hu : RdB F w u c) (hg : ¬ GoodP p) : Calls Try.prog 17 #[v, .int .i64 i, u] w (PageNo w 4) := by
  have hgo := copied_no w v p hv hg
  obtain ⟨a, n, c, rfl, HN, -, -⟩ := hv.formN
  obtain ⟨a2, n2, c2, rfl, HN2, -, -⟩ := hu.formN
  have HG := Lib.hid hgo
  clear hgo hv hg HN hu HN2
  go_enter Try.func17, Try.ntmps17
  go_wp2_with fail
  refine HG.out.mono ?_
  rintro e w2 ⟨rfl, hb⟩
  have HB := Lib.hid hb
  clear hb
  go_wp2
  go_ret2
  exact ⟨rfl, HB.out.alloc HB.out.size _⟩

theorem insert_bad {F : Foot} (w : World) (v u : Value) (p c : List UInt8) (i : Int) (hv : RdB F w v p) (hu : RdB F w u c) (hg : GoodP p) (hi : i < 0 ∨ (¬ i < 0 ∧ i > (cnt p : Int))) : Calls Try.prog 17 #[v, .int .i64 i, u] w (PageNo w 1) := by
  have hgo := copied_yes w v p hv hg
  have HP := Lib.hid hg.len
  obtain ⟨a, n, c, rfl, HN, -, -⟩ := hv.formN
  obtain ⟨a2, n2, c2, rfl, HN2, -, -⟩ := hu.formN
  have HG := Lib.hid hgo
  clear hgo hv hg HN hu HN2
  rcases hi with hi | ⟨hi, hi2⟩
  · go_enter Try.func17, Try.ntmps17
    go_wp2_with fail
    refine HG.out.mono ?_
    rintro e w2 ⟨g, rfl, hpg, hgs, hb⟩
    have HB := Lib.hid hb
    clear hb hpg hgs
    go_wp2
    go_ret2
    exact ⟨rfl, HB.out.alloc HB.out.size _⟩
  · obtain ⟨m, hm⟩ : ∃ m, cnt p = m := ⟨_, rfl⟩
    rw [hm] at hi2
    have HM := Lib.hid hm
    clear hm
    go_enter Try.func17, Try.ntmps17
    go_wp2_with fail
    refine HG.out.mono ?_
    rintro e w2 ⟨g, rfl, hpg, hgs, hb⟩
    have hbx := Bx.start hpg
    have hx := hbx.box
    have hc := count_any (F := fun _ => False) _ _ p (hbx.rd (fun h => h)) HP.out
    rw [HM.out] at hc
    have HC := Lib.hid hc
    have HB := Lib.hid (And.intro hbx (And.intro hgs hb))
    clear hb hc hpg hgs hbx
    go_wp2_with fail
    refine HC.out.mono ?_
    rintro e w4 ⟨rfl, hb4⟩
    have HB4 := Lib.hid (HB.out.1.below hb4)
    clear hb4
    go_wp2
    go_ret2
    exact ⟨rfl, HB4.out.fin HB.out.2.2 HB.out.2.1⟩

set_option maxHeartbeats 1000000 in
theorem insert_full {F : Foot} (w : World) (v u : Value) (p c : List UInt8) (i : Nat) (hv : RdB F w v p) (hu : RdB F w u c) (hg : GoodP p) (hi : i ≤ cnt p) (hf : freeP p < (c.length : Int) + 4) (hcl : c.length ≤ 140737488355328) : Calls Try.prog 17 #[v, .int .i64 i, u] w (PageNo w 7) := by
  have hgo := copied_yes w v p hv hg
  have HP := Lib.hid hg
  obtain ⟨a, n, cp, rfl, HN, -, -⟩ := hv.formN
  obtain ⟨a2, n2, c2, rfl, HN2, -, -⟩ := hu.formN
  have HG := Lib.hid hgo
  obtain ⟨m, hm⟩ : ∃ m, cnt p = m := ⟨_, rfl⟩
  obtain ⟨f, hff⟩ : ∃ f, freeP p = f := ⟨_, rfl⟩
  rw [hm] at hi
  rw [hff, ← HN2.out] at hf
  have hnb : n2 ≤ 140737488355328 := by rw [HN2.out]; exact hcl
  have HM := Lib.hid (And.intro hm hff)
  have t1 : ¬ (i : Int) < 0 := by omega
  have t2 : ¬ (i : Int) > (m : Int) := by omega
  clear hgo hv hg HN hu HN2 hm hff hcl hi
  go_enter Try.func17, Try.ntmps17
  go_wp2_with fail
  refine HG.out.mono ?_
  rintro e w2 ⟨g, rfl, hpg, hgs, hb⟩
  have hbx := Bx.start hpg
  have hx := hbx.box
  have hc := count_any (F := fun _ => False) _ _ p (hbx.rd (fun h => h)) HP.out.len
  rw [HM.out.1] at hc
  have HC := Lib.hid hc
  have HB := Lib.hid (And.intro hbx (And.intro hgs hb))
  clear hb hc hpg hgs hbx
  go_wp2_with fail
  refine HC.out.mono ?_
  rintro e w4 ⟨rfl, hb4⟩
  have hbx4 := HB.out.1.below hb4
  have hx4 := hbx4.box
  have hfr := free_any (F := fun _ => False) _ _ p (hbx4.rd (fun h => h)) HP.out.len (by have := HP.out.fit; have := HP.out.low; omega)
  rw [HM.out.2] at hfr
  have HFR := Lib.hid hfr
  have HB4 := Lib.hid hbx4
  clear hb4 hbx4 hfr hx
  go_wp2_with fail
  refine HFR.out.mono ?_
  rintro e w5 ⟨rfl, hb5⟩
  have HB5 := Lib.hid (HB4.out.below hb5)
  clear hb5 hx4
  go_wp2
  go_ret2
  exact ⟨rfl, HB5.out.fin HB.out.2.2 HB.out.2.1⟩

set_option maxHeartbeats 4000000 in
theorem insert_yes {F : Foot} (w : World) (v u : Value) (p c : List UInt8) (i : Nat) (hv : RdB F w v p) (hu : RdB F w u c) (hg : GoodP p) (hi : i ≤ cnt p) (hf : (c.length : Int) + 4 ≤ freeP p) : Calls Try.prog 17 #[v, .int .i64 i, u] w (PageOut w (insP p i c)) := by
  have hgo := copied_yes w v p hv hg
  have HP := Lib.hid hg
  have HU := Lib.hid hu
  obtain ⟨a, n, cp, rfl, HN, -, -⟩ := hv.formN
  obtain ⟨a2, n2, c2, rfl, HN2, -, -⟩ := hu.formN
  have HG := Lib.hid hgo
  have hrm := room_ok hg (c.length + 4) (by push_cast; exact hf)
  have hmb : cnt p ≤ 121 := by have := hg.fit; have := hg.low; omega
  have hlb : lowP p ≤ 512 := hg.low
  have hfb : freeP p ≤ 486 := by unfold freeP; omega
  have HIP : Hid (insP p i c = belowP (pt (putAt (roomP p (c.length + 4)) (26 + 4 * (i + 1)) (win (roomP p (c.length + 4)) (26 + 4 * i) (4 * (cnt p - i)))) 14 2 (cnt p + 1)) i c) := by show _ = _; rfl
  obtain ⟨m, hm⟩ : ∃ m, cnt p = m := ⟨_, rfl⟩
  obtain ⟨f, hff⟩ : ∃ f, freeP p = f := ⟨_, rfl⟩
  obtain ⟨lo, hlo⟩ : ∃ lo, lowP p = lo := ⟨_, rfl⟩
  obtain ⟨q, hq⟩ : ∃ q, roomP p (c.length + 4) = q := ⟨_, rfl⟩
  rw [hq] at hrm HIP
  rw [hm] at hi hmb HIP
  rw [hlo] at hlb
  rw [hff] at hfb
  rw [hff, ← HN2.out] at hf
  have HRM := Lib.hid hrm
  have HQ := Lib.hid hq
  have HM := Lib.hid (And.intro hm (And.intro hff (And.intro hlo hi)))
  have t1 : ¬ (i : Int) < 0 := by omega
  have t2 : ¬ (i : Int) > (m : Int) := by omega
  have t3 : ¬ f < (n2 : Int) + 4 := by omega
  have hnb : n2 ≤ 486 := by omega
  clear hgo hv hg HN hu hm hff hrm hq hlo hf hi
  by_cases hroom : (lo : Int) - 26 - 4 * (m : Int) < (n2 : Int) + 4
  · have hdummy := trivial
    go_enter Try.func17, Try.ntmps17
    go_wp2_with fail
    refine HG.out.mono ?_
    rintro e w2 ⟨g, rfl, hpg, hgs, hb⟩
    have hbx := Bx.start hpg
    have hx := hbx.box
    have hc := count_any (F := fun _ => False) _ _ p (hbx.rd (fun h => h)) HP.out.len
    rw [HM.out.1] at hc
    have HC := Lib.hid hc
    have hu3 : RdB (G1 g) (w2.alloc (.cells #[.slice (some ⟨g, 0, none⟩) 512 512] 65)) (.slice a2 n2 c2) c := by
      have h1 : RdB (fun k => F k ∨ k = g) w (.slice a2 n2 c2) c := RdB.mono HU.out (fun k hk h => h.elim id (fun h => by omega))
      exact RdB.mono (RdB.alloc (RdB.below h1 hb) _) (fun k _ h => .inr h)
    have HB := Lib.hid (And.intro hbx (And.intro hgs hb))
    have HU3 := Lib.hid hu3
    clear hb hc hpg hgs hbx hu3
    go_wp2_with fail
    refine HC.out.mono ?_
    rintro e w4 ⟨rfl, hb4⟩
    have hbx4 := HB.out.1.below hb4
    have hu4 := RdB.below HU3.out hb4
    have hx4 := hbx4.box
    have hfr := free_any (F := fun _ => False) _ _ p (hbx4.rd (fun h => h)) HP.out.len (by have := HP.out.fit; have := HP.out.low; omega)
    rw [HM.out.2.1] at hfr
    have HFR := Lib.hid hfr
    have HB4 := Lib.hid (And.intro hbx4 hu4)
    clear hb4 hbx4 hfr hx hu4
    go_wp2_with fail
    refine HFR.out.mono ?_
    rintro e w5 ⟨rfl, hb5⟩
    have hbx5 := HB4.out.1.below hb5
    have hu5 := RdB.below HB4.out.2 hb5
    have hx5 := hbx5.box
    have hrr := room_any (F := fun _ => False) _ _ p (hbx5.rd (fun h => h)) HP.out.len
    rw [HM.out.1, HM.out.2.2.1] at hrr
    have HRR := Lib.hid hrr
    have HB5 := Lib.hid (And.intro hbx5 hu5)
    clear hb5 hbx5 hrr hx4 hu5
    go_wp2_with fail
    refine HRR.out.mono ?_
    rintro e w6 ⟨rfl, hb6⟩
    have hbx6 := HB5.out.1.below hb6
    have hu6 := RdB.below HB5.out.2 hb6
    have hx6 := hbx6.box
    have HB6 := Lib.hid (And.intro hbx6 hu6)
    clear hb6 hbx6 hx5 hu6
    go_wp2_with fail
    refine (anew_any _ g p HB6.out.1.pg (good_anewOk HP.out).fit (good_anewOk HP.out).cell).mono ?_
    rintro e w7 ⟨rfl, hp7, hc7⟩
    have hbx7 := HB6.out.1.step hp7 hc7
    have hu7 := RdB.chg HB6.out.2 hc7
    rw [show anewP p = q by rw [← HQ.out]; unfold roomP; rw [if_pos (by rw [HM.out.1, HM.out.2.2.1, ← HN2.out]; omega)]] at hbx7
    have hx7 := hbx7.box
    have HB7 := Lib.hid (And.intro hbx7 hu7)
    clear hp7 hc7 hbx7 hx6 hu7
    have hcq := count_any (F := fun _ => False) _ _ q (HB7.out.1.rd (fun h => h)) HRM.out.len
    rw [HRM.out.cnt, HM.out.1] at hcq
    have HCQ := Lib.hid hcq
    clear hcq
    go_wp2_with fail
    refine HCQ.out.mono ?_
    rintro e w8 ⟨rfl, hb8⟩
    have hbx8 := HB7.out.1.below hb8
    have hu8 := RdB.below HB7.out.2 hb8
    have hx8 := hbx8.box
    have hrm := HRM.out
    have hm1 := HM.out.1
    have hi := HM.out.2.2.2
    have hroomq := hrm.room
    have hlowq := hrm.low
    rw [hm1] at hroomq
    obtain ⟨d, hd⟩ : ∃ d, 4 * (m - i) = d := ⟨_, rfl⟩
    have hs1 := slice_own g (26 + 4 * (i + 1)) (26 + 4 * (m + 1)) (26 + 4 * ((i : Int) + 1)) (26 + 4 * ((m : Int) + 1)) (by push_cast; rfl) (by push_cast; rfl) (by omega) (by omega) (by omega)
    have hs2 := slice_own g (26 + 4 * i) (26 + 4 * m) (26 + 4 * (i : Int)) (26 + 4 * (m : Int)) (by push_cast; rfl) (by push_cast; rfl) (by omega) (by omega) (by omega)
    have hrd := (hbx8.drew 1).pg.rdPart (F := fun _ => False) (fun h => h) (26 + 4 * i) (26 + 4 * m) (by omega) (by omega) (by omega)
    rw [show 26 + 4 * (m + 1) - (26 + 4 * (i + 1)) = d by omega] at hs1
    rw [show 26 + 4 * m - (26 + 4 * i) = d by omega] at hs2 hrd
    have hwl : ((q.drop (26 + 4 * i)).take d).length = d := win_length q (26 + 4 * i) d (by rw [hrm.len]; omega)
    obtain ⟨W9, r9, hcr, hp9, hc9⟩ := copy_mid (ty := 3) w8.drew g (26 + 4 * (i + 1)) d (512 - (26 + 4 * (i + 1))) q ((q.drop (26 + 4 * i)).take d) _ (hbx8.drew 1).pg hrd (by omega) (by omega) (.slice (some ⟨g, 26 + 4 * (i + 1), none⟩) d (512 - (26 + 4 * (i + 1)))) ⟨fun _ => rfl, _, rfl⟩
    have hbx9 := (hbx8.drew 1).step hp9 hc9
    have hu9 := RdB.chg (RdB.drewN hu8 1) hc9
    have hx9 := hbx9.box
    have hS0 : w8.drew.cell? ⟨w2.heap.size, 0, none⟩ = some (.slice (some ⟨g, 0, none⟩) 512 512) := (hbx8.drew 1).box
    have HB9 := Lib.hid (And.intro hbx9 hu9)
    have HCR := Lib.hid hcr
    have HD := Lib.hid hd
    have j1 : IntKind.i64.wrap ((i : Int) + 1) = (i : Int) + 1 := by rw [IntKind.wrap_i64]; omega
    have j2 : IntKind.i64.wrap (4 * ((i : Int) + 1)) = 4 * ((i : Int) + 1) := by rw [IntKind.wrap_i64]; omega
    have j3 : IntKind.i64.wrap (26 + 4 * ((i : Int) + 1)) = 26 + 4 * ((i : Int) + 1) := by rw [IntKind.wrap_i64]; omega
    have j4 : IntKind.i64.wrap ((m : Int) + 1) = (m : Int) + 1 := by rw [IntKind.wrap_i64]; omega
    have j5 : IntKind.i64.wrap (4 * ((m : Int) + 1)) = 4 * ((m : Int) + 1) := by rw [IntKind.wrap_i64]; omega
    have j6 : IntKind.i64.wrap (26 + 4 * ((m : Int) + 1)) = 26 + 4 * ((m : Int) + 1) := by rw [IntKind.wrap_i64]; omega
    have j7 : IntKind.i64.wrap (4 * (i : Int)) = 4 * (i : Int) := by rw [IntKind.wrap_i64]; omega
    have j8 : IntKind.i64.wrap (26 + 4 * (i : Int)) = 26 + 4 * (i : Int) := by rw [IntKind.wrap_i64]; omega
    have j9 : IntKind.i64.wrap (4 * (m : Int)) = 4 * (m : Int) := by rw [IntKind.wrap_i64]; omega
    have j10 : IntKind.i64.wrap (26 + 4 * (m : Int)) = 26 + 4 * (m : Int) := by rw [IntKind.wrap_i64]; omega
    clear hb8 hbx8 hx7 hu8 hrm hm1 hi hroomq hlowq hd hrd hwl hcr hp9 hc9 hbx9 hu9
    go_wp2
    go_region_held_law (fun W => W.cell? ⟨w2.heap.size, 0, none⟩ = some (.slice (some ⟨g, 0, none⟩) 512 512))
      (first | exact hS0 | exact hx9)
      ((refine step_copy_eq rfl rfl HCR.out rfl rfl ?_))
    have hlt : Hid (26 + 4 * i + 4 ≤ 512 ∧ (14 + 2 ≤ 26 + 4 * (i + 1)) ∧ 26 + 4 * (i + 1) + d ≤ 512) := by
      show _ ∧ _
      have hrm := HRM.out
      have h1 := hrm.room
      have h2 := hrm.low
      have h3 := HM.out.2.2.2
      have h4 := HD.out
      rw [HM.out.1] at h1
      omega
    clear j1 j2 j3 j5 j6 j7 j8 j9 j10 hS0 hx8 hs1 hs2
    go_wp2_with fail
    refine (put_any _ g _ 14 2 14 2 (m + 1) rfl rfl HB9.out.1.pg (by decide) (by decide) (by decide)).mono ?_
    rintro e w10 ⟨rfl, hp10, hc10⟩
    have hbx10 := HB9.out.1.step hp10 hc10
    have hu10 := RdB.chg HB9.out.2 hc10
    have hx10 := hbx10.box
    have hlw : lowP (pt (putAt q (26 + 4 * (i + 1)) ((q.drop (26 + 4 * i)).take d)) 14 2 (m + 1)) = lowP q := by
      have h1 := HRM.out.len
      have hl := hlt.out
      have hwl : ((q.drop (26 + 4 * i)).take d).length = d := win_length q (26 + 4 * i) d (by omega)
      have h2 : (putAt q (26 + 4 * (i + 1)) ((q.drop (26 + 4 * i)).take d)).length = 512 := by rw [putAt_length _ _ _ (by omega), h1]
      show gt _ 16 2 = gt _ 16 2
      rw [gt_pt_apart _ _ _ _ _ _ (by omega) (by omega), gt_putAt_apart _ _ _ _ _ (by omega) (by omega)]
    have hbl := below_any (F := G1 g) w10 g _ c _ (i : Int) i rfl hbx10.pg hu10 rfl hlt.out.1 (by rw [hlw]; have := HRM.out.room; omega) (by rw [hlw]; exact HRM.out.low)
    have HBL := Lib.hid hbl
    have HB10 := Lib.hid (And.intro hbx10 hu10)
    clear hp10 hc10 hbx10 hu10 hx9 hlw hbl
    go_wp2_with fail
    refine HBL.out.mono ?_
    rintro e w11 ⟨rfl, hp11, hc11⟩
    have hbx11 := HB10.out.1.step hp11 hc11
    have hx11 := hbx11.box
    have HB11 := Lib.hid hbx11
    clear hp11 hc11 hbx11 hx10
    go_wp2
    go_ret2
    refine ⟨g, rfl, ?_, HB.out.2.1, HB11.out.fin HB.out.2.2 HB.out.2.1⟩
    rw [HIP.out, HD.out]
    exact HB11.out.pg
  · have hdummy := trivial
    go_enter Try.func17, Try.ntmps17
    go_wp2_with fail
    refine HG.out.mono ?_
    rintro e w2 ⟨g, rfl, hpg, hgs, hb⟩
    have hbx := Bx.start hpg
    have hx := hbx.box
    have hc := count_any (F := fun _ => False) _ _ p (hbx.rd (fun h => h)) HP.out.len
    rw [HM.out.1] at hc
    have HC := Lib.hid hc
    have hu3 : RdB (G1 g) (w2.alloc (.cells #[.slice (some ⟨g, 0, none⟩) 512 512] 65)) (.slice a2 n2 c2) c := by
      have h1 : RdB (fun k => F k ∨ k = g) w (.slice a2 n2 c2) c := RdB.mono HU.out (fun k hk h => h.elim id (fun h => by omega))
      exact RdB.mono (RdB.alloc (RdB.below h1 hb) _) (fun k _ h => .inr h)
    have HB := Lib.hid (And.intro hbx (And.intro hgs hb))
    have HU3 := Lib.hid hu3
    clear hb hc hpg hgs hbx hu3
    go_wp2_with fail
    refine HC.out.mono ?_
    rintro e w4 ⟨rfl, hb4⟩
    have hbx4 := HB.out.1.below hb4
    have hu4 := RdB.below HU3.out hb4
    have hx4 := hbx4.box
    have hfr := free_any (F := fun _ => False) _ _ p (hbx4.rd (fun h => h)) HP.out.len (by have := HP.out.fit; have := HP.out.low; omega)
    rw [HM.out.2.1] at hfr
    have HFR := Lib.hid hfr
    have HB4 := Lib.hid (And.intro hbx4 hu4)
    clear hb4 hbx4 hfr hx hu4
    go_wp2_with fail
    refine HFR.out.mono ?_
    rintro e w5 ⟨rfl, hb5⟩
    have hbx5 := HB4.out.1.below hb5
    have hu5 := RdB.below HB4.out.2 hb5
    have hx5 := hbx5.box
    have hrr := room_any (F := fun _ => False) _ _ p (hbx5.rd (fun h => h)) HP.out.len
    rw [HM.out.1, HM.out.2.2.1] at hrr
    have HRR := Lib.hid hrr
    have HB5 := Lib.hid (And.intro hbx5 hu5)
    clear hb5 hbx5 hrr hx4 hu5
    go_wp2_with fail
    refine HRR.out.mono ?_
    rintro e w6 ⟨rfl, hb6⟩
    have hbx6 := HB5.out.1.below hb6
    have hu6 := RdB.below HB5.out.2 hb6
    have hx6 := hbx6.box
    have HB6 := Lib.hid (And.intro hbx6 hu6)
    clear hb6 hbx6 hx5 hu6
    have hbx7 := HB6.out.1
    have hu7 := HB6.out.2
    rw [show p = q by rw [← HQ.out]; unfold roomP; rw [if_neg (by rw [HM.out.1, HM.out.2.2.1, ← HN2.out]; omega)]] at hbx7
    obtain ⟨w7, rfl⟩ : ∃ w7, w6 = w7 := ⟨_, rfl⟩
    have hx7 := hbx7.box
    have HB7 := Lib.hid (And.intro hbx7 hu7)
    clear hbx7 hx6 hu7
    have hcq := count_any (F := fun _ => False) _ _ q (HB7.out.1.rd (fun h => h)) HRM.out.len
    rw [HRM.out.cnt, HM.out.1] at hcq
    have HCQ := Lib.hid hcq
    clear hcq
    go_wp2_with fail
    refine HCQ.out.mono ?_
    rintro e w8 ⟨rfl, hb8⟩
    have hbx8 := HB7.out.1.below hb8
    have hu8 := RdB.below HB7.out.2 hb8
    have hx8 := hbx8.box
    have hrm := HRM.out
    have hm1 := HM.out.1
    have hi := HM.out.2.2.2
    have hroomq := hrm.room
    have hlowq := hrm.low
    rw [hm1] at hroomq
    obtain ⟨d, hd⟩ : ∃ d, 4 * (m - i) = d := ⟨_, rfl⟩
    have hs1 := slice_own g (26 + 4 * (i + 1)) (26 + 4 * (m + 1)) (26 + 4 * ((i : Int) + 1)) (26 + 4 * ((m : Int) + 1)) (by push_cast; rfl) (by push_cast; rfl) (by omega) (by omega) (by omega)
    have hs2 := slice_own g (26 + 4 * i) (26 + 4 * m) (26 + 4 * (i : Int)) (26 + 4 * (m : Int)) (by push_cast; rfl) (by push_cast; rfl) (by omega) (by omega) (by omega)
    have hrd := (hbx8.drew 1).pg.rdPart (F := fun _ => False) (fun h => h) (26 + 4 * i) (26 + 4 * m) (by omega) (by omega) (by omega)
    rw [show 26 + 4 * (m + 1) - (26 + 4 * (i + 1)) = d by omega] at hs1
    rw [show 26 + 4 * m - (26 + 4 * i) = d by omega] at hs2 hrd
    have hwl : ((q.drop (26 + 4 * i)).take d).length = d := win_length q (26 + 4 * i) d (by rw [hrm.len]; omega)
    obtain ⟨W9, r9, hcr, hp9, hc9⟩ := copy_mid (ty := 3) w8.drew g (26 + 4 * (i + 1)) d (512 - (26 + 4 * (i + 1))) q ((q.drop (26 + 4 * i)).take d) _ (hbx8.drew 1).pg hrd (by omega) (by omega) (.slice (some ⟨g, 26 + 4 * (i + 1), none⟩) d (512 - (26 + 4 * (i + 1)))) ⟨fun _ => rfl, _, rfl⟩
    have hbx9 := (hbx8.drew 1).step hp9 hc9
    have hu9 := RdB.chg (RdB.drewN hu8 1) hc9
    have hx9 := hbx9.box
    have hS0 : w8.drew.cell? ⟨w2.heap.size, 0, none⟩ = some (.slice (some ⟨g, 0, none⟩) 512 512) := (hbx8.drew 1).box
    have HB9 := Lib.hid (And.intro hbx9 hu9)
    have HCR := Lib.hid hcr
    have HD := Lib.hid hd
    have j1 : IntKind.i64.wrap ((i : Int) + 1) = (i : Int) + 1 := by rw [IntKind.wrap_i64]; omega
    have j2 : IntKind.i64.wrap (4 * ((i : Int) + 1)) = 4 * ((i : Int) + 1) := by rw [IntKind.wrap_i64]; omega
    have j3 : IntKind.i64.wrap (26 + 4 * ((i : Int) + 1)) = 26 + 4 * ((i : Int) + 1) := by rw [IntKind.wrap_i64]; omega
    have j4 : IntKind.i64.wrap ((m : Int) + 1) = (m : Int) + 1 := by rw [IntKind.wrap_i64]; omega
    have j5 : IntKind.i64.wrap (4 * ((m : Int) + 1)) = 4 * ((m : Int) + 1) := by rw [IntKind.wrap_i64]; omega
    have j6 : IntKind.i64.wrap (26 + 4 * ((m : Int) + 1)) = 26 + 4 * ((m : Int) + 1) := by rw [IntKind.wrap_i64]; omega
    have j7 : IntKind.i64.wrap (4 * (i : Int)) = 4 * (i : Int) := by rw [IntKind.wrap_i64]; omega
    have j8 : IntKind.i64.wrap (26 + 4 * (i : Int)) = 26 + 4 * (i : Int) := by rw [IntKind.wrap_i64]; omega
    have j9 : IntKind.i64.wrap (4 * (m : Int)) = 4 * (m : Int) := by rw [IntKind.wrap_i64]; omega
    have j10 : IntKind.i64.wrap (26 + 4 * (m : Int)) = 26 + 4 * (m : Int) := by rw [IntKind.wrap_i64]; omega
    clear hb8 hbx8 hx7 hu8 hrm hm1 hi hroomq hlowq hd hrd hwl hcr hp9 hc9 hbx9 hu9
    go_wp2
    go_region_held_law (fun W => W.cell? ⟨w2.heap.size, 0, none⟩ = some (.slice (some ⟨g, 0, none⟩) 512 512))
      (first | exact hS0 | exact hx9)
      ((refine step_copy_eq rfl rfl HCR.out rfl rfl ?_))
    have hlt : Hid (26 + 4 * i + 4 ≤ 512 ∧ (14 + 2 ≤ 26 + 4 * (i + 1)) ∧ 26 + 4 * (i + 1) + d ≤ 512) := by
      show _ ∧ _
      have hrm := HRM.out
      have h1 := hrm.room
      have h2 := hrm.low
      have h3 := HM.out.2.2.2
      have h4 := HD.out
      rw [HM.out.1] at h1
      omega
    clear j1 j2 j3 j5 j6 j7 j8 j9 j10 hS0 hx8 hs1 hs2
    go_wp2_with fail
    refine (put_any _ g _ 14 2 14 2 (m + 1) rfl rfl HB9.out.1.pg (by decide) (by decide) (by decide)).mono ?_
    rintro e w10 ⟨rfl, hp10, hc10⟩
    have hbx10 := HB9.out.1.step hp10 hc10
    have hu10 := RdB.chg HB9.out.2 hc10
    have hx10 := hbx10.box
    have hlw : lowP (pt (putAt q (26 + 4 * (i + 1)) ((q.drop (26 + 4 * i)).take d)) 14 2 (m + 1)) = lowP q := by
      have h1 := HRM.out.len
      have hl := hlt.out
      have hwl : ((q.drop (26 + 4 * i)).take d).length = d := win_length q (26 + 4 * i) d (by omega)
      have h2 : (putAt q (26 + 4 * (i + 1)) ((q.drop (26 + 4 * i)).take d)).length = 512 := by rw [putAt_length _ _ _ (by omega), h1]
      show gt _ 16 2 = gt _ 16 2
      rw [gt_pt_apart _ _ _ _ _ _ (by omega) (by omega), gt_putAt_apart _ _ _ _ _ (by omega) (by omega)]
    have hbl := below_any (F := G1 g) w10 g _ c _ (i : Int) i rfl hbx10.pg hu10 rfl hlt.out.1 (by rw [hlw]; have := HRM.out.room; omega) (by rw [hlw]; exact HRM.out.low)
    have HBL := Lib.hid hbl
    have HB10 := Lib.hid (And.intro hbx10 hu10)
    clear hp10 hc10 hbx10 hu10 hx9 hlw hbl
    go_wp2_with fail
    refine HBL.out.mono ?_
    rintro e w11 ⟨rfl, hp11, hc11⟩
    have hbx11 := HB10.out.1.step hp11 hc11
    have hx11 := hbx11.box
    have HB11 := Lib.hid hbx11
    clear hp11 hc11 hbx11 hx10
    go_wp2
    go_ret2
    refine ⟨g, rfl, ?_, HB.out.2.1, HB11.out.fin HB.out.2.2 HB.out.2.1⟩
    rw [HIP.out, HD.out]
    exact HB11.out.pg
end Mun
