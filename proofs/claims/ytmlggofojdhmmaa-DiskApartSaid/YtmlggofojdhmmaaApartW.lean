/- The walk of DiskApart. -/
import Derived.Test.YtmlggofojdhmmaaCertP
import Derived.Test.YtmlggofojdhmmaaDiskX
import Derived.Test.YtmlggofojdhmmaaZeros
set_option maxRecDepth 1000000
set_option linter.unusedVariables false
namespace Mun
open Go Go.RowKit
open Go.Proofs

/-- what is done to the log and the mark turns no page -/
structure ApInv (X : Bytes) (m : DM) (o : Nat) : Prop where
  live : Live m 3 o
  base : m.base = List.replicate 3 page0
  wait : m.waiting = [(1, X)]

theorem ask_pages (m : DM) (op n : Int) (b : Bytes) (h0 : op ≠ 0) (h1 : op ≠ 1) : (m.ask op n b).1.base = m.base ∧ (m.ask op n b).1.waiting = m.waiting := by
  obtain ⟨s1, s2, -⟩ := spend_fields m
  unfold DM.ask
  rw [if_neg h0, if_neg h1]
  unfold DM.append DM.force DM.cut DM.trim DM.setMark
  repeat' split
  all_goals first | exact ⟨rfl, rfl⟩ | exact ⟨s1, s2⟩

theorem ApInv.ask {X : Bytes} {m : DM} {o : Nat} (h : ApInv X m o) (op n : Int) (b : Bytes) (h2 : 2 ≤ op) : ApInv X (m.ask op n b).1 (o + 1) := by
  obtain ⟨h3, h4⟩ := ask_pages m op n b (by omega) (by omega)
  exact ⟨h.live.ask op n b, h3.trans h.base, h4.trans h.wait⟩

theorem ApInv.lost {X : Bytes} {m : DM} {o : Nat} (h : ApInv X m o) (hw : m.Wf) : (m.crash [1]).page 1 = page0 := by
  rw [crash_page]
  unfold DM.crashPages
  rw [(hw.alive h.live.dead).2, h.wait]
  show (crashBase m [1] 1).getD 1 page0 = page0
  have e : crashBase m [1] 1 = m.base := by
    rw [crashBase, h.wait]
    simp only [List.getElem?_cons_zero]
    rw [if_neg (by decide)]
    rfl
  rw [e, h.base]
  rfl

theorem ApInv.page {X : Bytes} {m : DM} {o : Nat} (h : ApInv X m o) : m.page 1 = X := by
  unfold DM.page
  rw [h.wait]
  rfl

theorem zeros_str (w : World) (n : Nat) (hn : n ≤ 140737488355328) : (convert 28 9 (.slice (some ⟨w.heap.size, 0, none⟩) n n)).run Try.prog (w.alloc (bobj (List.replicate n 0))) = .ok (.string (strOf (List.replicate n 0))) (w.alloc (bobj (List.replicate n 0))) := by
  have := str_bytes (bobj_rd (F := NoF) w (List.replicate n 0) (List.replicate n (0 : UInt8)).length rfl (maxLen_ge (by simpa using hn)) (noF _))
  rw [List.length_replicate] at this
  exact this

set_option maxHeartbeats 4000000 in
theorem apart_ok (W : World) (v : Value) (l : List Deed) (bv : Value) (b : Bytes) (hl : DeedsAt NoF W v l) (hlen : l.length ≤ 3518437208882) (hb : RdB NoF W bv b) (hbl : b.length ≤ 140737488351232) :
    Calls Try.prog 7 #[v, bv] W fun e W' => e = .returned (.bool true) ∧ Below W.heap.size W W' := by
  obtain ⟨a, c, hv, hlc, hcm⟩ := hl.row.form
  subst hv
  obtain ⟨ba, bn, bc, rfl, HBN, hbc, hbcm⟩ := hb.formN
  have HDL := Lib.hid hl
  have HLN := Lib.hid hlen
  have HB := Lib.hid (And.intro hb hbl)
  clear hl hlen hb hbl hbc hbcm
  go_enter Try.func7, Try.ntmps7
  go_wp2_with fail
  refine (awake6 W).mono ?_
  rintro e w1 ⟨rfl, hb1⟩
  have HB1 := Lib.hid hb1
  clear hb1
  go_wp2_with fail
  refine (d_new w1 3 400 (by decide) (by decide) (by decide)).mono ?_
  rintro e w2 ⟨rfl, hw2⟩
  have hA2 : LawAt W w2 (w1.heap.size + 2) NoF (newFoot w1) (DM.new 3 400) := by rw [← hw2]; exact LawAt.new HB1.out 3 400 (fun _ h => False.elim h) (by decide) (by decide)
  obtain ⟨F2, hF2⟩ : ∃ F2, newFoot w1 = F2 := ⟨_, rfl⟩
  obtain ⟨D, hD⟩ : ∃ D, w1.heap.size + 2 = D := ⟨_, rfl⟩
  rw [hF2, hD] at hA2
  rw [hD]
  have hbw2 : RdB NoF w2 (.slice ba bn bc) b := RdV.keep HB.out.1 (fun k hk _ => hA2.below.block k hk) (fun _ _ h => h)
  obtain ⟨g1, cap1, w3, g2, cap2, w4, hr3, hr4, ho4, hb4, hg4, hcap4⟩ := padded (ty := 28) (ty2 := 28) hbw2 512 (by decide) (by have := HB.out.2; omega)
  rw [← HBN.out] at hr3 hr4 ho4 hcap4
  have HR3 := Lib.hid hr3
  have HR4 := Lib.hid hr4
  have hbni : (bn : Int) ≤ 140737488351232 := by have := HB.out.2; have := HBN.out; omega
  have hA4 := hA2.grow hb4
  obtain ⟨xa, xc, hsl4, hx4⟩ := slice_bytes_to (OwnB.rd (F := F2) ho4 (fun k hk hF => by have := hA2.lt k hF; omega)) 512 (by rw [List.length_append, List.length_replicate]; omega)
  rw [show (((512 : Nat)) : Int) = 512 from rfl] at hsl4
  have hx6 : RdB F2 w4 (.slice xa 512 xc) (pad512 b) := hx4
  have hXl := pad512_length b
  obtain ⟨X, hX⟩ : ∃ X, pad512 b = X := ⟨_, rfl⟩
  rw [hX] at hx6 hXl
  have H6 := Lib.hid (And.intro hA4 hx6)
  have HXY := Lib.hid hXl
  clear hA2 hA4 ho4 hb4 hg4 hr3 hr4 hbw2 hw2 hF2 hD hcap4 hx4 hx6 hX hXl
  go_wp2_with (first
    | (at_builtin; refine Lib.wpList_append_run _ rfl _ _ _ _ rfl _ _ rfl rfl _ _ HR3.out ?_; clear HR3)
    | (at_builtin; refine Lib.wpList_append_run _ rfl _ _ _ _ rfl _ _ rfl rfl _ _ HR4.out ?_; clear HR4))
  have hwr := d_write w4 D F2 (DM.new 3 400) H6.out.1.disk (by decide) 1 _ X H6.out.2
  rw [show (1 : Int) = ((1 : Nat) : Int) from rfl, write_nf rfl rfl 1 (by simp [DM.new]) X HXY.out] at hwr
  rw [show ((1 : Nat) : Int) = (1 : Int) from rfl] at hwr
  refine hwr.mono ?_
  rintro e w7 ⟨rfl, F7, hd7, hc7⟩
  have hA7 := H6.out.1.chg hd7 hc7
  have hx7 := H6.out.2.chg hc7
  have hI7 : ApInv X { DM.new 3 400 with ops := (DM.new 3 400).ops + 1, waiting := (DM.new 3 400).waiting ++ [(1, X)] } 1 := ⟨⟨rfl, by show (-1 : Int) < 0; decide, by simp [DM.new], Nat.le_refl _⟩, rfl, rfl⟩
  have H7 := Lib.hid (And.intro hA7 (And.intro hx7 hI7))
  clear hwr hd7 hc7 hA7 hx7 hI7
  go_wp2
  go_loopw [8] (fun i wr => ∃ (j : Nat) (F : Foot) (m : DM), j ≤ l.length ∧ i = .int .i64 (j : Int) ∧ LawAt W wr D NoF F m ∧ RdB F wr (.slice xa 512 xc) X ∧ ApInv X m (1 + j)) (fun i _ => l.length - (intOf i).toNat)
  case atStart => exact ⟨0, _, _, by omega, rfl, H7.out.1, H7.out.2.1, H7.out.2.2⟩
  case round =>
    obtain ⟨j, F, m, hj, rfl, hA, hX, hL⟩ := hrel
    rcases Nat.lt_or_eq_of_le hj with hlt | heq
    · obtain ⟨g, off, c', hva, hlc', hcm', k0, k1, k2⟩ := (hA.deeds HDL.out).at_ j hlt
      injection hva with e1 e2 e3
      subst e1 e3
      clear e2
      have hgn : (j : Int) < (l.length : Int) := by omega
      have hj0 : (0 : Int) ≤ (j : Int) := by omega
      obtain ⟨x, hx⟩ : ∃ x, l[j] = x := ⟨_, rfl⟩
      have hxm : x ∈ l := by rw [← hx]; exact List.getElem_mem hlt
      rw [hx] at k0 k1 k2
      have hxr := (hA.deeds HDL.out).rd x hxm
      obtain ⟨ya, xn, yc, hxv, HXN, _, _⟩ := hxr.formN
      rw [hxv] at k2 hxr
      have HA := Lib.hid (And.intro hA (And.intro hxr (And.intro hL (And.intro hlt hX))))
      clear hA hxr hL hlt hlc' hcm' hlc hcm hxm hx hxv hj hX
      have hb63 : (l.length : Int) ≤ 3518437208882 := by have := HLN.out; omega
      by_cases hlo : x.op < 2
      · go_wp2
        go_roundw
        case rel =>
          obtain ⟨hA, hxr, hL, hlt, hX⟩ := HA.out
          exact ⟨j + 1, F, m, by omega, by go_num, hA, hX, ⟨⟨hL.live.dead, hL.live.fuse, hL.live.base, Nat.le_succ_of_le hL.live.ops⟩, hL.base, hL.wait⟩⟩
        case measure => have := HA.out.2.2.2.1; simp [intOf]; omega
      · by_cases hhi : x.op > 6
        · go_wp2
          go_roundw
          case rel =>
            obtain ⟨hA, hxr, hL, hlt, hX⟩ := HA.out
            exact ⟨j + 1, F, m, by omega, by go_num, hA, hX, ⟨⟨hL.live.dead, hL.live.fuse, hL.live.base, Nat.le_succ_of_le hL.live.ops⟩, hL.base, hL.wait⟩⟩
          case measure => have := HA.out.2.2.2.1; simp [intOf]; omega
        · go_wp2
          go_still_tail 16, (by kernel_rfl)
          change wpList _ _ _ _ _ wr.drew
          have hAd : LawAt W wr.drew D NoF F m := HA.out.1.drewN 1
          have hxd : RdB F wr.drew (.slice ya xn yc) x.b := HA.out.2.1.drewN 1
          have hXd : RdB F wr.drew (.slice xa 512 xc) X := HA.out.2.2.2.2.drewN 1
          obtain ⟨wd, hwd⟩ : ∃ wd, wr.drew = wd := ⟨_, rfl⟩
          rw [hwd] at hAd hxd hXd ⊢
          have hask := ask_any wd D F m hAd.disk (by have := HA.out.2.2.1.live.ops; have := HLN.out; have := HA.out.2.2.2.1; omega) x.op x.n _ x.b hxd
          have HAd := Lib.hid (And.intro hAd hXd)
          clear hAd hxd hwd hXd
          go_wp2_with fail
          refine hask.mono ?_
          rintro e w5 ⟨rfl, F', hd5, hc5⟩
          have HA5 := Lib.hid (And.intro (HAd.out.1.chg hd5 hc5) (HAd.out.2.chg hc5))
          have HL5 := Lib.hid (HA.out.2.2.1.ask x.op x.n x.b (by omega))
          clear hask hd5 hc5
          go_wp2
          go_roundw
          case rel => exact ⟨j + 1, F', _, by have := HA.out.2.2.2.1; omega, by go_num, HA5.out.1, HA5.out.2, HL5.out⟩
          case measure => have := HA.out.2.2.2.1; simp [intOf]; omega
    · have hgk : decide (j < l.length) = false := decide_eq_false (by omega)
      have HJ := Lib.hid hj
      have hwf := hA.disk.wf
      have hlost := hL.lost hwf
      have hpage := hL.page
      have ho42 : m.ops < 4398046511100 := by have := hL.live.ops; have := HLN.out; omega
      have HL := Lib.hid hL
      have HWF := Lib.hid hwf
      have hR1 := d_read wr D F m hA.disk hL.live.dead 1 (by rw [hL.live.base]; decide)
      rw [hpage] at hR1
      have hAx := hA.more (bobj X)
      have hXx := hX.alloc (bobj X)
      obtain ⟨w3', hw3⟩ : ∃ w3', wr.alloc (bobj X) = w3' := ⟨_, rfl⟩
      rw [hw3] at hR1 hAx hXx
      have hone : RdB F (w3'.alloc (.cells #[.int .u8 1] 5)) (.slice (some ⟨w3'.heap.size, 0, none⟩) 1 1) [1] :=
        lit_rd w3' _ _ [1] rfl _ _ _ rfl rfl rfl (by simp [maxLen]) (fun hF => absurd (hAx.lt _ hF) (Nat.lt_irrefl _))
      have hcr := d_crash (w3'.alloc (.cells #[.int .u8 1] 5)) D F m (hAx.more _).disk (by omega) _ [1] hone
      obtain ⟨w4', hw4⟩ : ∃ w4', w3'.alloc (.cells #[.int .u8 1] 5) = w4' := ⟨_, rfl⟩
      have hA4 := hAx.more (.cells #[.int .u8 1] 5)
      have hX4 := hXx.alloc (.cells #[.int .u8 1] 5)
      rw [hw4] at hcr hA4 hX4
      have H4 := Lib.hid (And.intro hA4 (And.intro hX4 (And.intro hlost (And.intro hw4 (And.intro hw3 ho42)))))
      have HR1 := Lib.hid hR1
      have HCR := Lib.hid hcr
      clear heq hA hL hj hX hwf hlost hpage ho42 hR1 hAx hXx hone hcr hA4 hX4 hw3
      go_wp2_with fail
      refine HR1.out.mono ?_
      rintro e W' ⟨rfl, rfl⟩
      go_wp2_with fail
      refine HCR.out.mono ?_
      rintro e w5 ⟨rfl, F5, hd5, hb5, hF5⟩
      obtain ⟨D5, hD5⟩ : ∃ D5, w4'.heap.size + 2 = D5 := ⟨_, rfl⟩
      rw [hD5] at hd5 ⊢
      have hA5 := H4.out.1.grow hb5
      have hX5 := H4.out.2.1.below hb5
      have hb34 : Below w4'.heap.size w4' w5 := hb5
      have hp5 : RdB NoF w5 (.slice (some ⟨wr.heap.size, 0, none⟩) 512 512) X := by
        have := (bobj_rd (F := NoF) wr X X.length rfl (maxLen_ge (by rw [HXY.out]; decide)) (noF _)).alloc (.cells #[.int .u8 1] 5)
        rw [H4.out.2.2.2.2.1, hw4, HXY.out] at this
        exact this.below hb5
      have hR2 := d_read w5 D5 F5 (m.crash [1]) hd5 rfl 1 (by rw [show (m.crash [1]).base.length = 3 from (crashPages_length _ _).trans HL.out.live.base]; decide)
      rw [H4.out.2.2.1] at hR2
      obtain ⟨w6, hw6⟩ : ∃ w6, w5.alloc (bobj page0) = w6 := ⟨_, rfl⟩
      have hA6 := hA5.more (bobj page0)
      have hX6 := hX5.alloc (bobj page0)
      have hp6 := hp5.alloc (bobj page0)
      have hz6 : RdB NoF (w5.alloc (bobj page0)) (.slice (some ⟨w5.heap.size, 0, none⟩) 512 512) page0 := by
        have := bobj_rd (F := NoF) w5 page0 page0.length rfl (maxLen_ge (by rw [page0_length]; decide)) (noF _)
        rwa [page0_length] at this
      rw [hw6] at hR2 hA6 hX6 hp6 hz6
      have hL1 := d_log w6 D F m hA6.disk HL.out.live.dead
      obtain ⟨lg, hlg⟩ : ∃ lg, m.log = lg := ⟨_, rfl⟩
      obtain ⟨mk, hmk⟩ : ∃ mk, m.mark = mk := ⟨_, rfl⟩
      have hlgl : lg.length ≤ 16777216 := by rw [← hlg]; have := HWF.out.room; have := HWF.out.room24; omega
      have hmkl : mk.length ≤ 64 := by rw [← hmk]; exact HWF.out.mark
      rw [hlg] at hL1
      obtain ⟨w7', hw7⟩ : ∃ w7', w6.alloc (bobj lg) = w7' := ⟨_, rfl⟩
      have hA7 := hA6.more (bobj lg)
      have hX7 := hX6.alloc (bobj lg)
      have hp7 := hp6.alloc (bobj lg)
      have hz7 := hz6.alloc (bobj lg)
      have hl7 := bobj_rd (F := F) w6 lg lg.length rfl (maxLen_ge (by omega)) (fun hk => absurd (hA6.lt _ hk) (Nat.lt_irrefl _))
      rw [hw7] at hL1 hA7 hX7 hp7 hz7 hl7
      have hM1 := d_marked w7' D F m hA7.disk HL.out.live.dead
      rw [hmk] at hM1
      obtain ⟨w8', hw8⟩ : ∃ w8', w7'.alloc (bobj mk) = w8' := ⟨_, rfl⟩
      have hA8 := hA7.more (bobj mk)
      have hX8 := hX7.alloc (bobj mk)
      have hp8 := hp7.alloc (bobj mk)
      have hz8 := hz7.alloc (bobj mk)
      have hl8 := hl7.alloc (bobj mk)
      have hm8 := bobj_rd (F := F) w7' mk mk.length rfl (maxLen_ge (by omega)) (fun hk => absurd (hA7.lt _ hk) (Nat.lt_irrefl _))
      rw [hw8] at hM1 hA8 hX8 hp8 hz8 hl8 hm8
      have hC1 := d_certain w8' D F m hA8.disk
      have hms : (Instr.makeSlice 28 (.int .i64 512) (.int .i64 512)).run Try.prog w8'.drew = .ok (.slice (some ⟨w8'.heap.size, 0, none⟩) 512 512) (w8'.drew.alloc (bobj page0)) := make_bytes 512 512 (Nat.le_refl _) (by decide) w8'.drew
      obtain ⟨w9, hw9⟩ : ∃ w9, w8'.drew.alloc (bobj page0) = w9 := ⟨_, rfl⟩
      have hA9 := (hA8.drewN 1).more (bobj page0)
      have hX9 := (hX8.drewN 1).alloc (bobj page0)
      have hp9 := (hp8.drewN 1).alloc (bobj page0)
      have hz9 := (hz8.drewN 1).alloc (bobj page0)
      have hl9 := (hl8.drewN 1).alloc (bobj page0)
      have hm9 := (hm8.drewN 1).alloc (bobj page0)
      have hn9 : RdB NoF (w8'.drew.alloc (bobj page0)) (.slice (some ⟨w8'.heap.size, 0, none⟩) 512 512) page0 := by
        have := bobj_rd (F := NoF) w8'.drew page0 page0.length rfl (maxLen_ge (by rw [page0_length]; decide)) (noF _)
        rw [page0_length] at this
        exact this
      change LawAt W (w8'.drew.alloc (bobj page0)) D NoF F m at hA9
      change RdB F (w8'.drew.alloc (bobj page0)) _ _ at hX9
      change RdB NoF (w8'.drew.alloc (bobj page0)) _ _ at hp9 hz9
      change RdB F (w8'.drew.alloc (bobj page0)) _ _ at hl9 hm9
      rw [hw9] at hms hA9 hX9 hp9 hz9 hl9 hm9 hn9
      have hS8 : (convert 28 9 (.slice (some ⟨wr.heap.size, 0, none⟩) 512 512)).run Try.prog w8'.drew = .ok (.string (strOf X)) w8'.drew ∧ (convert 28 9 (.slice xa 512 xc)).run Try.prog w8'.drew = .ok (.string (strOf X)) w8'.drew ∧ (convert 28 9 (.slice (some ⟨w5.heap.size, 0, none⟩) 512 512)).run Try.prog w8'.drew = .ok (.string (strOf page0)) w8'.drew :=
        ⟨str_bytes (w := w8'.drew) hp8, str_bytes (w := w8'.drew) hX8, str_bytes (w := w8'.drew) hz8⟩
      have hS9 : (convert 28 9 (.slice (some ⟨wr.heap.size, 0, none⟩) 512 512)).run Try.prog w9 = .ok (.string (strOf X)) w9 ∧ (convert 28 9 (.slice xa 512 xc)).run Try.prog w9 = .ok (.string (strOf X)) w9 ∧ (convert 28 9 (.slice (some ⟨w5.heap.size, 0, none⟩) 512 512)).run Try.prog w9 = .ok (.string (strOf page0)) w9 :=
        ⟨str_bytes hp9, str_bytes hX9, str_bytes hz9⟩
      have hN9 := str_bytes hn9
      have H9 := Lib.hid (And.intro hA9 (And.intro hX9 (And.intro hl9 (And.intro hm9 (And.intro hlgl (And.intro hmkl (And.intro hlg hmk)))))))
      have HR2 := Lib.hid hR2
      have HL1 := Lib.hid hL1
      have HM1 := Lib.hid hM1
      have HC1 := Lib.hid hC1
      clear hd5 hb5 hF5 hA5 hX5 hb34 hp5 hR2 hA6 hX6 hp6 hz6 hL1 hA7 hX7 hp7 hz7 hl7 hM1 hA8 hX8 hp8 hz8 hl8 hm8 hC1 hA9 hX9 hp9 hz9 hl9 hm9 hn9 hlgl hmkl hlg hmk hw6 hw7 hw8 hw9 hD5 hw4
      go_wp2_with fail
      refine HR2.out.mono ?_
      rintro e W' ⟨rfl, rfl⟩
      go_wp2_with fail
      refine HL1.out.mono ?_
      rintro e W' ⟨rfl, rfl⟩
      go_wp2_with fail
      refine HM1.out.mono ?_
      rintro e W' ⟨rfl, rfl⟩
      go_wp2_with fail
      refine HC1.out.mono ?_
      rintro e W' ⟨rfl, rfl⟩
      go_wp2
      go_region_held (fun V => (convert 28 9 (.slice (some ⟨wr.heap.size, 0, none⟩) 512 512)).run Try.prog V = .ok (.string (strOf X)) V ∧ (convert 28 9 (.slice xa 512 xc)).run Try.prog V = .ok (.string (strOf X)) V ∧ (convert 28 9 (.slice (some ⟨w5.heap.size, 0, none⟩) 512 512)).run Try.prog V = .ok (.string (strOf page0)) V)
        (first | assumption | exact hS8 | exact hS9)
        (fail)
      go_wp2_with fail
      have hfz : m.fuse = -1 := by have := HL.out.live.fuse; have := HWF.out.fuse1; omega
      have hsy := d_sync w9 D F m H9.out.1.disk (by have := H4.out.2.2.2.2.2; omega)
      rw [sync_nf HL.out.live.dead hfz] at hsy
      refine hsy.mono ?_
      rintro e w10 ⟨rfl, F10, hd10, hc10⟩
      have hA10 := H9.out.1.chg hd10 hc10
      have hX10 := H9.out.2.1.chg hc10
      have hl10 := H9.out.2.2.1.chg hc10
      have hm10 := H9.out.2.2.2.1.chg hc10
      obtain ⟨m2, hm2⟩ : ∃ m2 : DM, { m with ops := m.ops + 1, base := m.settled, waiting := [] } = m2 := ⟨_, rfl⟩
      have e2 : m2.dead = false ∧ m2.fuse = -1 ∧ m2.base = m.settled ∧ m2.waiting = [] ∧ m2.certain = m.certain ∧ m2.log = m.log ∧ m2.mark = m.mark ∧ m2.ops = m.ops + 1 := by
        rw [← hm2]
        exact ⟨HL.out.live.dead, hfz, rfl, rfl, rfl, rfl, rfl, rfl⟩
      obtain ⟨e21, e22, e23, e24, e25, e26, e27, e28⟩ := e2
      have hb2 : m2.base.length = 3 := by rw [e23, settled_len]; exact HL.out.live.base
      have hwr := d_write w10 D F10 m2 (by rw [← hm2]; exact hA10.disk) (by have := H4.out.2.2.2.2.2; omega) ((2 : Nat) : Int) _ X hX10
      rw [write_nf e21 e22 2 (by omega) X HXY.out] at hwr
      rw [show ((2 : Nat) : Int) = (2 : Int) from rfl] at hwr
      simp only [hm2] at hA10
      obtain ⟨m3, hm3⟩ : ∃ m3 : DM, { m2 with ops := m2.ops + 1, waiting := m2.waiting ++ [(2, X)] } = m3 := ⟨_, rfl⟩
      rw [hm3] at hwr
      have e3 : m3.dead = false ∧ m3.base = m.settled ∧ m3.waiting = [(2, X)] ∧ m3.certain = m.certain ∧ m3.log = m.log ∧ m3.mark = m.mark ∧ m3.ops = m.ops + 2 ∧ m3.torn = none := by
        rw [← hm3]
        refine ⟨e21, e23, by rw [e24]; rfl, e25, e26, e27, by show m2.ops + 1 = _; omega, ?_⟩
        rw [← hm2]
        exact (HWF.out.alive HL.out.live.dead).2
      have H10 := Lib.hid (And.intro hA10 (And.intro hX10 (And.intro hl10 (And.intro hm10 e3))))
      have HWR := Lib.hid hwr
      clear hsy hd10 hc10 hA10 hX10 hl10 hm10 e3 hwr hm2 hm3 e21 e22 e23 e24 e25 e26 e27 e28 hb2 hfz hS8 hS9 hN9 hms
      go_wp2_with fail
      refine HWR.out.mono ?_
      rintro e w11 ⟨rfl, F11, hd11, hc11⟩
      have hA11 := H10.out.1.chg hd11 hc11
      have hX11 := H10.out.2.1.chg hc11
      have hl11 := H10.out.2.2.1.chg hc11
      have hm11 := H10.out.2.2.2.1.chg hc11
      obtain ⟨x1, x2, x3, x4, x5, x6, x7, x8⟩ := H10.out.2.2.2.2
      obtain ⟨hlgl, hmkl, hlg, hmk⟩ := H9.out.2.2.2.2
      have hC2 := d_certain w11 D F11 m3 hA11.disk
      rw [x4] at hC2
      have hL2 := d_log w11 D F11 m3 hA11.disk x1
      rw [x5, hlg] at hL2
      obtain ⟨w12, hw12⟩ : ∃ w12, w11.alloc (bobj lg) = w12 := ⟨_, rfl⟩
      have hA12 := hA11.more (bobj lg)
      have hX12 := hX11.alloc (bobj lg)
      have hl12 := hl11.alloc (bobj lg)
      have hm12 := hm11.alloc (bobj lg)
      have hn12 := bobj_rd (F := NoF) w11 lg lg.length rfl (maxLen_ge (by omega)) (noF _)
      rw [hw12] at hL2 hA12 hX12 hl12 hm12 hn12
      have hM2 := d_marked w12 D F11 m3 hA12.disk x1
      rw [x6, hmk] at hM2
      obtain ⟨w13, hw13⟩ : ∃ w13, w12.alloc (bobj mk) = w13 := ⟨_, rfl⟩
      have hA13 := hA12.more (bobj mk)
      have hX13 := hX12.alloc (bobj mk)
      have hl13 := hl12.alloc (bobj mk)
      have hm13 := hm12.alloc (bobj mk)
      have hn13 := hn12.alloc (bobj mk)
      have hk13 := bobj_rd (F := NoF) w12 mk mk.length rfl (maxLen_ge (by omega)) (noF _)
      rw [hw13] at hM2 hA13 hX13 hl13 hm13 hn13 hk13
      have hone : RdB F11 (w13.alloc (.cells #[.int .u8 1] 5)) (.slice (some ⟨w13.heap.size, 0, none⟩) 1 1) [1] :=
        lit_rd w13 _ _ [1] rfl _ _ _ rfl rfl rfl (by simp [maxLen]) (fun hF => absurd (hA13.lt _ hF) (Nat.lt_irrefl _))
      have hcr := d_crash (w13.alloc (.cells #[.int .u8 1] 5)) D F11 m3 (hA13.more _).disk (by have := H4.out.2.2.2.2.2; omega) _ [1] hone
      obtain ⟨w14, hw14⟩ : ∃ w14, w13.alloc (.cells #[.int .u8 1] 5) = w14 := ⟨_, rfl⟩
      have hA14 := hA13.more (.cells #[.int .u8 1] 5)
      have hX14 := hX13.alloc (.cells #[.int .u8 1] 5)
      have hl14 := hl13.alloc (.cells #[.int .u8 1] 5)
      have hm14 := hm13.alloc (.cells #[.int .u8 1] 5)
      have hn14 := hn13.alloc (.cells #[.int .u8 1] 5)
      have hk14 := hk13.alloc (.cells #[.int .u8 1] 5)
      rw [hw14] at hcr hA14 hX14 hl14 hm14 hn14 hk14
      have hpg : (m3.crash [1]).page 1 = X := by
        rw [crash_page_keep [1] 1 (fun p hp => by
                                            rw [x3] at hp
                                            have hp2 : p = (2, X) := by simpa using hp
                                            rw [hp2]; show (2 : Nat) ≠ 1; decide) (fun p hp => by rw [x8] at hp; cases hp), x2, settled_getD _ _ (by rw [HL.out.live.base]; decide)]
        exact HL.out.page
      have hcb : (m3.crash [1]).base.length = 3 := (crashPages_length _ _).trans (by rw [x2, settled_len]; exact HL.out.live.base)
      have H14 := Lib.hid (And.intro hA14 (And.intro hX14 (And.intro hl14 (And.intro hm14 (And.intro hn14 (And.intro hk14 (And.intro hpg hcb)))))))
      have HC2 := Lib.hid hC2
      have HL2 := Lib.hid hL2
      have HM2 := Lib.hid hM2
      have HCR2 := Lib.hid hcr
      clear hd11 hc11 hA11 hX11 hl11 hm11 x1 x2 x3 x4 x5 x6 x7 x8 hlgl hmkl hlg hmk hC2 hL2 hA12 hX12 hl12 hm12 hn12 hM2 hA13 hX13 hl13 hm13 hn13 hk13 hone hcr hA14 hX14 hl14 hm14 hn14 hk14 hpg hcb hw12 hw13
      go_wp2_with fail
      refine HC2.out.mono ?_
      rintro e W' ⟨rfl, rfl⟩
      go_wp2_with fail
      refine HL2.out.mono ?_
      rintro e W' ⟨rfl, rfl⟩
      go_wp2_with fail
      refine HM2.out.mono ?_
      rintro e W' ⟨rfl, rfl⟩
      go_wp2_with fail
      refine HCR2.out.mono ?_
      rintro e w15 ⟨rfl, F15, hd15, hb15, hF15⟩
      obtain ⟨D15, hD15⟩ : ∃ D15, w14.heap.size + 2 = D15 := ⟨_, rfl⟩
      rw [hD15] at hd15 ⊢
      obtain ⟨hA14, hX14, hl14, hm14, hn14, hk14, hpg, hcb⟩ := H14.out
      have hR3 := d_read w15 D15 F15 _ hd15 rfl 1 (by rw [hcb]; decide)
      rw [hpg] at hR3
      obtain ⟨w16, hw16⟩ : ∃ w16, w15.alloc (bobj X) = w16 := ⟨_, rfl⟩
      have hfin := ((hA14.grow hb15).more (bobj X)).below
      have c1 := str_bytes ((hX14.below hb15).alloc (bobj X))
      have c2 := str_bytes ((hl14.below hb15).alloc (bobj X))
      have c3 := str_bytes ((hm14.below hb15).alloc (bobj X))
      have c4 := str_bytes ((hn14.below hb15).alloc (bobj X))
      have c5 := str_bytes ((hk14.below hb15).alloc (bobj X))
      have c6 := str_bytes (bobj_rd (F := NoF) w15 X X.length rfl (maxLen_ge (by rw [HXY.out]; decide)) (noF _))
      rw [HXY.out] at c6
      rw [hw16] at hR3 hfin c1 c2 c3 c4 c5 c6
      have HFIN := Lib.hid hfin
      clear hd15 hb15 hF15 hA14 hX14 hl14 hm14 hn14 hk14 hpg hcb hw16 hfin hw14 hD15
      go_wp2_with fail
      refine hR3.mono ?_
      rintro e W' ⟨rfl, rfl⟩
      clear hR3
      go_wp2
      go_ret
      exact ⟨rfl, HFIN.out⟩
end Mun
