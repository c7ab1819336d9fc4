/- The walk of DiskFuse. -/
import Derived.Test.YtmlggofojdhmmaaDiskL
import Derived.StillTailTactics
import Derived.Laws.BitsLemmas
set_option maxRecDepth 100000
set_option linter.unusedVariables false
namespace Mun
open Go Go.RowKit
open Go.Proofs

theorem i64_and_low (n : Int) (k : Nat) (hk : k < 63) (c : Int) (hc : c = ((2 ^ k - 1 : Nat) : Int)) (hcb : (BitVec.ofInt 64 c).toNat = 2 ^ k - 1) : bits .and .i64 n c = n % ((2 ^ k : Nat) : Int) := by
  have key : (BitVec.ofInt 64 n &&& BitVec.ofInt 64 c).toNat = (n % ((2 ^ 64 : Nat) : Int)).toNat % 2 ^ k := by
    rw [BitVec.toNat_and, BitVec.toNat_ofInt, hcb, Nat.and_two_pow_sub_one_eq_mod]
  show IntKind.i64.wrap ((BitVec.ofInt 64 n &&& BitVec.ofInt 64 c).toNat : Nat) = _
  rw [key, IntKind.wrap_i64]
  have h2 : (2 : Nat) ^ k < 2 ^ 63 := Nat.pow_lt_pow_right (by decide) hk
  have hpos : 0 < (2 : Nat) ^ k := Nat.two_pow_pos k
  have hm : (n % ((2 ^ 64 : Nat) : Int)).toNat % 2 ^ k < 2 ^ k := Nat.mod_lt _ hpos
  have hd : ((2 ^ k : Nat) : Int) ∣ ((2 ^ 64 : Nat) : Int) := Int.natCast_dvd_natCast.2 (Nat.pow_dvd_pow 2 (by omega))
  have e1 : (((n % ((2 ^ 64 : Nat) : Int)).toNat % 2 ^ k : Nat) : Int) = n % ((2 ^ k : Nat) : Int) := by
    rw [Int.natCast_emod, Int.toNat_of_nonneg (Int.emod_nonneg _ (by decide)), Int.emod_emod_of_dvd _ hd]
  rw [e1]
  have hlo : 0 ≤ n % ((2 ^ k : Nat) : Int) := Int.emod_nonneg _ (by omega)
  have hhi : n % ((2 ^ k : Nat) : Int) < ((2 ^ k : Nat) : Int) := Int.emod_lt_of_pos _ (by omega)
  omega

theorem i64_and15 (n : Int) : ∃ q : Nat, bits .and .i64 n 15 = (q : Int) ∧ q ≤ 15 := by
  refine ⟨(n % 16).toNat, ?_, by omega⟩
  rw [i64_and_low n 4 (by decide) 15 (by decide) (by decide)]
  omega

set_option maxHeartbeats 2000000 in
theorem fuse_ok (W : World) (v : Value) (l : List Deed) (n : Int) (hl : DeedsAt NoF W v l) (hlen : l.length ≤ 3518437208882) (h1 : -9223372036854775808 ≤ n) (h2 : n ≤ 9223372036854775807) :
    Calls Try.prog 6 #[v, .int .i64 n] W fun e W' => e = .returned (.bool true) ∧ Below W.heap.size W W' := by
  obtain ⟨q, hq, hq15⟩ := i64_and15 n
  obtain ⟨a, c, hv, hlc, hcm⟩ := hl.row.form
  subst hv
  have HDL := Lib.hid hl
  have HLN := Lib.hid hlen
  clear hl hlen
  go_enter Try.func6, Try.ntmps6
  go_wp2_with fail
  refine (awake6 W).mono ?_
  rintro e w1 ⟨rfl, hb1⟩
  have HB1 := Lib.hid hb1
  clear hb1
  go_wp2_with fail
  refine (d_new w1 5 200 (by decide) (by decide) (by decide)).mono ?_
  rintro e w2 ⟨rfl, hw2⟩
  have hA2 : LawAt W w2 (w1.heap.size + 2) NoF (newFoot w1) (DM.new 5 200) := by rw [← hw2]; exact LawAt.new HB1.out 5 200 (fun _ h => False.elim h) (by decide) (by decide)
  have HA2 := Lib.hid hA2
  clear hA2 hw2
  obtain ⟨D, hD⟩ : ∃ D, w1.heap.size + 2 = D := ⟨_, rfl⟩
  rw [hD] at HA2 ⊢
  clear hD
  go_wp2_with fail
  refine (d_fuse w2 D _ _ HA2.out.disk q (by omega) (by omega)).mono ?_
  rintro e w3 ⟨rfl, hd3, hc3⟩
  have hA3 := HA2.out.chg hd3 hc3
  have hm3 : ((DM.new 5 200).setFuse q).fuse = q ∧ ((DM.new 5 200).setFuse q).ops = 0 ∧ ((DM.new 5 200).setFuse q).dead = false := ⟨by show max (-1) (q : Int) = q; omega, rfl, rfl⟩
  obtain ⟨m3, hm3'⟩ : ∃ m, (DM.new 5 200).setFuse q = m := ⟨_, rfl⟩
  rw [hm3'] at hA3 hm3
  obtain ⟨f3, o3, dd3⟩ := hm3
  have HA3 := Lib.hid (And.intro hA3 (And.intro f3 (And.intro o3 dd3)))
  clear hA3 hd3 hc3 f3 o3 dd3 hm3'
  go_wp2
  go_loopw [8, 9] (fun dn i wr => ∃ (j : Nat) (F : Foot) (m : DM), j ≤ l.length ∧ i = .int .i64 (j : Int) ∧ dn = .int .i64 (m.ops : Int) ∧ m.ops ≤ j ∧ LawAt W wr D NoF F m ∧ 0 ≤ m.fuse ∧ m.fuse + (m.ops : Int) = (q : Int) ∧ (m.dead = true → m.fuse = 0)) (fun _ i _ => l.length - (intOf i).toNat)
  case atStart =>
    obtain ⟨hA, f, o, dd⟩ := HA3.out
    exact ⟨0, _, m3, by omega, rfl, by rw [o]; rfl, by omega, hA, by omega, by rw [f, o]; omega, by rw [dd]; intro h; cases h⟩
  case round =>
    obtain ⟨j, F, m, hj, rfl, rfl, hoj, hA, hf0, hfo, hdf⟩ := hrel
    rcases Nat.lt_or_eq_of_le hj with hlt | heq
    · obtain ⟨g, off, c', hva, hlc', hcm', k0, k1, k2⟩ := (hA.deeds HDL.out).at_ j hlt
      injection hva with e1 e2 e3
      subst e1 e3
      clear e2
      have hgn : (j : Int) < (l.length : Int) := by omega
      have hj0 : (0 : Int) ≤ (j : Int) := by omega
      obtain ⟨x, hx⟩ : ∃ x, l[j] = x := ⟨_, rfl⟩
      have hxm : x ∈ l := by rw [← hx]; exact List.getElem_mem hlt
      rw [hx] at k0 k1 k2
      have hxr := (hA.deeds HDL.out).rd x hxm
      obtain ⟨xa, xn, xc, hxv, HXN, _, _⟩ := hxr.formN
      rw [hxv] at k2 hxr
      have HA := Lib.hid (And.intro hA (And.intro hxr (And.intro hf0 (And.intro hfo (And.intro hdf (And.intro hoj hlt))))))
      clear hA hxr hf0 hfo hdf hoj hlt hlc' hcm' hlc hcm hxm hx hxv hj
      have hb63 : (l.length : Int) ≤ 3518437208882 := by have := HLN.out; omega
      by_cases hlo : x.op < 0
      · go_wp2
        go_roundw
        case rel =>
          obtain ⟨hA, hxr, hf0, hfo, hdf, hoj, hlt⟩ := HA.out
          exact ⟨j + 1, F, m, by omega, by go_num, rfl, by omega, hA, hf0, hfo, hdf⟩
        case measure => have := HA.out.2.2.2.2.2.2; simp [intOf]; omega
      · by_cases hhi : x.op > 6
        · go_wp2
          go_roundw
          case rel =>
            obtain ⟨hA, hxr, hf0, hfo, hdf, hoj, hlt⟩ := HA.out
            exact ⟨j + 1, F, m, by omega, by go_num, rfl, by omega, hA, hf0, hfo, hdf⟩
          case measure => have := HA.out.2.2.2.2.2.2; simp [intOf]; omega
        · go_wp2
          go_still_tail 16, (by kernel_rfl)
          change wpList _ _ _ _ _ wr.drew
          have hAd : LawAt W wr.drew D NoF F m := HA.out.1.drewN 1
          have hxd : RdB F wr.drew (.slice xa xn xc) x.b := HA.out.2.1.drewN 1
          obtain ⟨wd, hwd⟩ : ∃ wd, wr.drew = wd := ⟨_, rfl⟩
          rw [hwd] at hAd hxd ⊢
          have hask := ask_any wd D F m hAd.disk (by have := HA.out.2.2.2.2.2.1; have := HLN.out; have := HA.out.2.2.2.2.2.2; omega) x.op x.n _ x.b hxd
          have HAd := Lib.hid hAd
          clear hAd hxd hwd
          go_wp2_with fail
          refine hask.mono ?_
          rintro e w5 ⟨rfl, F', hd5, hc5⟩
          have hA5 := HAd.out.chg hd5 hc5
          have hops := d_ops w5 D F' _ hd5
          have hdead := d_dead w5 D F' _ hd5
          obtain ⟨_, _, hf0, hfo, hdf, hoj, hlt⟩ := HA.out
          have hcases := ask_cases m x.op x.n x.b
          obtain ⟨r, hr⟩ : ∃ r, m.ask x.op x.n x.b = r := ⟨_, rfl⟩
          rw [hr] at hcases hA5 hops hdead ⊢
          have HA5 := Lib.hid hA5
          have hoq : (m.ops : Int) ≤ q := by omega
          clear hA5 hd5 hc5 hask hr
          rcases hcases with ⟨hd, hr⟩ | ⟨hd, hr⟩ | ⟨hd, hf, hr, hd', ho', hf'⟩ | ⟨hd, hf, hr, hd', ho', hf'⟩
          · subst hr
            have hfz := hdf hd
            have hoe : Hid ((m.ops : Int) = q ∧ m.fuse = 0) := by show _ ∧ _; exact ⟨by omega, hfz⟩
            have ht : ((m.ops : Int) != (q : Int)) = false := by simp; omega
            simp only [hd] at hdead
            have HX := Lib.hid (And.intro hf0 (And.intro hfo (And.intro hdf (And.intro hoj hlt))))
            clear hf0 hfo hdf hoj hlt hfz hd
            go_wp2_with (first
              | (go_at_call 26; refine hops.mono ?_; rintro e w6 ⟨rfl, rfl⟩)
              | (go_at_call 20; refine hdead.mono ?_; rintro e w6 ⟨rfl, rfl⟩))
            go_roundw
            case rel =>
              obtain ⟨hf0, hfo, hdf, hoj, hlt⟩ := HX.out
              exact ⟨j + 1, F', m, by omega, by go_num, rfl, by omega, HA5.out, hf0, hfo, hdf⟩
            case measure => have := HX.out.2.2.2.2; simp [intOf]; omega
          · have hr2 : r.1 = m ∧ (r.2 = 1 ∨ r.2 = 7) := by rcases hr with h | h <;> (subst h; simp)
            obtain ⟨r1, r2⟩ := r
            obtain ⟨hr1, hr2⟩ := hr2
            simp only at hr1 hr2
            subst hr1
            clear hr
            simp only [hd] at hdead
            have HX := Lib.hid (And.intro hf0 (And.intro hfo (And.intro hdf (And.intro hoj hlt))))
            clear hf0 hfo hdf hoj hlt hd
            rcases hr2 with h | h
            · subst h
              go_wp2_with (first
                | (go_at_call 26; refine hops.mono ?_; rintro e w6 ⟨rfl, rfl⟩)
                | (go_at_call 20; refine hdead.mono ?_; rintro e w6 ⟨rfl, rfl⟩))
              go_roundw
              case rel =>
                obtain ⟨hf0, hfo, hdf, hoj, hlt⟩ := HX.out
                exact ⟨j + 1, F', r1, by omega, by go_num, rfl, by omega, HA5.out, hf0, hfo, hdf⟩
              case measure => have := HX.out.2.2.2.2; simp [intOf]; omega
            · subst h
              go_wp2_with (first
                | (go_at_call 26; refine hops.mono ?_; rintro e w6 ⟨rfl, rfl⟩)
                | (go_at_call 20; refine hdead.mono ?_; rintro e w6 ⟨rfl, rfl⟩))
              go_roundw
              case rel =>
                obtain ⟨hf0, hfo, hdf, hoj, hlt⟩ := HX.out
                exact ⟨j + 1, F', r1, by omega, by go_num, rfl, by omega, HA5.out, hf0, hfo, hdf⟩
              case measure => have := HX.out.2.2.2.2; simp [intOf]; omega
          · obtain ⟨r1, r2⟩ := r
            simp only at hr hd' ho' hf'
            subst hr
            have ht : ((m.ops : Int) != (q : Int)) = false := by simp; omega
            simp only [hd', ho'] at hdead hops
            have HX := Lib.hid (And.intro hf0 (And.intro hfo (And.intro hdf (And.intro hoj hlt))))
            have HY := Lib.hid (And.intro hf (And.intro hd' (And.intro ho' hf')))
            clear hf0 hfo hdf hoj hlt hd hf hd' ho' hf'
            go_wp2_with (first
              | (go_at_call 26; refine hops.mono ?_; rintro e w6 ⟨rfl, rfl⟩)
              | (go_at_call 20; refine hdead.mono ?_; rintro e w6 ⟨rfl, rfl⟩))
            go_roundw
            case rel =>
              obtain ⟨hf0, hfo, hdf, hoj, hlt⟩ := HX.out
              exact ⟨j + 1, F', r1, by omega, by go_num, by rw [HY.out.2.2.1], by rw [HY.out.2.2.1]; omega, HA5.out, by rw [HY.out.2.2.2]; exact hf0, by rw [HY.out.2.2.2, HY.out.2.2.1]; exact hfo, fun _ => by rw [HY.out.2.2.2]; exact HY.out.1⟩
            case measure => have := HX.out.2.2.2.2; simp [intOf]; omega
          · obtain ⟨r1, r2⟩ := r
            simp only at hr hd' ho' hf'
            subst hr
            simp only [hd', ho'] at hdead hops
            rw [show ((m.ops + 1 : Nat) : Int) = (m.ops : Int) + 1 by omega] at hops
            have hoq2 : (m.ops : Int) + 1 ≤ q := by omega
            have hf2 : r1.fuse = m.fuse - 1 := by rw [hf', if_pos (by omega)]
            have HX := Lib.hid (And.intro hf0 (And.intro hfo (And.intro hdf (And.intro hoj hlt))))
            have HY := Lib.hid (And.intro hf (And.intro hd' (And.intro ho' hf2)))
            clear hf0 hfo hdf hoj hlt hd hf hd' ho' hf' hf2 hoq
            go_wp2_with (first
              | (go_at_call 26; refine hops.mono ?_; rintro e w6 ⟨rfl, rfl⟩)
              | (go_at_call 20; refine hdead.mono ?_; rintro e w6 ⟨rfl, rfl⟩))
            go_roundw
            case rel =>
              obtain ⟨hf0, hfo, hdf, hoj, hlt⟩ := HX.out
              exact ⟨j + 1, F', r1, by omega, by go_num, by rw [HY.out.2.2.1]; go_num, by rw [HY.out.2.2.1]; omega, HA5.out, by rw [HY.out.2.2.2]; have := HY.out.1; omega, by rw [HY.out.2.2.2, HY.out.2.2.1]; omega, fun h => by rw [HY.out.2.1] at h; cases h⟩
            case measure => have := HX.out.2.2.2.2; simp [intOf]; omega
    · have hge := Nat.le_of_eq heq.symm
      have HX := Lib.hid (And.intro heq (And.intro hf0 (And.intro hfo (And.intro hdf hoj))))
      have hdead := d_dead wr D F m hA.disk
      have hoq : (m.ops : Int) ≤ q := by omega
      have ho42 : m.ops < 4398046511104 := by have := HLN.out; omega
      have HO42 := Lib.hid ho42
      have HA := Lib.hid hA
      clear heq hf0 hfo hdf hoj ho42 hA
      cases hd : m.dead with
      | false =>
        rw [hd] at hdead
        go_wp2_with (go_at_call 20; refine hdead.mono ?_; rintro e w6 ⟨rfl, rfl⟩)
        go_ret
        exact ⟨rfl, HA.out.below⟩
      | true =>
        rw [hd] at hdead
        go_wp2_with (go_at_call 20; refine hdead.mono ?_; rintro e w6 ⟨rfl, rfl⟩)
        refine (d_fuse wr D F m HA.out.disk (-1) (by decide) (by decide)).mono ?_
        rintro e w1 ⟨rfl, hd1, hc1⟩
        have hA1 := HA.out.chg hd1 hc1
        have hm1 : (m.setFuse (-1)).dead = true ∧ (m.setFuse (-1)).ops = m.ops := ⟨hd, rfl⟩
        obtain ⟨m1, hm1'⟩ : ∃ m1, m.setFuse (-1) = m1 := ⟨_, rfl⟩
        rw [hm1'] at hA1 hm1
        obtain ⟨hdd, hoo⟩ := hm1
        have HA1 := Lib.hid hA1
        have HO1 : Hid (m1.ops < 4398046511104) := by show _ < _; rw [hoo]; exact HO42.out
        have hops1 : ∀ w F, DiskAt w D NoF F m1 → Calls Try.prog 26 #[.pointer (some ⟨D, 0, none⟩)] w fun e w' => e = .returned (.int .i64 m.ops) ∧ w = w' := by
          intro w F h
          rw [← hoo]
          exact d_ops w D F m1 h
        have HOP := Lib.hid hops1
        have HDD := Lib.hid hdd
        clear hops1 hdd hoo hm1' hd1 hc1 hA1 hd
        go_wp2_with fail
        refine (d_read_dead w1 D _ m1 HA1.out.disk HDD.out 0).mono ?_
        rintro e w2' ⟨rfl, rfl⟩
        go_wp2_with fail
        refine (d_log_no w1 D _ m1 HA1.out.disk HDD.out).mono ?_
        rintro e w2' ⟨rfl, rfl⟩
        go_wp2_with fail
        refine (d_marked_no w1 D _ m1 HA1.out.disk HDD.out).mono ?_
        rintro e w2' ⟨rfl, rfl⟩
        have hdead1 := d_dead w1 D _ m1 HA1.out.disk
        rw [HDD.out] at hdead1
        go_wp2_with fail
        refine hdead1.mono ?_
        rintro e w2' ⟨rfl, rfl⟩
        clear hdead1 hdead
        go_wp2_with fail
        refine (ones_any w1).mono ?_
        rintro e w4 ⟨rfl, hw4⟩
        have hA4 : LawAt W w4 D NoF F m1 := by rw [← hw4]; exact HA1.out.more _
        have hr4 : RdB F w4 (.slice (some ⟨w1.heap.size, 0, none⟩) 512 512) onesL := by
          rw [← hw4]
          exact bobj_rd w1 onesL 512 rfl (by decide) (fun hk => absurd (HA1.out.lt _ hk) (Nat.lt_irrefl _))
        have HA4 := Lib.hid hA4
        have HR4 := Lib.hid hr4
        clear hA4 hr4 hw4
        go_wp2_with fail
        refine (d_write w4 D F m1 HA4.out.disk HO1.out 0 _ onesL HR4.out).mono ?_
        rw [show m1.write 0 onesL = (m1, 9) by unfold DM.write; rw [if_pos HDD.out]]
        rintro e w5 ⟨rfl, F5, hd5, hc5⟩
        have HA5 := Lib.hid (HA4.out.chg hd5 hc5)
        clear hd5 hc5
        go_wp2_with fail
        refine (d_sync w5 D F5 m1 HA5.out.disk HO1.out).mono ?_
        rw [show m1.sync = (m1, 9) by unfold DM.sync; rw [if_pos HDD.out]]
        rintro e w6 ⟨rfl, F6, hd6, hc6⟩
        have HA6 := Lib.hid (HA5.out.chg hd6 hc6)
        clear hd6 hc6
        go_wp2_with fail
        refine (d_append w6 D F6 m1 HA6.out.disk HO1.out _ [] (RdB.nil _ _)).mono ?_
        rw [show m1.append [] = (m1, 9) by unfold DM.append; rw [if_pos HDD.out]]
        rintro e w7 ⟨rfl, F7, hd7, hc7⟩
        have HA7 := Lib.hid (HA6.out.chg hd7 hc7)
        clear hd7 hc7
        go_wp2_with fail
        refine (d_force w7 D F7 m1 HA7.out.disk HO1.out).mono ?_
        rw [show m1.force = (m1, 9) by unfold DM.force; rw [if_pos HDD.out]]
        rintro e w8 ⟨rfl, F8, hd8, hc8⟩
        have HA8 := Lib.hid (HA7.out.chg hd8 hc8)
        clear hd8 hc8
        go_wp2_with fail
        refine (d_cut w8 D F8 m1 HA8.out.disk HO1.out 0 _ [] (RdB.nil _ _)).mono ?_
        rw [show m1.cut 0 [] = (m1, 9) by unfold DM.cut; rw [if_pos HDD.out]]
        rintro e w9 ⟨rfl, F9, hd9, hc9⟩
        have HA9 := Lib.hid (HA8.out.chg hd9 hc9)
        clear hd9 hc9
        go_wp2_with fail
        refine (d_trim w9 D F9 m1 HA9.out.disk HO1.out 0).mono ?_
        rw [show m1.trim 0 = (m1, 9) by unfold DM.trim; rw [if_pos HDD.out]]
        rintro e w10 ⟨rfl, F10, hd10, hc10⟩
        have HA10 := Lib.hid (HA9.out.chg hd10 hc10)
        clear hd10 hc10
        go_wp2_with fail
        refine (d_mark w10 D F10 m1 HA10.out.disk HO1.out _ [] (RdB.nil _ _)).mono ?_
        rw [show m1.setMark [] = (m1, 9) by unfold DM.setMark; rw [if_pos HDD.out]]
        rintro e w11 ⟨rfl, F11, hd11, hc11⟩
        have HA11 := Lib.hid (HA10.out.chg hd11 hc11)
        clear hd11 hc11
        go_wp2_with fail
        refine (HOP.out w11 F11 HA11.out.disk).mono ?_
        rintro e w12 ⟨rfl, rfl⟩
        go_wp2
        go_ret
        exact ⟨rfl, HA11.out.below⟩
end Mun
