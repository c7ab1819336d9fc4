/- The law PageSeals: the walk. -/
import Derived.Test.YtndeebchiodimaaPageAw
import Derived.Test.YtndeebchiodimaaP10
import Derived.Test.YtndeebchiodimaaP11
import Derived.Test.YtndeebchiodimaaP12
import Derived.Test.YtndeebchiodimaaBits
set_option maxRecDepth 100000
set_option linter.unusedVariables false
set_option linter.unusedSimpArgs false
namespace Mun
open Go Go.RowKit
open Go.Proofs

set_option maxHeartbeats 2000000 in
theorem seals_ok (W : World) (v : Value) (p : List UInt8) (l : Nat) (bit : Int) (hv : RdB NoF W v p) (hl : l < 18446744073709551616) :
    Calls Try.prog 5 #[v, .int .u64 l, .int .i64 bit] W fun e W' => e = .returned (.bool true) ∧ Below W.heap.size W W' := by
  have haw := awake5 W
  have HAW := Lib.hid haw
  have HV := Lib.hid hv
  by_cases hg : GoodP p
  · have hp := hg.len
    obtain ⟨g0, off, c, rfl, hlc, hcm, hF, hglt, hcells⟩ := hv.at_ (by omega)
    have c12 := hcells 12 (by omega)
    have hz := gt1 p 12 (by omega)
    rw [← hz] at c12
    have hzb : gt p 12 1 < 256 := gt_lt p 12 1
    obtain ⟨z, hzz⟩ : ∃ z, gt p 12 1 = z := ⟨_, rfl⟩
    rw [hzz] at c12 hzb
    have hq := seal_same hp l
    have hq1 := gt_seal_lsn hp l hl
    have hq2 : gt (sealP p l) 12 1 = z := (gt_seal hp l 12 1 (by omega)).trans hzz
    have hq3 := check_seal hg l
    obtain ⟨k, hk, hkb⟩ := and_4095 bit
    have hfl := check_flip hg l k hkb
    obtain ⟨q, hqq⟩ : ∃ q, sealP p l = q := ⟨_, rfl⟩
    rw [hqq] at hq hq1 hq2 hq3 hfl
    have HQ := Lib.hid (And.intro (hq.good hg) (And.intro hq1 (And.intro hq2 (And.intro hq3 hfl))))
    have HQQ := Lib.hid hqq
    have HG := Lib.hid hg
    rw [hp] at hv HV ⊢
    have HC12 := Lib.hid (And.intro c12 hglt)
    clear haw hv hcells hz hzz hq hq1 hq2 hq3 hfl hqq c12 hg hp hF hlc hl
    go_enter Try.func5, Try.ntmps5
    go_wp2_with fail
    refine HAW.out.mono ?_
    rintro e w1 ⟨rfl, hb1⟩
    have hs := seal_yes w1 _ p l (RdB.below HV.out hb1) HG.out
    rw [HQQ.out] at hs
    have HB1 := Lib.hid hb1
    have HS := Lib.hid hs
    clear hb1 hs
    go_wp2_with fail
    refine HS.out.mono ?_
    rintro e w2 ⟨g, rfl, hpg, hgs, hb2⟩
    have hh := head_yes (F := NoF) w2 _ q (hpg.rd (noF _)) HQ.out.1
    rw [HQ.out.2.1, HQ.out.2.2.1] at hh
    have HP2 := Lib.hid (And.intro hpg (And.intro hgs hb2))
    have HH := Lib.hid hh
    clear hpg hgs hb2 hh
    go_wp2_with fail
    refine HH.out.mono ?_
    rintro e w3 ⟨rfl, hb3⟩
    have hpg3 := HP2.out.1.below hb3
    have hc := check_any (F := NoF) w3 _ q (hpg3.rd (noF _))
    rw [HQ.out.2.2.2.1] at hc
    have HP3 := Lib.hid (And.intro hpg3 hb3)
    have HC := Lib.hid hc
    clear hpg3 hb3 hc
    go_wp2_with fail
    refine HC.out.mono ?_
    rintro e w4 ⟨rfl, hb4⟩
    have hB4 : Below W.heap.size W w4 := (HB1.out.trans (HP2.out.2.2.mono HB1.out.size)).trans ((HP3.out.2.trans (hb4.mono HP3.out.2.size)).mono (by have := HB1.out.size; have := HP2.out.2.2.size; omega))
    have hc12 := (hB4.cell (p := ⟨g0, off + 12, none⟩) HC12.out.2).trans HC12.out.1
    have hpg4 := HP3.out.1.below hb4
    have hkl : k / 8 < q.length := by rw [hpg4.2]; omega
    obtain ⟨b0, hb0⟩ : ∃ b0, q[k / 8] = b0 := ⟨_, rfl⟩
    have hck : w4.cell? ⟨g, k / 8, none⟩ = some (.int .u8 (b0.toNat : Int)) := by
      rw [cell_of_row w4 g (k / 8) _ _ _ hpg4.1]
      simp [bv, hkl, hb0]
    have hfk : w4.frozen? ⟨g, k / 8, none⟩ = false := by have h1 := hpg4.1; simp only [World.frozen?, h1, bobj]; simp
    have HX := Lib.hid (xor_pow8 b0 (k % 8) (by omega))
    have hbb : (b0.toNat : Int) < 256 := by have := b0.toNat_lt; omega
    have hset := hpg4.set (k / 8) (b0 ^^^ UInt8.ofNat (2 ^ (k % 8))) (bits .xor .u8 (b0.toNat : Int) (2 ^ (k % 8) % 256)) HX.out
    have hfb : q.set (k / 8) (b0 ^^^ UInt8.ofNat (2 ^ (k % 8))) = flipBit q k := by
      unfold flipBit
      rw [List.getD_eq_getElem?_getD, List.getElem?_eq_getElem hkl, Option.getD_some, hb0]
    rw [hfb] at hset
    have HSET := Lib.hid hset
    have HB4 := Lib.hid hB4
    have hgW : W.heap.size ≤ g := by have := HP2.out.2.1; have := HB1.out.size; omega
    clear hb4 hB4 hpg4 hkl hb0 hset hfb
    have hck2 := HQ.out.2.2.2.2
    obtain ⟨ck, hckk⟩ : ∃ ck, checkP (flipBit q k) = ck := ⟨_, rfl⟩
    rw [hckk] at hck2
    have HCK := Lib.hid hckk
    have tck : (ck != 0) = true := by simpa using hck2
    have HBF : Hid (Below W.heap.size W (w4.setCell ⟨g, k / 8, none⟩ (.int .u8 (bits .xor .u8 (b0.toNat : Int) (2 ^ (k % 8) % 256))))) := HB4.out.setCell hgW _
    clear hckk hck2
    go_wp2_with fail
    refine (check_any (F := NoF) _ _ (flipBit q k) (HSET.out.rd (noF _))).mono ?_
    rw [HCK.out]
    rintro e w5 ⟨rfl, hb5⟩
    have HB5 := Lib.hid (HBF.out.trans (hb5.mono HBF.out.size))
    clear hb5 hck hfk
    go_wp2
    go_ret
    exact ⟨rfl, HB5.out⟩
  · have hs := fun w1 (hb : Below W.heap.size W w1) => seal_no w1 v p (l : Int) (RdB.below hv hb) hg
    have hgo := fun w1 (hb : Below W.heap.size W w1) => good_any w1 v p (RdB.below hv hb)
    rw [goodB_false hg] at hgo
    have HS := Lib.hid hs
    have HGO := Lib.hid hgo
    obtain ⟨a, n, c, rfl, HN, -, -⟩ := hv.formN
    clear haw hv hs hgo hg HN
    go_enter Try.func5, Try.ntmps5
    go_wp2_with fail
    refine HAW.out.mono ?_
    rintro e w1 ⟨rfl, hb1⟩
    have HB1 := Lib.hid hb1
    clear hb1
    go_wp2_with fail
    refine (HS.out w1 HB1.out).mono ?_
    rintro e w2 ⟨rfl, hb2⟩
    have HB2 := Lib.hid (HB1.out.trans (hb2.mono HB1.out.size))
    clear hb2
    go_wp2_with fail
    refine (HGO.out w2 HB2.out).mono ?_
    rintro e w3 ⟨rfl, hb3⟩
    have HB3 := Lib.hid (HB2.out.trans (hb3.mono HB2.out.size))
    clear hb3
    go_wp2
    go_ret
    exact ⟨rfl, HB3.out⟩
end Mun
