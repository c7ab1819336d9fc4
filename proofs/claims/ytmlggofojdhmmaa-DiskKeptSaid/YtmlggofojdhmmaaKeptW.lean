/- The walk of DiskKept. -/
import Derived.Test.YtmlggofojdhmmaaCertP
import Derived.Test.YtmlggofojdhmmaaDiskX
import Derived.Test.YtmlggofojdhmmaaZeros
set_option maxRecDepth 1000000
set_option linter.unusedVariables false
namespace Mun
open Go Go.RowKit
open Go.Proofs

theorem xor255 (z : UInt8) : bits .xor .u8 (z.toNat : Int) 255 = ((UInt8.ofNat (255 - z.toNat)).toNat : Int) := by
  have h : ∀ n < 256, bits .xor .u8 ((n : Nat) : Int) 255 = ((255 - n : Nat) : Int) := by decide +kernel
  have := z.toNat_lt
  rw [h z.toNat z.toNat_lt, UInt8.toNat_ofNat']
  omega
theorem xor1 (z : UInt8) : ∃ y : UInt8, bits .xor .u8 (z.toNat : Int) 1 = (y.toNat : Int) := by
  have h : ∀ n < 256, bits .xor .u8 ((n : Nat) : Int) 1 = (((n / 2 * 2 + (1 - n % 2)) : Nat) : Int) := by decide +kernel
  have := z.toNat_lt
  refine ⟨UInt8.ofNat (z.toNat / 2 * 2 + (1 - z.toNat % 2)), ?_⟩
  rw [h z.toNat z.toNat_lt, UInt8.toNat_ofNat']
  omega

theorem chg_grown {F : Foot} {w w' : World} {o : Obj} {row : Option Nat} (h : (w.alloc o).grownBy w' row) (hrow : ∀ k, row = some k → F k) : Chg F F w w' := by
  obtain ⟨h1, h2, h3, h4, h5⟩ := h
  refine ⟨h1, h2, h3, by rw [World.size_alloc] at h4; omega, fun k hk hn => ?_, fun k hk => .inl hk⟩
  rw [h5 k (by rw [World.size_alloc]; omega) (fun e => hn (hrow k e.symm))]
  exact alloc_get w o k hk

def keptM (X : Bytes) : DM := { DM.new 2 4096 with ops := 3, waiting := [(0, X)], log := X, mark := X.take 9 }

set_option maxHeartbeats 4000000 in
theorem kept_ok (W : World) (bv : Value) (b : Bytes) (hb : RdB NoF W bv b) (hbl : b.length ≤ 140737488351232) :
    Calls Try.prog 4 #[bv] W fun e W' => e = .returned (.bool true) ∧ Below W.heap.size W W' := by
  obtain ⟨ba, bn, bc, rfl, HBN, hbc, hbcm⟩ := hb.formN
  have HB := Lib.hid (And.intro hb hbl)
  clear hb hbl hbc hbcm
  go_enter Try.func4, Try.ntmps4
  go_wp2_with fail
  refine (awake6 W).mono ?_
  rintro e w1 ⟨rfl, hb1⟩
  have HB1 := Lib.hid hb1
  clear hb1
  go_wp2_with fail
  refine (d_new w1 2 4096 (by decide) (by decide) (by decide)).mono ?_
  rintro e w2 ⟨rfl, hw2⟩
  have hA2 : LawAt W w2 (w1.heap.size + 2) NoF (newFoot w1) (DM.new 2 4096) := by rw [← hw2]; exact LawAt.new HB1.out 2 4096 (fun _ h => False.elim h) (by decide) (by decide)
  obtain ⟨F2, hF2⟩ : ∃ F2, newFoot w1 = F2 := ⟨_, rfl⟩
  obtain ⟨D, hD⟩ : ∃ D, w1.heap.size + 2 = D := ⟨_, rfl⟩
  rw [hF2, hD] at hA2
  rw [hD]
  have hbw2 : RdB NoF w2 (.slice ba bn bc) b := RdV.keep HB.out.1 (fun k hk _ => hA2.below.block k hk) (fun _ _ h => h)
  obtain ⟨g1, cap1, w3, g2, cap2, w4, hr3, hr4, ho4, hb4, hg4, hcap4⟩ := padded (ty := 28) (ty2 := 28) hbw2 513 (by decide) (by have := HB.out.2; omega)
  rw [← HBN.out] at hr3 hr4 ho4 hcap4
  have hbni : (bn : Int) ≤ 140737488351232 := by have := HB.out.2; have := HBN.out; omega
  have hlen4 : (b ++ List.replicate 513 (0 : UInt8)).length = bn + 513 := by rw [List.length_append, List.length_replicate, ← HBN.out]
  have hsl4 := slice_to (some ⟨g2, 0, none⟩) (bn + 513) cap2 512 512 rfl (by omega) (.inr ⟨_, _, rfl⟩)
  have hx4 : RdB F2 w4 (.slice (some ⟨g2, 0, none⟩) 512 cap2) ((b ++ List.replicate 513 0).take 512) := by
    obtain ⟨xa, xc, hsl, hx⟩ := slice_bytes_to (OwnB.rd (F := F2) ho4 (fun k hk hF => by have := hA2.lt k hF; omega)) 512 (by omega)
    have h1 := hsl w4
    rw [show (((512 : Nat)) : Int) = 512 from rfl, hsl4 w4] at h1
    injection h1 with h1 _
    injection h1 with h1 h2 h3
    rw [h1, h3]
    exact hx
  have hXl : ((b ++ List.replicate 513 (0 : UInt8)).take 512).length = 512 := by rw [List.length_take, hlen4]; omega
  have hsl9 := slice_to (some ⟨g2, 0, none⟩) 512 cap2 9 9 rfl (by omega) (.inr ⟨_, _, rfl⟩)
  obtain ⟨X, hX⟩ : ∃ X, (b ++ List.replicate 513 (0 : UInt8)).take 512 = X := ⟨_, rfl⟩
  rw [hX] at hx4 hXl
  have hg2 : g2 < w4.heap.size := (ho4.lt g2 rfl).2
  have hA4 : LawAt W w4 D (fun k => k = g2) F2 (DM.new 2 4096) := hA2.growE hb4 (fun k hk => .inr (by subst hk; exact ⟨hg4, hg2⟩))
  obtain ⟨g5, cap5, w5, hr5, ho5, hb5, hg5⟩ := append_empty_bytes (ty := 28) hx4 (by omega)
  rw [hXl] at hr5 ho5
  have hA5 : LawAt W w5 D (fun k => k = g2) F2 (DM.new 2 4096) := hA4.grow hb5
  have hx5 : RdB F2 w5 (.slice (some ⟨g2, 0, none⟩) 512 cap2) X := hx4.below hb5
  have hy5 : RdB (fun k => F2 k ∨ k = g2) w5 (.slice (some ⟨g5, 0, none⟩) 512 cap5) X := OwnB.rd ho5 (fun k hk hF => by
    rcases hF with hF | hF
    · have := hA4.lt k hF; omega
    · omega)
  have hox5 : OwnB w5 w2.heap.size 5 (.slice (some ⟨g2, 0, none⟩) (bn + 513) cap2) (b ++ List.replicate 513 0) := ho4.below (hb5.mono (Nat.le_refl _))
  have HR3 := Lib.hid hr3
  have HR4 := Lib.hid hr4
  have HR5 := Lib.hid hr5
  have H5 := Lib.hid (And.intro hA5 (And.intro hx5 (And.intro hy5 (And.intro hox5 (And.intro hXl (And.intro hlen4 (hA2.below.size)))))))
  have hcapi : (512 : Int) ≤ (cap2 : Int) := by omega
  have HWG : Hid (w2.heap.size ≤ g2) := hg4
  clear hA2 hA4 ho4 hb4 hg4 hr3 hr4 hbw2 hw2 hF2 hD hcap4 hx4 hX hXl hlen4 hg2 hr5 ho5 hb5 hg5 hA5 hx5 hy5 hox5
  go_wp2_with (first
    | (at_builtin; refine Lib.wpList_append_run _ rfl _ _ _ _ rfl _ _ rfl rfl _ _ HR3.out ?_; clear HR3)
    | (at_builtin; refine Lib.wpList_append_run _ rfl _ _ _ _ rfl _ _ rfl rfl _ _ HR4.out ?_; clear HR4)
    | (at_builtin; refine Lib.wpList_append_run _ rfl _ _ _ _ rfl _ _ rfl rfl _ _ HR5.out ?_; clear HR5))
  have hwr := d_write w5 D F2 (DM.new 2 4096) H5.out.1.disk (by decide) ((0 : Nat) : Int) _ X H5.out.2.1
  rw [write_nf rfl rfl 0 (by simp [DM.new]) X H5.out.2.2.2.2.1] at hwr
  rw [show ((0 : Nat) : Int) = (0 : Int) from rfl] at hwr
  refine hwr.mono ?_
  rintro e w6 ⟨rfl, F6, hd6, hc6⟩
  have hA6 := H5.out.1.chg hd6 hc6
  have hx6 := H5.out.2.1.chg hc6
  have hy6 := rdU_F H5.out.2.2.1 hc6
  have ho6 := H5.out.2.2.2.1.chg hc6 (fun k hk hF => by injection hk with hk; exact H5.out.1.disk.apart k hk.symm hF)
  have H6 := Lib.hid (And.intro hA6 (And.intro hx6 (And.intro hy6 ho6)))
  clear hwr hd6 hc6 hA6 hx6 hy6 ho6
  go_wp2_with fail
  have hap := d_append w6 D F6 _ H6.out.1.disk (by simp [DM.new]) _ X H6.out.2.1
  rw [append_nf rfl rfl X (by have := H5.out.2.2.2.2.1; simp [DM.new]; omega)] at hap
  refine hap.mono ?_
  rintro e w7 ⟨rfl, F7, hd7, hc7⟩
  have hA7 := H6.out.1.chg hd7 hc7
  have hx7 := H6.out.2.1.chg hc7
  have hy7 := rdU_F H6.out.2.2.1 hc7
  have ho7 := H6.out.2.2.2.chg hc7 (fun k hk hF => by injection hk with hk; exact H6.out.1.disk.apart k hk.symm hF)
  have H7 := Lib.hid (And.intro hA7 (And.intro hx7 (And.intro hy7 ho7)))
  clear hap hd7 hc7 hA7 hx7 hy7 ho7
  go_wp2_with fail
  have hx9 : RdB F7 w7 (.slice (some ⟨g2, 0, none⟩) 9 cap2) (X.take 9) := by
    obtain ⟨xa, xc, hsl, hx⟩ := slice_bytes_to H7.out.2.1 9 (by rw [H5.out.2.2.2.2.1]; decide)
    have h1 := hsl w7
    rw [show (((9 : Nat)) : Int) = 9 from rfl, hsl9 w7] at h1
    injection h1 with h1 _
    injection h1 with h1 h2 h3
    rw [h1, h3]
    exact hx
  have hmk := d_mark w7 D F7 _ H7.out.1.disk (by simp [DM.new]) _ (X.take 9) hx9
  rw [setMark_nf rfl rfl (X.take 9) (by rw [List.length_take]; omega)] at hmk
  refine hmk.mono ?_
  rintro e w8 ⟨rfl, F8, hd8, hc8⟩
  have hA8 : LawAt W w8 D (fun k => k = g2) F8 (keptM X) := H7.out.1.chg hd8 hc8
  have hx8 := H7.out.2.1.chg hc8
  have hy8 := rdU_F H7.out.2.2.1 hc8
  have ho8 := H7.out.2.2.2.chg hc8 (fun k hk hF => by injection hk with hk; exact H7.out.1.disk.apart k hk.symm hF)
  have c1 := str_bytes hx8
  have c2 := str_bytes (F := fun k => F8 k ∨ k = g2) hy8
  have H8 := Lib.hid (And.intro hA8 (And.intro hy8 ho8))
  clear hmk hd8 hc8 hA8 hx8 hy8 ho8 hx9 hsl9 hsl4
  go_wp2
  clear c1 c2
  go_loopw [7] (fun i wr => ∃ (j : Nat) (xs : Bytes), j ≤ 512 ∧ i = .int .i64 (j : Int) ∧ LawAt W wr D (fun k => k = g2) F8 (keptM X) ∧ RdB (fun k => F8 k ∨ k = g2) wr (.slice (some ⟨g5, 0, none⟩) 512 cap5) X ∧ OwnB wr w2.heap.size 5 (.slice (some ⟨g2, 0, none⟩) (bn + 513) cap2) xs ∧ xs.length = bn + 513) (fun i _ => 512 - (intOf i).toNat)
  case atStart => exact ⟨0, _, by omega, rfl, H8.out.1, H8.out.2.1, H8.out.2.2, H5.out.2.2.2.2.2.1⟩
  case round =>
    obtain ⟨j, xs, hj, rfl, hA, hy, ho, hxs⟩ := hrel
    rcases Nat.lt_or_eq_of_le hj with hlt | heq
    · have hc := ho.cellAt j (by omega)
      have hf := ho.frozenAt (by omega) j
      obtain ⟨z, hz⟩ : ∃ z, xs[j]'(by omega) = z := ⟨_, rfl⟩
      rw [hz] at hc
      have hbit := xor255 z
      obtain ⟨y, hy1⟩ : ∃ y, UInt8.ofNat (255 - z.toNat) = y := ⟨_, rfl⟩
      rw [hy1] at hbit
      have ho2 := ho.set (g := g2) rfl (i := j) (by omega) y (y.toNat : Int) rfl
      have hch : Chg (fun k => k = g2) (fun k => k = g2) wr (wr.setCell ⟨g2, j, none⟩ (.int .u8 (y.toNat : Int))) := chg_setCell wr _ _ rfl
      have hA2 := hA.chgE hch (fun k hk => by have := H5.out.2.2.2.2.2.2; have := HWG.out; omega)
      have hy2 := rdU_E hy hch
      obtain ⟨zi, hzi⟩ : ∃ zi : Int, (z.toNat : Int) = zi := ⟨_, rfl⟩
      rw [hzi] at hc hbit
      obtain ⟨yi, hyi⟩ : ∃ yi : Int, (y.toNat : Int) = yi := ⟨_, rfl⟩
      rw [hyi] at hbit ho2 hA2 hy2
      have hji : (j : Int) < 512 := by omega
      have hj0 : (0 : Int) ≤ (j : Int) := by omega
      have HR := Lib.hid (And.intro hA2 (And.intro hy2 (And.intro ho2 (And.intro hxs hlt))))
      clear hA2 hy2 ho2 hxs hlt hch hA hy ho hz hy1 hzi hyi hj
      go_wp2
      go_roundw
      case rel => exact ⟨j + 1, _, by have := HR.out.2.2.2.2; omega, by go_num, HR.out.1, HR.out.2.1, HR.out.2.2.1, by rw [List.length_set]; exact HR.out.2.2.2.1⟩
      case measure => have := HR.out.2.2.2.2; simp [intOf]; omega
    · subst heq
      have hR1 := d_read wr D F8 (keptM X) hA.disk rfl 0 (by show 0 < 2; decide)
      rw [show (keptM X).page 0 = X from rfl] at hR1
      have hXl := H5.out.2.2.2.2.1
      obtain ⟨M, hM⟩ : ∃ M, X.take 9 = M := ⟨_, rfl⟩
      have hMl : M.length = 9 := by rw [← hM, List.length_take]; omega
      have hb9 : Below wr.heap.size wr (wr.alloc (bobj X)) := (Below.refl _ _).alloc (Nat.le_refl _) _
      have ho9 := bobj_own wr X X.length wr.heap.size rfl (maxLen_ge (by omega)) (Nat.le_refl _)
      obtain ⟨w9, hw9⟩ : ∃ w9, wr.alloc (bobj X) = w9 := ⟨_, rfl⟩
      rw [hw9] at hR1 hb9 ho9
      have s9 : w9.heap.size = wr.heap.size + 1 := by rw [← hw9, World.size_alloc]
      have hL1 := d_log w9 D F8 (keptM X) (hA.grow hb9).disk rfl
      rw [show (keptM X).log = X from rfl] at hL1
      have hb10 : Below wr.heap.size wr (w9.alloc (bobj X)) := hb9.alloc hb9.size _
      have ho10 := bobj_own w9 X X.length w9.heap.size rfl (maxLen_ge (by omega)) (Nat.le_refl _)
      have hp10 : OwnB (w9.alloc (bobj X)) _ _ _ _ := World.ownsRow.alloc ho9 (bobj X)
      obtain ⟨w10, hw10⟩ : ∃ w10, w9.alloc (bobj X) = w10 := ⟨_, rfl⟩
      rw [hw10] at hL1 hb10 ho10 hp10
      have s10 : w10.heap.size = wr.heap.size + 2 := by rw [← hw10, World.size_alloc, s9]
      have hM1 := d_marked w10 D F8 (keptM X) (hA.grow hb10).disk rfl
      rw [show (keptM X).mark = X.take 9 from rfl, hM] at hM1
      have hb11 : Below wr.heap.size wr (w10.alloc (bobj M)) := hb10.alloc hb10.size _
      have ho11 := bobj_own w10 M M.length w10.heap.size rfl (maxLen_ge (by omega)) (Nat.le_refl _)
      have hp11 : OwnB (w10.alloc (bobj M)) _ _ _ _ := World.ownsRow.alloc hp10 (bobj M)
      have hl11 : OwnB (w10.alloc (bobj M)) _ _ _ _ := World.ownsRow.alloc ho10 (bobj M)
      obtain ⟨w11, hw11⟩ : ∃ w11, w10.alloc (bobj M) = w11 := ⟨_, rfl⟩
      rw [hw11] at hM1 hb11 ho11 hp11 hl11
      have s11 : w11.heap.size = wr.heap.size + 3 := by rw [← hw11, World.size_alloc, s10]
      rw [show ((0 : Nat) : Int) = (0 : Int) from rfl] at hR1
      rw [hXl] at hL1 hp11 hl11
      rw [hMl] at hM1 ho11
      have hA11 : LawAt W w11 D (fun k => k = g2 ∨ k = wr.heap.size ∨ k = w9.heap.size ∨ k = w10.heap.size) F8 (keptM X) := hA.growE hb11 (fun k hk => by omega)
      have hy11 : RdB (fun k => F8 k ∨ k = g2 ∨ k = wr.heap.size ∨ k = w9.heap.size ∨ k = w10.heap.size) w11 (.slice (some ⟨g5, 0, none⟩) 512 cap5) X :=
        RdV.keep hy (fun k hk _ => hb11.block k hk) (fun k hk h => by
          rcases h with h | h | h
          · exact .inl h
          · exact .inr h
          · omega)
      obtain ⟨ya, yc, hsy, hy9⟩ := slice_bytes_to hy11 9 (by omega)
      rw [hM] at hy9
      rw [show (((9 : Nat)) : Int) = 9 from rfl] at hsy
      have cp := fun nq => str_bytes ((OwnB.rd (F := NoF) hp11 (fun _ _ => noF _)).drewN nq)
      have cl := fun nq => str_bytes ((OwnB.rd (F := NoF) hl11 (fun _ _ => noF _)).drewN nq)
      have cm := fun nq => str_bytes ((OwnB.rd (F := NoF) ho11 (fun _ _ => noF _)).drewN nq)
      have cy := fun nq => str_bytes (hy11.drewN nq)
      have cy9 := fun nq => str_bytes (hy9.drewN nq)
      have HR1 := Lib.hid hR1
      have HL1 := Lib.hid hL1
      have HM1 := Lib.hid hM1
      have HF := Lib.hid (And.intro hA11 (And.intro hy11 (And.intro hp11 (And.intro hl11 (And.intro ho11 (And.intro hXl (And.intro hM (And.intro hMl (And.intro s9 (And.intro s10 (And.intro s11 (And.intro hA.below.size hA.lt))))))))))))
      clear hA hy ho hxs hj hR1 hL1 hM1 hXl hM hMl hb9 ho9 hw9 s9 hb10 ho10 hp10 hw10 s10 hb11 ho11 hp11 hl11 hw11 s11 hA11 hy11 hy9
      go_wp2_with fail
      refine HR1.out.mono ?_
      rintro e W' ⟨rfl, rfl⟩
      go_wp2_with fail
      refine HL1.out.mono ?_
      rintro e W' ⟨rfl, rfl⟩
      go_wp2_with fail
      refine HM1.out.mono ?_
      rintro e W' ⟨rfl, rfl⟩
      go_wp2
      go_quiet (fail)
      obtain ⟨w12, hw12⟩ : ∃ w12, w11.drewN nq = w12 := ⟨_, rfl⟩
      rw [hw12]
      obtain ⟨hA11, hy11, hp11, hl11, hm11, hXl, hM, hMl, s9, s10, s11, hbs, hlt8⟩ := HF.out
      have hA12 := hA11.drewN nq
      have hy12 := hy11.drewN nq
      have hp12 : OwnB (w11.drewN nq) _ _ _ _ := hp11
      have hl12 : OwnB (w11.drewN nq) _ _ _ _ := hl11
      have hm12 : OwnB (w11.drewN nq) _ _ _ _ := hm11
      rw [hw12] at hA12 hy12 hp12 hl12 hm12
      have hz12 : w12.heap.size = wr.heap.size + 3 := by rw [← hw12]; exact s11
      clear hw12 cp cl cm cy cy9 HR1 HL1 HM1 hA11 hy11 hp11 hl11 hm11
      obtain ⟨E', hE'⟩ : ∃ E' : Foot, (fun k => k = g2 ∨ k = wr.heap.size ∨ k = w9.heap.size ∨ k = w10.heap.size) = E' := ⟨_, rfl⟩
      have e1 : E' wr.heap.size := by rw [← hE']; exact .inr (.inl rfl)
      have e2 : E' w9.heap.size := by rw [← hE']; exact .inr (.inr (.inl rfl))
      have e3 : E' w10.heap.size := by rw [← hE']; exact .inr (.inr (.inr rfl))
      have e4 : ∀ k, E' k → W.heap.size ≤ k := by
        intro k hk
        rw [← hE'] at hk
        have := HWG.out
        have := H5.out.2.2.2.2.2.2
        omega
      have e5 : (fun k => F8 k ∨ k = g2 ∨ k = wr.heap.size ∨ k = w9.heap.size ∨ k = w10.heap.size) = (fun k => F8 k ∨ E' k) := by rw [← hE']
      rw [hE'] at hA12
      rw [e5] at hy12
      clear e5 hE'
      obtain ⟨y1, hb1⟩ := xor1 (X[0]'(by omega))
      obtain ⟨y3, hb3⟩ := xor1 (M[0]'(by omega))
      -- p
      have kp := hp12.cellAt 0 (by omega)
      have fp := hp12.frozenAt (by omega) 0
      have hc13 : Chg E' E' w12 (w12.setCell ⟨wr.heap.size, 0, none⟩ (.int .u8 (y1.toNat : Int))) := chg_setCell _ _ _ e1
      have hl13 := hl12.setOther ⟨wr.heap.size, 0, none⟩ (.int .u8 (y1.toNat : Int)) (by simp [Value.ownBlock]; omega)
      have hm13 := hm12.setOther ⟨wr.heap.size, 0, none⟩ (.int .u8 (y1.toNat : Int)) (by simp [Value.ownBlock]; omega)
      obtain ⟨w13, hw13⟩ : ∃ w13, w12.setCell ⟨wr.heap.size, 0, none⟩ (.int .u8 (y1.toNat : Int)) = w13 := ⟨_, rfl⟩
      rw [hw13] at hc13 hl13 hm13
      -- l
      have kl := hl13.cellAt 0 (by omega)
      have fl := hl13.frozenAt (by omega) 0
      have hc14 : Chg E' E' w13 (w13.setCell ⟨w9.heap.size, 0, none⟩ (.int .u8 (y1.toNat : Int))) := chg_setCell _ _ _ e2
      have hl14 := hl13.set (g := w9.heap.size) rfl (i := 0) (by omega) y1 (y1.toNat : Int) rfl
      have hm14 := hm13.setOther ⟨w9.heap.size, 0, none⟩ (.int .u8 (y1.toNat : Int)) (by simp [Value.ownBlock]; omega)
      obtain ⟨w14, hw14⟩ : ∃ w14, w13.setCell ⟨w9.heap.size, 0, none⟩ (.int .u8 (y1.toNat : Int)) = w14 := ⟨_, rfl⟩
      rw [hw14] at hc14 hl14 hm14
      -- m
      have km := hm14.cellAt 0 (by omega)
      have fm := hm14.frozenAt (by omega) 0
      have hc15 : Chg E' E' w14 (w14.setCell ⟨w10.heap.size, 0, none⟩ (.int .u8 (y3.toNat : Int))) := chg_setCell _ _ _ e3
      have hl15 := hl14.setOther ⟨w10.heap.size, 0, none⟩ (.int .u8 (y3.toNat : Int)) (by simp [Value.ownBlock]; omega)
      obtain ⟨w15, hw15⟩ : ∃ w15, w14.setCell ⟨w10.heap.size, 0, none⟩ (.int .u8 (y3.toNat : Int)) = w15 := ⟨_, rfl⟩
      rw [hw15] at hc15 hl15
      have z15 : w9.heap.size ≤ w15.heap.size := by have := hc13.size; have := hc14.size; have := hc15.size; omega
      obtain ⟨g16, cap16, w16, hr16, ho16, hg16, _, _, _⟩ := append_byte (ty := 28) 9 9 rfl hl15 (by rw [List.length_set]; omega) z15
      have hc16 : Chg E' E' w15 w16 := chg_grown hg16 (fun k hk => by injection hk with hk; rw [← hk]; exact e2)
      rw [List.length_set, hXl] at hr16
      have hc := ((hc13.trans hc14).trans hc15).trans hc16
      have hA16 := hA12.chgE hc e4
      have hy16 := rdU_E hy12 hc
      have hcr := d_crash w16 D F8 (keptM X) hA16.disk (by show 3 < 4398046511104; decide) _ [] (RdB.nil _ _)
      have hpg : ((keptM X).crash []).page 0 = X := by
        rw [crash_page_all hA16.disk.wf [] rfl (fun i => by simp [chAt]) 0 (by show 0 < 2; decide)]
        rfl
      have hcb : ((keptM X).crash []).base.length = 2 := (crashPages_length (keptM X) []).trans rfl
      obtain ⟨z1, hz1⟩ : ∃ z1 : Int, ((X[0]'(by omega)).toNat : Int) = z1 := ⟨_, rfl⟩
      obtain ⟨z3, hz3⟩ : ∃ z3 : Int, ((M[0]'(by omega)).toNat : Int) = z3 := ⟨_, rfl⟩
      obtain ⟨v1, hv1⟩ : ∃ v1 : Int, (y1.toNat : Int) = v1 := ⟨_, rfl⟩
      obtain ⟨v3, hv3⟩ : ∃ v3 : Int, (y3.toNat : Int) = v3 := ⟨_, rfl⟩
      rw [hz1] at kp kl hb1
      rw [hz3] at km hb3
      rw [hv1] at hb1 hw13 hw14
      rw [hv3] at hb3 hw15
      have HR16 := Lib.hid hr16
      have HCR := Lib.hid hcr
      have H16 := Lib.hid (And.intro hA16 (And.intro hy16 (And.intro hpg (And.intro hcb (And.intro hXl (And.intro hM hMl))))))
      clear hA12 hy12 hp12 hl12 hm12 hz12 e1 e2 e3 e4 hc13 hl13 hm13 hc14 hl14 hm14 hc15 hl15 z15 hr16 ho16 hg16 hc16 hc hA16 hy16 hcr hpg hcb hz1 hz3 hv1 hv3 hXl hM hMl s9 s10 s11 hbs hlt8 hsy
      go_wp2_with (at_builtin; refine Lib.wpList_append_run _ rfl _ _ _ _ rfl _ _ rfl rfl _ _ HR16.out ?_; clear HR16)
      refine HCR.out.mono ?_
      rintro e w17 ⟨rfl, F17, hd17, hb17, hF17⟩
      obtain ⟨D17, hD17⟩ : ∃ D17, w16.heap.size + 2 = D17 := ⟨_, rfl⟩
      rw [hD17] at hd17 ⊢
      obtain ⟨hA16, hy16, hpg, hcb, hXl, hM, hMl⟩ := H16.out
      have hA17 := hA16.grow hb17
      have hy17 : RdB (fun k => F8 k ∨ E' k) w17 (.slice (some ⟨g5, 0, none⟩) 512 cap5) X := RdB.below hy16 hb17
      have hR1 := d_read w17 D F8 (keptM X) hA17.disk rfl 0 (by show 0 < 2; decide)
      rw [show (keptM X).page 0 = X from rfl, show ((0 : Nat) : Int) = (0 : Int) from rfl] at hR1
      have hb18 : Below w17.heap.size w17 (w17.alloc (bobj X)) := (Below.refl _ _).alloc (Nat.le_refl _) _
      obtain ⟨w18, hw18⟩ : ∃ w18, w17.alloc (bobj X) = w18 := ⟨_, rfl⟩
      rw [hw18] at hR1 hb18
      have hL1 := d_log w18 D F8 (keptM X) (hA17.grow hb18).disk rfl
      rw [show (keptM X).log = X from rfl, hXl] at hL1
      have hb19 : Below w17.heap.size w17 (w18.alloc (bobj X)) := hb18.alloc hb18.size _
      obtain ⟨w19, hw19⟩ : ∃ w19, w18.alloc (bobj X) = w19 := ⟨_, rfl⟩
      rw [hw19] at hL1 hb19
      have hM1 := d_marked w19 D F8 (keptM X) (hA17.grow hb19).disk rfl
      rw [show (keptM X).mark = X.take 9 from rfl, hM, hMl] at hM1
      have hb20 : Below w17.heap.size w17 (w19.alloc (bobj M)) := hb19.alloc hb19.size _
      obtain ⟨w20, hw20⟩ : ∃ w20, w19.alloc (bobj M) = w20 := ⟨_, rfl⟩
      rw [hw20] at hM1 hb20
      have hR2 := d_read w20 D17 F17 _ (hd17.below hb20) rfl 0 (by rw [hcb]; decide)
      rw [hpg, show ((0 : Nat) : Int) = (0 : Int) from rfl] at hR2
      have hb21 : Below w17.heap.size w17 (w20.alloc (bobj X)) := hb20.alloc hb20.size _
      obtain ⟨w21, hw21⟩ : ∃ w21, w20.alloc (bobj X) = w21 := ⟨_, rfl⟩
      have hp1 : RdB NoF (w20.alloc (bobj X)) (.slice (some ⟨w17.heap.size, 0, none⟩) 512 512) X := by
        rw [← hw20, ← hw19, ← hw18]
        have := (((bobj_rd (F := NoF) w17 X X.length rfl (maxLen_ge (by omega)) (noF _)).alloc (bobj X)).alloc (bobj M)).alloc (bobj X)
        rw [hXl] at this
        exact this
      have hp2 : RdB NoF (w20.alloc (bobj X)) (.slice (some ⟨w18.heap.size, 0, none⟩) 512 512) X := by
        rw [← hw20, ← hw19]
        have := ((bobj_rd (F := NoF) w18 X X.length rfl (maxLen_ge (by omega)) (noF _)).alloc (bobj M)).alloc (bobj X)
        rw [hXl] at this
        exact this
      have hp3 : RdB NoF (w20.alloc (bobj X)) (.slice (some ⟨w19.heap.size, 0, none⟩) 9 9) M := by
        rw [← hw20]
        have := (bobj_rd (F := NoF) w19 M M.length rfl (maxLen_ge (by omega)) (noF _)).alloc (bobj X)
        rw [hMl] at this
        exact this
      have hp4 : RdB NoF (w20.alloc (bobj X)) (.slice (some ⟨w20.heap.size, 0, none⟩) 512 512) X := by
        have := bobj_rd (F := NoF) w20 X X.length rfl (maxLen_ge (by omega)) (noF _)
        rw [hXl] at this
        exact this
      rw [hw21] at hR2 hb21 hp1 hp2 hp3 hp4
      have hy21 := hy17.below hb21
      obtain ⟨ya2, yc2, hsy2, hy92⟩ := slice_bytes_to hy21 9 (by omega)
      rw [hM] at hy92
      rw [show (((9 : Nat)) : Int) = 9 from rfl] at hsy2
      have cp := fun nq => str_bytes (hp1.drewN nq)
      have cl := fun nq => str_bytes (hp2.drewN nq)
      have cm := fun nq => str_bytes (hp3.drewN nq)
      have cz := fun nq => str_bytes (hp4.drewN nq)
      have cy := fun nq => str_bytes (hy21.drewN nq)
      have cy9 := fun nq => str_bytes (hy92.drewN nq)
      have HFIN := Lib.hid (hA17.grow hb21).below
      have HR1 := Lib.hid hR1
      have HL1 := Lib.hid hL1
      have HM1 := Lib.hid hM1
      have HR2 := Lib.hid hR2
      clear hd17 hb17 hF17 hA16 hy16 hpg hcb hXl hM hMl hA17 hy17 hR1 hb18 hw18 hL1 hb19 hw19 hM1 hb20 hw20 hR2 hb21 hw21 hp1 hp2 hp3 hp4 hy21 hy92 hD17 hw13 hw14 hw15 kp fp kl fl km fm hb1 hb3
      go_wp2_with fail
      refine HR1.out.mono ?_
      rintro e W' ⟨rfl, rfl⟩
      go_wp2_with fail
      refine HL1.out.mono ?_
      rintro e W' ⟨rfl, rfl⟩
      go_wp2_with fail
      refine HM1.out.mono ?_
      rintro e W' ⟨rfl, rfl⟩
      go_wp2_with fail
      refine HR2.out.mono ?_
      rintro e W' ⟨rfl, rfl⟩
      go_wp2
      go_quiet (fail)
      go_wp2
      go_ret
      exact ⟨rfl, below_drewN HFIN.out _⟩
end Mun
