/- The walk of DiskKnown. -/
import Derived.Test.YtmlggofojdhmmaaCertP
import Derived.Test.YtmlggofojdhmmaaDiskX
import Derived.Test.YtmlggofojdhmmaaZeros
set_option maxRecDepth 1000000
set_option linter.unusedVariables false
namespace Mun
open Go Go.RowKit
open Go.Proofs

theorem step_append_run {P : Program} {ops : Array Oper} {o : Oper} {a : Act} {w : World} {K : Act → World → Prop} {Q : Exit → Act → World → Prop} {E : Prop} (hgd : Region.wanted o (yielded ops a.tmps) = true) {s x : Operand} {t u : TypeId}
    (ho : o.op = .call { callee := .builtin .append, args := #[s, x], argTypes := #[t, u] }) {v sv v' : Value} {w' : World}
    (hr : (Builtin.append_ #[t, u] o.type #[v, sv]).run P w = .ok v' w') (hs : a.eval s = v) (hx : a.eval x = sv) (h : K (a.put o.dst v') w') :
    if Region.wanted o (yielded ops a.tmps) = true then Oper.wp P o a w K Q else E := by
  rw [if_pos hgd]
  unfold Oper.wp
  simp [execOp, ho, resolve, invoke, builtin, hs, hx, hr, Result.andThen]
  exact h

def kn1 : DM := { DM.new 4 10 with ops := 1, waiting := [(1, onesL)] }
def kn2 : DM := { kn1 with ops := 2, log := [7, 8] }
def kn3 : DM := { kn2 with ops := 3, certain := 2 }
def kn4 : DM := { kn3 with fuse := 0, dead := true, torn := some (2, onesL) }

theorem kn1_lost : (kn1.crash [1]).page 1 = page0 := by
  rw [crash_page]
  show (crashBase kn1 [1] 1).getD 1 page0 = page0
  have e : crashBase kn1 [1] 1 = kn1.base := by
    rw [crashBase]
    show (if chAt [1] 0 % 2 = 0 then _ else _) = _
    rw [if_neg (by decide)]
    rfl
  rw [e]
  rfl
theorem kn1_kept (hw : kn1.Wf) : (kn1.crash [0]).page 1 = onesL := by
  rw [crash_page_all hw [0] rfl (fun i => by cases i <;> simp [chAt]) 1 (by show 1 < 4; decide)]
  rfl
theorem kn2_log : (kn2.crash [1, 0]).log = [7] := by decide
theorem kn3_log : (kn3.crash [0]).log = [7, 8] := by decide
theorem kn4_page : (kn4.crash [0, 4]).page 2 = onesL.take 256 ++ List.replicate 256 0 := by
  rw [crash_page]
  show ((crashBase kn4 [0, 4] 1).set 2 (kn4.tornBytes [0, 4] ((crashBase kn4 [0, 4] 1).getD 2 page0) onesL)).getD 2 page0 = _
  have e : crashBase kn4 [0, 4] 1 = [page0, onesL, page0, page0] := by
    rw [crashBase]
    show (if chAt [0, 4] 0 % 2 = 0 then _ else _) = _
    rw [if_pos (by decide)]
    rfl
  rw [e]
  show kn4.tornBytes [0, 4] page0 onesL = _
  unfold DM.tornBytes
  rw [show chAt [0, 4] kn4.waiting.length / 2 % 5 * 128 = 256 from by decide]
  congr 1

theorem kn_write : (kn3.setFuse 0).write 2 onesL = (kn4, 9) := by
  unfold DM.write
  rw [if_neg (by decide), if_neg (by rw [onesL_length]; show ¬ (¬ ((0 : Int) ≤ 2 ∧ (2 : Int) < ((List.replicate 4 page0).length : Nat)) ∨ 512 ≠ 512); rw [List.length_replicate]; omega), if_pos (by decide)]
  rfl

theorem two_rd {F : Foot} (w : World) (x y : Int) (a b : UInt8) (hx : x = a.toNat) (hy : y = b.toNat) (hF : ¬ F w.heap.size) : RdB F (w.alloc (.cells #[.int .u8 x, .int .u8 y] 5)) (.slice (some ⟨w.heap.size, 0, none⟩) 2 2) [a, b] :=
  lit_rd w _ _ [a, b] (by rw [hx, hy]; rfl) _ _ _ rfl rfl rfl (by simp [maxLen]) hF

theorem pad_from {V : World} {base e : Nat} {ty ty2 : TypeId} (hown : OwnB V base 5 (.slice (some ⟨e, 0, none⟩) 0 0) []) {s : Value} {ys : Bytes} (hs : RdB NoF V s ys) (hy : 0 < ys.length) (k : Nat) (h0 : 0 < k) (hbytes : ys.length + k ≤ 140737488355328) (hbase : base ≤ V.heap.size) (he : base ≤ e) :
    ∃ g cap w1 g' cap' w', (Builtin.append_ #[28, 28] ty #[.slice (some ⟨e, 0, none⟩) 0 0, s]).run Try.prog V = .ok (.slice (some ⟨g, 0, none⟩) ys.length cap) w1 ∧
      (Builtin.append_ #[28, 3] ty2 #[.slice (some ⟨g, 0, none⟩) ys.length cap, .int .i64 k]).run Try.prog w1 = .ok (.slice (some ⟨g', 0, none⟩) (ys.length + k) cap') w' ∧
      OwnB w' base 5 (.slice (some ⟨g', 0, none⟩) (ys.length + k) cap') (ys ++ List.replicate k 0) ∧ Below base V w1 ∧ Below base V w' := by
  obtain ⟨v1, w1, hr1, ho1, hg1, hw1, -⟩ := append_bytes (ty := ty) hown hs (by simpa using by omega) hbase
  rw [List.nil_append] at ho1
  obtain ⟨g, cap, hv, hg2, _⟩ := ho1.at_ hy
  subst hv
  have hb1 : Below base V w1 := (Below.refl _ _).grown hg1 hbase (fun j hj => by simp only [Value.ownBlock, Option.some.injEq] at hj; omega)
  obtain ⟨g', cap', w', hr2, ho2, hg3, _⟩ := append_zeros (ty := ty2) ho1 rfl k h0 hbytes (Nat.le_trans hbase hb1.size)
  exact ⟨g, cap, w1, g', cap', w', hr1, hr2, ho2, hb1, hb1.grown hg3 (Nat.le_trans hbase hb1.size) (fun j hj => by injection hj with hj; omega)⟩

theorem conv_alloc (W : World) (b : Bytes) (hb : b.length = 512) (V : World) (hV : Below (W.alloc (bobj b)).heap.size (W.alloc (bobj b)) V) :
    (convert 28 9 (.slice (some ⟨W.heap.size, 0, none⟩) 512 512)).run Try.prog V = .ok (.string (strOf b)) V := by
  have := str_bytes ((bobj_rd (F := NoF) W b b.length rfl (maxLen_ge (by omega)) (noF _)).below hV)
  rw [hb] at this
  exact this

set_option maxHeartbeats 4000000 in
theorem known_ok (W : World) : Calls Try.prog 3 #[] W fun e W' => e = .returned (.bool true) ∧ Below W.heap.size W W' := by
  go_enter Try.func3, Try.ntmps3
  go_wp2_with fail
  refine (awake6 W).mono ?_
  rintro e w1 ⟨rfl, hb1⟩
  have HB1 := Lib.hid hb1
  clear hb1
  go_wp2_with fail
  refine (d_new w1 4 10 (by decide) (by decide) (by decide)).mono ?_
  rintro e w2 ⟨rfl, hw2⟩
  have hA2 : LawAt W w2 (w1.heap.size + 2) NoF (newFoot w1) (DM.new 4 10) := by rw [← hw2]; exact LawAt.new HB1.out 4 10 (fun _ h => False.elim h) (by decide) (by decide)
  obtain ⟨F2, hF2⟩ : ∃ F2, newFoot w1 = F2 := ⟨_, rfl⟩
  obtain ⟨D, hD⟩ : ∃ D, w1.heap.size + 2 = D := ⟨_, rfl⟩
  rw [hF2, hD] at hA2
  rw [hD]
  have HA2 := Lib.hid hA2
  clear hA2 hF2 hD hw2
  go_wp2_with fail
  refine (ones_any w2).mono ?_
  rintro e w3 ⟨rfl, hw3⟩
  have hA3 : LawAt W w3 D NoF F2 (DM.new 4 10) := by rw [← hw3]; exact HA2.out.more _
  have ho3 : RdB F2 w3 (.slice (some ⟨w2.heap.size, 0, none⟩) 512 512) onesL := by
    rw [← hw3]
    exact bobj_rd w2 onesL 512 rfl (by decide) (fun hk => absurd (HA2.out.lt _ hk) (Nat.lt_irrefl _))
  have hwr := d_write w3 D F2 (DM.new 4 10) hA3.disk (by decide) ((1 : Nat) : Int) _ onesL ho3
  rw [write_nf rfl rfl 1 (by show 1 < 4; decide) onesL onesL_length, show ((1 : Nat) : Int) = (1 : Int) from rfl] at hwr
  have HA3 := Lib.hid hA3
  clear hw3 hA3 ho3
  go_wp2_with fail
  refine hwr.mono ?_
  rintro e w4 ⟨rfl, F4, hd4, hc4⟩
  have hA4 : LawAt W w4 D NoF F4 kn1 := HA3.out.chg hd4 hc4
  have hone : RdB F4 (w4.alloc (.cells #[.int .u8 1] 5)) (.slice (some ⟨w4.heap.size, 0, none⟩) 1 1) [1] :=
    lit_rd w4 _ _ [1] rfl _ _ _ rfl rfl rfl (by simp [maxLen]) (fun hF => absurd (hA4.lt _ hF) (Nat.lt_irrefl _))
  have hcr := d_crash (w4.alloc (.cells #[.int .u8 1] 5)) D F4 kn1 (hA4.more _).disk (by decide) _ [1] hone
  have hA5 := hA4.more (.cells #[.int .u8 1] 5)
  obtain ⟨w5, hw5⟩ : ∃ w5, w4.alloc (.cells #[.int .u8 1] 5) = w5 := ⟨_, rfl⟩
  rw [hw5] at hcr hA5
  have HA5 := Lib.hid hA5
  clear hwr hd4 hc4 hA4 hone hA5
  go_wp2_with fail
  refine hcr.mono ?_
  rintro e w6 ⟨rfl, F6, hd6, hb6, hF6⟩
  obtain ⟨D6, hD6⟩ : ∃ D6, w5.heap.size + 2 = D6 := ⟨_, rfl⟩
  rw [hD6] at hd6 ⊢
  have hA6 := HA5.out.grow hb6
  have hone : RdB F4 (w6.alloc (.cells #[.int .u8 0] 5)) (.slice (some ⟨w6.heap.size, 0, none⟩) 1 1) [0] :=
    lit_rd w6 _ _ [0] rfl _ _ _ rfl rfl rfl (by simp [maxLen]) (fun hF => absurd (hA6.lt _ hF) (Nat.lt_irrefl _))
  have hcr2 := d_crash (w6.alloc (.cells #[.int .u8 0] 5)) D F4 kn1 (hA6.more _).disk (by decide) _ [0] hone
  have hA7 := hA6.more (.cells #[.int .u8 0] 5)
  have hd7 := hd6.below ((Below.refl _ _).alloc (Nat.le_refl _) (.cells #[.int .u8 0] 5))
  obtain ⟨w7, hw7⟩ : ∃ w7, w6.alloc (.cells #[.int .u8 0] 5) = w7 := ⟨_, rfl⟩
  rw [hw7] at hcr2 hA7 hd7
  have H7 := Lib.hid (And.intro hA7 hd7)
  clear hcr hd6 hb6 hF6 hD6 hA6 hone hA7 hd7 hw5
  go_wp2_with fail
  refine hcr2.mono ?_
  rintro e w8 ⟨rfl, F8, hd8, hb8, hF8⟩
  obtain ⟨D8, hD8⟩ : ∃ D8, w7.heap.size + 2 = D8 := ⟨_, rfl⟩
  rw [hD8] at hd8 ⊢
  have hA8 := H7.out.1.grow hb8
  have hx8 := H7.out.2.below hb8
  have hR1 := d_read w8 D6 F6 _ hx8 rfl 1 (by rw [show (kn1.crash [1]).base.length = 4 from (crashPages_length kn1 [1]).trans rfl]; decide)
  rw [kn1_lost, show ((1 : Nat) : Int) = (1 : Int) from rfl] at hR1
  have hd9 := hd8.below ((Below.refl _ _).alloc (Nat.le_refl _) (bobj page0))
  have hR2 := d_read (w8.alloc (bobj page0)) D8 F8 _ hd9 rfl 1 (by rw [show (kn1.crash [0]).base.length = 4 from (crashPages_length kn1 [0]).trans rfl]; decide)
  rw [kn1_kept hA8.disk.wf, show ((1 : Nat) : Int) = (1 : Int) from rfl] at hR2
  have hA10 := (hA8.more (bobj page0)).more (bobj onesL)
  obtain ⟨w9, hw9⟩ : ∃ w9, w8.alloc (bobj page0) = w9 := ⟨_, rfl⟩
  rw [hw9] at hR1 hR2 hA10
  have hp9 : ∀ V, Below (w9.alloc (bobj onesL)).heap.size (w9.alloc (bobj onesL)) V → (convert 28 9 (.slice (some ⟨w8.heap.size, 0, none⟩) 512 512)).run Try.prog V = .ok (.string (strOf page0)) V := fun V hV => by
    refine conv_alloc w8 page0 page0_length V ?_
    rw [hw9]
    exact ((Below.refl _ _).alloc (Nat.le_refl _) (bobj onesL)).trans (hV.mono (by simp))
  have hp10 : ∀ V, Below (w9.alloc (bobj onesL)).heap.size (w9.alloc (bobj onesL)) V → (convert 28 9 (.slice (some ⟨w9.heap.size, 0, none⟩) 512 512)).run Try.prog V = .ok (.string (strOf onesL)) V := fun V hV => conv_alloc w9 onesL onesL_length V hV
  obtain ⟨w10, hw10⟩ : ∃ w10, w9.alloc (bobj onesL) = w10 := ⟨_, rfl⟩
  rw [hw10] at hR2 hA10 hp9 hp10
  have HA10 := Lib.hid hA10
  have HP := Lib.hid (And.intro hp9 hp10)
  have HR1 := Lib.hid hR1
  have HR2 := Lib.hid hR2
  clear hcr2 hd8 hb8 hF8 hD8 hA8 hx8 hR1 hd9 hR2 hA10 hw9 hw10 hp9 hp10 hw7
  go_wp2_with fail
  refine HR1.out.mono ?_
  rintro e W' ⟨rfl, rfl⟩
  go_wp2_with fail
  refine HR2.out.mono ?_
  rintro e W' ⟨rfl, rfl⟩
  go_upto_region 11 with fail
  go_cut [67] (fun s67 wx => s67 = .bool false ∧ Below w10.heap.size w10 wx)
  case first =>
    have b0 : Below w10.heap.size w10 w10.drew := below_drewN (Below.refl _ _) 1
    have b1 : Below w10.heap.size w10 (w10.alloc (bobj page0)).drew := b0.alloc b0.size _
    have b2 : Below w10.heap.size w10 (w10.alloc (bobj onesL)).drew := b0.alloc b0.size _
    have b3 : Below w10.heap.size w10 ((w10.alloc (bobj page0)).alloc (bobj onesL)).drew := b1.alloc b1.size _
    have b4 : Below w10.heap.size w10 ((w10.alloc (bobj onesL)).alloc (bobj page0)).drew := b2.alloc b2.size _
    have hms : ∀ V : World, (Instr.makeSlice 28 (.int .i64 512) (.int .i64 512)).run Try.prog V = .ok (.slice (some ⟨V.heap.size, 0, none⟩) 512 512) (V.alloc (bobj page0)) := fun V => make_bytes 512 512 (Nat.le_refl _) (by decide) V
    have hS : ∀ V, Below w10.heap.size w10 V → (convert 28 9 (.slice (some ⟨w8.heap.size, 0, none⟩) 512 512)).run Try.prog V = .ok (.string (strOf page0)) V ∧ (convert 28 9 (.slice (some ⟨w9.heap.size, 0, none⟩) 512 512)).run Try.prog V = .ok (.string (strOf onesL)) V := fun V hV => ⟨HP.out.1 V hV, HP.out.2 V hV⟩
    have hS0 := hS _ b0
    have hS1 := hS _ b1
    have hS2 := hS _ b2
    have hS3 := hS _ b3
    have hS4 := hS _ b4
    have cp1 : (convert 28 9 (.slice (some ⟨w10.heap.size, 0, none⟩) 512 512)).run Try.prog ((w10.alloc (bobj page0)).drew) = .ok (.string (strOf page0)) ((w10.alloc (bobj page0)).drew) := conv_alloc w10.drew page0 page0_length _ (Below.refl _ _)
    have cp2 : (convert 28 9 (.slice (some ⟨w10.heap.size, 0, none⟩) 512 512)).run Try.prog (((w10.alloc (bobj page0)).alloc (bobj onesL)).drew) = .ok (.string (strOf page0)) (((w10.alloc (bobj page0)).alloc (bobj onesL)).drew) := conv_alloc w10.drew page0 page0_length _ ((Below.refl _ _).alloc (Nat.le_refl _) _)
    have cp3 : (convert 28 9 (.slice (some ⟨w10.heap.size + 1, 0, none⟩) 512 512)).run Try.prog (((w10.alloc (bobj onesL)).alloc (bobj page0)).drew) = .ok (.string (strOf page0)) (((w10.alloc (bobj onesL)).alloc (bobj page0)).drew) := by
      have := conv_alloc (w10.drew.alloc (bobj onesL)) page0 page0_length _ (Below.refl _ _)
      rw [World.size_alloc] at this
      exact this
    have co1 : (convert 28 9 (.slice (some ⟨w10.heap.size, 0, none⟩) 512 512)).run Try.prog ((w10.alloc (bobj onesL)).drew) = .ok (.string (strOf onesL)) ((w10.alloc (bobj onesL)).drew) := conv_alloc w10.drew onesL onesL_length _ (Below.refl _ _)
    have co2 : (convert 28 9 (.slice (some ⟨w10.heap.size, 0, none⟩) 512 512)).run Try.prog (((w10.alloc (bobj onesL)).alloc (bobj page0)).drew) = .ok (.string (strOf onesL)) (((w10.alloc (bobj onesL)).alloc (bobj page0)).drew) := conv_alloc w10.drew onesL onesL_length _ ((Below.refl _ _).alloc (Nat.le_refl _) _)
    have co3 : (convert 28 9 (.slice (some ⟨w10.heap.size + 1, 0, none⟩) 512 512)).run Try.prog (((w10.alloc (bobj page0)).alloc (bobj onesL)).drew) = .ok (.string (strOf onesL)) (((w10.alloc (bobj page0)).alloc (bobj onesL)).drew) := by
      have := conv_alloc (w10.drew.alloc (bobj page0)) onesL onesL_length _ (Below.refl _ _)
      rw [World.size_alloc] at this
      exact this
    have HBB := Lib.hid (And.intro b3 b4)
    clear b0 b1 b2 b3 b4 hS
    go_region_held (fun V => (convert 28 9 (.slice (some ⟨w8.heap.size, 0, none⟩) 512 512)).run Try.prog V = .ok (.string (strOf page0)) V ∧ (convert 28 9 (.slice (some ⟨w9.heap.size, 0, none⟩) 512 512)).run Try.prog V = .ok (.string (strOf onesL)) V)
      (first | assumption | exact hS0 | exact hS1 | exact hS2 | exact hS3 | exact hS4)
      ((go_at_call 13; refine (ones_any _).mono ?_; rintro e W' ⟨rfl, rfl⟩))
    all_goals
      go_wp2_with fail
      go_meet
      first
      | exact ⟨rfl, HBB.out.1⟩
      | exact ⟨rfl, HBB.out.2⟩
  case rest =>
    obtain ⟨rfl, hb12⟩ := hcut
    have hA12 := HA10.out.grow hb12
    obtain ⟨w12, hw12⟩ : ∃ w12, wc = w12 := ⟨_, rfl⟩
    rw [hw12] at hA12 ⊢
    have h78 : RdB F4 (w12.alloc (.cells #[.int .u8 7, .int .u8 8] 5)) (.slice (some ⟨w12.heap.size, 0, none⟩) 2 2) [7, 8] := two_rd w12 7 8 7 8 rfl rfl (fun hF => absurd (hA12.lt _ hF) (Nat.lt_irrefl _))
    have hA13 := hA12.more (.cells #[.int .u8 7, .int .u8 8] 5)
    obtain ⟨w13, hw13⟩ : ∃ w13, w12.alloc (.cells #[.int .u8 7, .int .u8 8] 5) = w13 := ⟨_, rfl⟩
    rw [hw13] at hA13 h78
    have hap := d_append w13 D F4 kn1 hA13.disk (by decide) _ [7, 8] h78
    rw [append_nf rfl rfl [7, 8] (by decide)] at hap
    have HA13 := Lib.hid hA13
    clear hb12 hw12 hA12 h78 hA13
    go_wp2_with fail
    refine hap.mono ?_
    rintro e w14 ⟨rfl, F14, hd14, hc14⟩
    have hA14 : LawAt W w14 D NoF F14 kn2 := HA13.out.chg hd14 hc14
    have h10 : RdB F14 (w14.alloc (.cells #[.int .u8 1, .int .u8 0] 5)) (.slice (some ⟨w14.heap.size, 0, none⟩) 2 2) [1, 0] := two_rd w14 1 0 1 0 rfl rfl (fun hF => absurd (hA14.lt _ hF) (Nat.lt_irrefl _))
    have hA15 := hA14.more (.cells #[.int .u8 1, .int .u8 0] 5)
    obtain ⟨w15, hw15⟩ : ∃ w15, w14.alloc (.cells #[.int .u8 1, .int .u8 0] 5) = w15 := ⟨_, rfl⟩
    rw [hw15] at hA15 h10
    have hcr := d_crash w15 D F14 kn2 hA15.disk (by decide) _ [1, 0] h10
    have HA15 := Lib.hid hA15
    clear hap hd14 hc14 hA14 h10 hA15 hw13
    go_wp2_with fail
    refine hcr.mono ?_
    rintro e w16 ⟨rfl, F16, hd16, hb16, hF16⟩
    obtain ⟨D16, hD16⟩ : ∃ D16, w15.heap.size + 2 = D16 := ⟨_, rfl⟩
    rw [hD16] at hd16 ⊢
    have hA16 := HA15.out.grow hb16
    have hfo := d_force w16 D F14 kn2 hA16.disk (by decide)
    rw [force_nf rfl rfl] at hfo
    have H16 := Lib.hid (And.intro hA16 hd16)
    clear hcr hd16 hb16 hF16 hD16 hA16 hw15
    go_wp2_with fail
    refine hfo.mono ?_
    rintro e w17 ⟨rfl, F17, hd17, hc17⟩
    have hA17 : LawAt W w17 D NoF F17 kn3 := H16.out.1.chg hd17 hc17
    have hx17 : DiskAt w17 D16 (fun k => F17 k ∨ NoF k) F16 (kn2.crash [1, 0]) := H16.out.2.frame (fun k h1 h2 => hc17.block k h1 (fun e => h2 (.inl e))) hc17.size (fun k h => h.elim (fun h => (hc17.foot k h).imp .inl id) (fun h => h.elim))
    have h0 : RdB F17 (w17.alloc (.cells #[.int .u8 0] 5)) (.slice (some ⟨w17.heap.size, 0, none⟩) 1 1) [0] :=
      lit_rd w17 _ _ [0] rfl _ _ _ rfl rfl rfl (by simp [maxLen]) (fun hF => absurd (hA17.lt _ hF) (Nat.lt_irrefl _))
    have hA18 := hA17.more (.cells #[.int .u8 0] 5)
    have hx18 := hx17.below ((Below.refl _ _).alloc (Nat.le_refl _) (.cells #[.int .u8 0] 5))
    obtain ⟨w18, hw18⟩ : ∃ w18, w17.alloc (.cells #[.int .u8 0] 5) = w18 := ⟨_, rfl⟩
    rw [hw18] at hA18 h0 hx18
    have hcr := d_crash w18 D F17 kn3 hA18.disk (by decide) _ [0] h0
    have H18 := Lib.hid (And.intro hA18 hx18)
    clear hfo hd17 hc17 hA17 hx17 h0 hA18 hx18
    go_wp2_with fail
    refine hcr.mono ?_
    rintro e w19 ⟨rfl, F19, hd19, hb19, hF19⟩
    obtain ⟨D19, hD19⟩ : ∃ D19, w18.heap.size + 2 = D19 := ⟨_, rfl⟩
    rw [hD19] at hd19 ⊢
    have hA19 := H18.out.1.grow hb19
    have hx19 := H18.out.2.below hb19
    have hL1 := d_log w19 D16 F16 _ hx19 rfl
    rw [kn2_log, show ([7] : Bytes).length = 1 from rfl] at hL1
    have hL2 := d_log (w19.alloc (bobj [7])) D19 F19 _ (hd19.below ((Below.refl _ _).alloc (Nat.le_refl _) (bobj [7]))) rfl
    rw [kn3_log, show ([7, 8] : Bytes).length = 2 from rfl] at hL2
    have hA21 := (hA19.more (bobj [7])).more (bobj [7, 8])
    have c1 := str_bytes ((bobj_rd (F := NoF) w19 [7] 1 rfl (maxLen_ge (by decide)) (noF _)).alloc (bobj [7, 8]))
    have c2 := str_bytes (bobj_rd (F := NoF) (w19.alloc (bobj [7])) [7, 8] 2 rfl (maxLen_ge (by decide)) (noF _))
    rw [show ([7] : Bytes).length = 1 from rfl] at c1
    rw [show ([7, 8] : Bytes).length = 2 from rfl] at c2
    obtain ⟨w20, hw20⟩ : ∃ w20, w19.alloc (bobj [7]) = w20 := ⟨_, rfl⟩
    rw [hw20] at hL1 hL2 hA21 c1 c2
    obtain ⟨w21, hw21⟩ : ∃ w21, w20.alloc (bobj [7, 8]) = w21 := ⟨_, rfl⟩
    rw [hw21] at hL2 hA21 c1 c2
    rw [show strOf [7] = { data := #[7] } from rfl] at c1
    rw [show strOf [7, 8] = { data := #[7, 8] } from rfl] at c2
    have HL1 := Lib.hid hL1
    have HL2 := Lib.hid hL2
    have HA21 := Lib.hid hA21
    clear hcr hd19 hb19 hF19 hD19 hA19 hx19 hL1 hL2 hA21 hw20 hw21 hw18
    go_wp2_with fail
    refine HL1.out.mono ?_
    rintro e W' ⟨rfl, rfl⟩
    go_wp2_with fail
    refine HL2.out.mono ?_
    rintro e W' ⟨rfl, rfl⟩
    go_wp2_with fail
    have hfu := d_fuse w21 D F17 kn3 HA21.out.disk 0 (by decide) (by decide)
    refine hfu.mono ?_
    rintro e w22 ⟨rfl, hd22, hc22⟩
    have HA22 := Lib.hid (HA21.out.chg hd22 hc22)
    clear hfu hd22 hc22 c1 c2
    go_wp2_with fail
    refine (ones_any w22).mono ?_
    rintro e w23 ⟨rfl, hw23⟩
    have hA23 : LawAt W w23 D NoF F17 (kn3.setFuse 0) := by rw [← hw23]; exact HA22.out.more _
    have ho23 : RdB F17 w23 (.slice (some ⟨w22.heap.size, 0, none⟩) 512 512) onesL := by
      rw [← hw23]
      exact bobj_rd w22 onesL 512 rfl (by decide) (fun hk => absurd (HA22.out.lt _ hk) (Nat.lt_irrefl _))
    have hwr := d_write w23 D F17 (kn3.setFuse 0) hA23.disk (by decide) 2 _ onesL ho23
    rw [kn_write] at hwr
    have HA23 := Lib.hid hA23
    clear hw23 hA23 ho23
    go_wp2_with fail
    refine hwr.mono ?_
    rintro e w24 ⟨rfl, F24, hd24, hc24⟩
    have hA24 : LawAt W w24 D NoF F24 kn4 := HA23.out.chg hd24 hc24
    have hR := d_read_dead w24 D F24 kn4 hA24.disk rfl 2
    have h04 : RdB F24 (w24.alloc (.cells #[.int .u8 0, .int .u8 4] 5)) (.slice (some ⟨w24.heap.size, 0, none⟩) 2 2) [0, 4] := two_rd w24 0 4 0 4 rfl rfl (fun hF => absurd (hA24.lt _ hF) (Nat.lt_irrefl _))
    have hA25 := hA24.more (.cells #[.int .u8 0, .int .u8 4] 5)
    obtain ⟨w25, hw25⟩ : ∃ w25, w24.alloc (.cells #[.int .u8 0, .int .u8 4] 5) = w25 := ⟨_, rfl⟩
    rw [hw25] at hA25 h04
    have hcr := d_crash w25 D F24 kn4 hA25.disk (by decide) _ [0, 4] h04
    have HA25 := Lib.hid hA25
    clear hwr hd24 hc24 hA24 h04 hA25
    go_wp2_with fail
    refine hR.mono ?_
    rintro e W' ⟨rfl, rfl⟩
    clear hR
    go_wp2_with fail
    refine hcr.mono ?_
    rintro e w26 ⟨rfl, F26, hd26, hb26, hF26⟩
    obtain ⟨D26, hD26⟩ : ∃ D26, w25.heap.size + 2 = D26 := ⟨_, rfl⟩
    rw [hD26] at hd26 ⊢
    have hA26 := HA25.out.grow hb26
    have hdd := d_dead w26 D F24 kn4 hA26.disk
    rw [show kn4.dead = true from rfl] at hdd
    have hR2 := d_read w26 D26 F26 _ hd26 rfl 2 (by rw [show (kn4.crash [0, 4]).base.length = 4 from (crashPages_length kn4 [0, 4]).trans rfl]; decide)
    rw [kn4_page, show ((2 : Nat) : Int) = (2 : Int) from rfl] at hR2
    obtain ⟨P, hP⟩ : ∃ P : Bytes, onesL.take 256 ++ List.replicate 256 0 = P := ⟨_, rfl⟩
    have hPl : P.length = 512 := by rw [← hP, List.length_append, List.length_take, onesL_length, List.length_replicate]; rfl
    rw [hP] at hR2
    have hA27 := hA26.more (bobj P)
    have hcP : ∀ V, Below (w26.alloc (bobj P)).heap.size (w26.alloc (bobj P)) V → (convert 28 9 (.slice (some ⟨w26.heap.size, 0, none⟩) 512 512)).run Try.prog V = .ok (.string (strOf P)) V := fun V hV => conv_alloc w26 P hPl V hV
    obtain ⟨w27, hw27⟩ : ∃ w27, w26.alloc (bobj P) = w27 := ⟨_, rfl⟩
    rw [hw27] at hR2 hA27 hcP
    have HR2 := Lib.hid hR2
    have HDD := Lib.hid hdd
    have H27 := Lib.hid (And.intro hA27 (And.intro hcP (And.intro hP hPl)))
    clear hcr hd26 hb26 hF26 hD26 hA26 hdd hR2 hA27 hcP hw27 hP hPl hw25
    go_wp2_with fail
    refine HDD.out.mono ?_
    rintro e W' ⟨rfl, rfl⟩
    go_wp2_with fail
    refine HR2.out.mono ?_
    rintro e W' ⟨rfl, rfl⟩
    go_wp2
    -- the two orders of the last region
    obtain ⟨hA27, hcP, hP, hPl⟩ := H27.out
    have b0 : Below w27.heap.size w27 w27.drew := below_drewN (Below.refl _ _) 1
    have bA1 : Below w27.heap.size w27 (w27.alloc (.cells #[] 5)).drew := b0.alloc b0.size _
    have bB1 : Below w27.heap.size w27 (w27.alloc (bobj onesL)).drew := b0.alloc b0.size _
    have bA2 : Below w27.heap.size w27 ((w27.alloc (.cells #[] 5)).alloc (bobj onesL)).drew := bA1.alloc bA1.size _
    have bB2 : Below w27.heap.size w27 ((w27.alloc (bobj onesL)).alloc (.cells #[] 5)).drew := bB1.alloc bB1.size _
    have oA : OwnB ((w27.alloc (.cells #[] 5)).alloc (bobj onesL)).drew w27.heap.size 5 (.slice (some ⟨w27.heap.size, 0, none⟩) 0 0) [] :=
      World.ownsRow.alloc (w := w27.drew.alloc (.cells #[] 5)) (bobj_own w27.drew [] 0 w27.heap.size rfl (Nat.zero_le _) (Nat.le_refl _)) (bobj onesL)
    have oB : OwnB ((w27.alloc (bobj onesL)).alloc (.cells #[] 5)).drew w27.heap.size 5 (.slice (some ⟨w27.heap.size + 1, 0, none⟩) 0 0) [] := by
      have := bobj_own (w27.drew.alloc (bobj onesL)) [] 0 w27.heap.size rfl (Nat.zero_le _) (by rw [World.size_alloc]; exact Nat.le_succ _)
      rw [World.size_alloc] at this
      exact this
    have rA : RdB NoF ((w27.alloc (.cells #[] 5)).alloc (bobj onesL)).drew (.slice (some ⟨w27.heap.size + 1, 0, none⟩) 512 512) onesL := by
      have := bobj_rd (F := NoF) (w27.drew.alloc (.cells #[] 5)) onesL 512 rfl (by decide) (noF _)
      rw [World.size_alloc] at this
      exact this
    have rB : RdB NoF ((w27.alloc (bobj onesL)).alloc (.cells #[] 5)).drew (.slice (some ⟨w27.heap.size, 0, none⟩) 512 512) onesL :=
      RdB.alloc (w := w27.drew.alloc (bobj onesL)) (bobj_rd (F := NoF) w27.drew onesL 512 rfl (by decide) (noF _)) (.cells #[] 5)
    obtain ⟨sAa, sAc, hslA, rA2⟩ := slice_bytes_to rA 256 (by rw [onesL_length]; decide)
    obtain ⟨sBa, sBc, hslB, rB2⟩ := slice_bytes_to rB 256 (by rw [onesL_length]; decide)
    rw [show (((256 : Nat)) : Int) = 256 from rfl] at hslA hslB
    have htk : (onesL.take 256).length = 256 := by rw [List.length_take, onesL_length]; rfl
    obtain ⟨gA, capA, wA3, gA', capA', wA4, hrA1, hrA2, hoA4, hbA3, hbA4⟩ := pad_from (ty := 28) (ty2 := 28) oA rA2 (by rw [htk]; decide) 256 (by decide) (by rw [htk]; decide) bA2.size (Nat.le_refl _)
    obtain ⟨gB, capB, wB3, gB', capB', wB4, hrB1, hrB2, hoB4, hbB3, hbB4⟩ := pad_from (ty := 28) (ty2 := 28) oB rB2 (by rw [htk]; decide) 256 (by decide) (by rw [htk]; decide) bB2.size (Nat.le_succ _)
    rw [htk] at hrA1 hrA2 hoA4 hrB1 hrB2 hoB4
    rw [hP] at hoA4 hoB4
    have cA := str_bytes (OwnB.rd (F := NoF) hoA4 (fun _ _ => noF _))
    have cB := str_bytes (OwnB.rd (F := NoF) hoB4 (fun _ _ => noF _))
    have S0 := hcP _ b0
    have SA1 := hcP _ bA1
    have SB1 := hcP _ bB1
    have SA2 := hcP _ bA2
    have SB2 := hcP _ bB2
    have SA3 := hcP _ (bA2.trans hbA3)
    have SB3 := hcP _ (bB2.trans hbB3)
    have SA4 := hcP _ (bA2.trans hbA4)
    have SB4 := hcP _ (bB2.trans hbB4)
    have HRA1 := Lib.hid hrA1
    have HRA2 := Lib.hid hrA2
    have HRB1 := Lib.hid hrB1
    have HRB2 := Lib.hid hrB2
    have HFA := Lib.hid (hA27.below.trans ((bA2.trans hbA4).mono hA27.below.size))
    have HFB := Lib.hid (hA27.below.trans ((bB2.trans hbB4).mono hA27.below.size))
    clear hA27 hcP hP hPl b0 bA1 bB1 bA2 bB2 oA oB rA rB rA2 rB2 htk hrA1 hrA2 hoA4 hbA3 hbA4 hrB1 hrB2 hoB4 hbB3 hbB4
    go_region_held_law (fun V => (convert 28 9 (.slice (some ⟨w26.heap.size, 0, none⟩) 512 512)).run Try.prog V = .ok (.string (strOf P)) V)
      (first | assumption | exact S0 | exact SA1 | exact SB1 | exact SA2 | exact SB2 | exact SA3 | exact SB3 | exact SA4 | exact SB4)
      (first
      | ((go_at_call 13; refine (ones_any _).mono ?_; rintro e W' ⟨rfl, rfl⟩))
      | (refine step_append_run (by rfl) rfl HRA1.out rfl rfl ?_)
      | (refine step_append_run (by rfl) rfl HRA2.out rfl rfl ?_)
      | (refine step_append_run (by rfl) rfl HRB1.out rfl rfl ?_)
      | (refine step_append_run (by rfl) rfl HRB2.out rfl rfl ?_))
    all_goals
      go_wp2
      go_ret
      first
      | exact ⟨rfl, HFA.out⟩
      | exact ⟨rfl, HFB.out⟩
end Mun
