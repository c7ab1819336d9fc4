/- Contracts of the reference of chapter 7: a record's bytes. -/
import Derived.Test.YtoblajbffnkkiaaW7C
set_option maxRecDepth 100000
set_option linter.unusedVariables false
set_option linter.unusedSimpArgs false
namespace Mun
open Go Go.RowKit
open Go.Proofs

theorem r7bytes_no {F : Foot} (w : World) (r : PR) (x : RV) (lsn : Nat) (h : RecAt F w r x) (hg : goodR r = false) :
    Calls Try.prog 23 #[rval r x, .int .u64 lsn] w fun e w' => e = .returned (.tuple #[.slice none 0 0, .int .i64 1]) ∧ Below w.heap.size w w' := by
  obtain ⟨da, dn, dc, ca, cn, cc, e1, e2, -⟩ := h.open
  have hgd := fun w1 (hb : Below w.heap.size w w1) => r7good w1 r x (h.below hb)
  unfold rval at hgd ⊢
  rw [e1, e2, hg] at hgd
  rw [e1, e2]
  have HG := Lib.hid hgd
  clear hgd h e1 e2 hg
  go_enter Try.func23, Try.ntmps23
  go_wp2_with fail
  refine (HG.out _ ((Below.refl _ _).alloc (Nat.le_refl _) _)).mono ?_
  rintro e w2 ⟨rfl, hb2⟩
  have HB : Hid (Below w.heap.size w w2) := ((Below.refl _ _).alloc (Nat.le_refl _) _).trans (hb2.mono (by simp))
  clear hb2
  go_wp2
  go_ret2
  exact ⟨rfl, HB.out⟩

theorem r7bytes_big {F : Foot} (w : World) (r : PR) (x : RV) (lsn : Nat) (h : RecAt F w r x) (hg : goodR r = true) (hsz : szR r ≤ 4194304) (hbig : 1048576 < (bodyR r).length) :
    Calls Try.prog 23 #[rval r x, .int .u64 lsn] w fun e w' => e = .returned (.tuple #[.slice none 0 0, .int .i64 2]) ∧ Below w.heap.size w w' := by
  obtain ⟨da, dn, dc, ca, cn, cc, e1, e2, -⟩ := h.open
  have hgd := fun w1 (hb : Below w.heap.size w w1) => r7good w1 r x (h.below hb)
  have hbd := fun w1 (hb : Below w.heap.size w w1) => r7body w1 r x (h.below hb) hg hsz
  unfold rval at hgd hbd ⊢
  simp only [e1, e2, hg] at hgd hbd
  rw [e1, e2]
  have HG := Lib.hid hgd
  have HD := Lib.hid hbd
  have HBG := Lib.hid hbig
  have hb0 : Below w.heap.size w (w.alloc (.cells (rcs r (.slice da dn dc) (.slice ca cn cc)) 26)) := (Below.refl _ _).alloc (Nat.le_refl _) _
  have HB0 := Lib.hid hb0
  clear hgd hbd h e1 e2 hg hsz hbig hb0
  go_enter Try.func23, Try.ntmps23
  go_wp2_with fail
  refine (HG.out _ ((Below.refl _ _).alloc (Nat.le_refl _) _)).mono ?_
  rintro e w2 ⟨rfl, hb2⟩
  obtain ⟨c0, c1, c2, c3, c4, c5⟩ := box6 (w := w) (r := r) (box_at hb2)
  have HB : Hid (Below w.heap.size w w2) := ((Below.refl _ _).alloc (Nat.le_refl _) _).trans (hb2.mono (by simp))
  clear hb2
  go_wp2_with fail
  refine (HD.out _ HB.out).mono ?_
  rintro e w3 ⟨g, n, cp, rfl, HN, -, hb3⟩
  have HB3 : Hid (Below w.heap.size w w3) := HB.out.trans (hb3.mono HB.out.size)
  have hn : (1048576 : Int) < (n : Int) := by have := HN.out; have := HBG.out; omega
  clear hb3 c0 c1 c2 c3 c4 c5
  go_wp2
  go_ret2
  exact ⟨rfl, HB3.out⟩

set_option maxHeartbeats 1000000 in
theorem r7bytes_ok {F : Foot} (w : World) (r : PR) (x : RV) (lsn : Nat) (hl : lsn < 18446744073709551616) (h : RecAt F w r x) (hg : goodR r = true) (hsz : szR r ≤ 4194304) (hbig : (bodyR r).length ≤ 1048576) :
    Calls Try.prog 23 #[rval r x, .int .u64 lsn] w (BytesOut w (recB r lsn)) := by
  obtain ⟨da, dn, dc, ca, cn, cc, e1, e2, -⟩ := h.open
  have hgd := fun w1 (hb : Below w.heap.size w w1) => r7good w1 r x (h.below hb)
  have hbd := fun w1 (hb : Below w.heap.size w w1) => r7body w1 r x (h.below hb) hg hsz
  unfold rval at hgd hbd ⊢
  simp only [e1, e2, hg] at hgd hbd
  rw [e1, e2]
  have HG := Lib.hid hgd
  have HD := Lib.hid hbd
  have HBG := Lib.hid hbig
  have HLS := Lib.hid hl
  clear hgd hbd h e1 e2 hg hsz hbig hl
  go_enter Try.func23, Try.ntmps23
  go_wp2_with fail
  refine (HG.out _ ((Below.refl _ _).alloc (Nat.le_refl _) _)).mono ?_
  rintro e w2 ⟨rfl, hb2⟩
  obtain ⟨c0, c1, c2, c3, c4, c5⟩ := box6 (w := w) (r := r) (box_at hb2)
  have HB : Hid (Below w.heap.size w w2) := ((Below.refl _ _).alloc (Nat.le_refl _) _).trans (hb2.mono (by simp))
  clear hb2
  go_wp2_with fail
  refine (HD.out _ HB.out).mono ?_
  rintro e w3 ⟨g, n, cp, rfl, HN, ho3, hb3⟩
  have HB3 : Hid (Below w.heap.size w w3) := HB.out.trans (hb3.mono HB.out.size)
  have hn : (n : Int) ≤ 1048576 := by have := HN.out; have := HBG.out; omega
  have hl4 := refput_any w3 lsn 8 8 rfl HLS.out (by omega)
  have HL4 := Lib.hid hl4
  have HO3 := Lib.hid ho3
  clear ho3 hb3 c0 c1 c2 c3 c4 c5 hl4
  go_wp2_with fail
  refine HL4.out.mono ?_
  rintro e w4 ⟨v4, rfl, ho4, hb4⟩
  obtain ⟨g4, n4, c4, rfl, HN4, hg4, -⟩ := ho4.formN (by rw [leBytes_length]; omega)
  have hrd4 : RdB NoF w4 (.slice (some ⟨g, 0, none⟩) n cp) (bodyR r) := RdB.below (HO3.out.rd (fun _ _ => noF _)) hb4
  obtain ⟨v5, w5, hr5, h51, h52, h53, h54⟩ := append_bytes (ty := 23) ho4 hrd4 (by rw [leBytes_length]; have := HN.out; omega) hb4.size
  obtain ⟨g5, n5, c5, rfl, HN5, hg5, -⟩ := OwnB.formN h51 (by rw [List.length_append, leBytes_length]; omega)
  have hb35 : Below w3.heap.size w3 w5 := hb4.grown h52 hb4.size (fun k hk => (ho4.lt k hk).1)
  have hof := refof_any (F := NoF) w5 _ _ (h51.rd (fun _ _ => noF _))
  have hq : crcOf (leBytes 8 lsn ++ bodyR r) = sumR lsn (bodyR r) := rfl
  rw [hq] at hof
  have hs1 : ((sumR lsn (bodyR r)).toNat : Int) ≤ 4294967295 := by have := (sumR lsn (bodyR r)).isLt; omega
  have hsl : (sumR lsn (bodyR r)).toNat < 18446744073709551616 := by have := (sumR lsn (bodyR r)).isLt; omega
  obtain ⟨q, hqe⟩ : ∃ q, (sumR lsn (bodyR r)).toNat = q := ⟨_, rfl⟩
  have HQ := Lib.hid hqe
  rw [hqe] at hof hs1 hsl
  have hs0 : (0 : Int) ≤ (q : Int) := by omega
  have hn0 : (0 : Int) ≤ (n : Int) := by omega
  have hl6 := refput_any w5 n 4 4 rfl (by omega) (by omega)
  have HR5 := Lib.hid hr5
  have HOF := Lib.hid hof
  have HL6 := Lib.hid hl6
  have HB35 := Lib.hid hb35
  have HSL := Lib.hid hsl
  clear ho4 hb4 hrd4 hr5 h51 h52 h53 h54 hb35 hof hq hl6 hqe hsl
  go_wp2_with (first
    | (at_builtin; refine wpList_append_eq rfl rfl HR5.out rfl rfl ?_; clear HR5)
    | (go_at_call 51; refine HOF.out.mono ?_; rintro e w9 ⟨rfl, rfl⟩))
  refine HL6.out.mono ?_
  rintro e w6 ⟨v6, rfl, ho6, hb6⟩
  obtain ⟨g6, n6, c6, rfl, HN6, hg6, -⟩ := ho6.formN (by rw [leBytes_length]; omega)
  have hl7 := refput_any w6 q 4 4 rfl HSL.out (by omega)
  have HL7 := Lib.hid hl7
  have H6 := Lib.hid (And.intro ho6 hb6)
  clear ho6 hb6 hl7
  go_wp2_with fail
  refine HL7.out.mono ?_
  rintro e w7 ⟨v7, rfl, ho7, hb7⟩
  obtain ⟨g7, n7, c7, rfl, HN7, hg7, -⟩ := ho7.formN (by rw [leBytes_length]; omega)
  have ho67 := H6.out.1.below hb7
  have hb57 : Below w5.heap.size w5 w7 := H6.out.2.trans (hb7.mono H6.out.2.size)
  obtain ⟨v8, w8, hr8, h81, h82, h83, h84⟩ := append_bytes (ty := 23) ho67 (ho7.rd (F := NoF) (fun _ _ => noF _)) (by rw [leBytes_length, leBytes_length]; omega) hb57.size
  obtain ⟨g8, n8, c8, rfl, HN8, hg8, -⟩ := OwnB.formN h81 (by rw [List.length_append, leBytes_length, leBytes_length]; omega)
  have hb58 : Below w5.heap.size w5 w8 := hb57.grown h82 hb57.size (fun k hk => (ho67.lt k hk).1)
  have hb38 : Below w3.heap.size w3 w8 := HB35.out.trans (hb58.mono HB35.out.size)
  have hrd8 : RdB NoF w8 (.slice (some ⟨g, 0, none⟩) n cp) (bodyR r) := RdB.below (HO3.out.rd (fun _ _ => noF _)) hb38
  obtain ⟨v9, w9, hr9, h91, h92, h93, h94⟩ := append_bytes (ty := 23) h81 hrd8 (by rw [List.length_append, leBytes_length, leBytes_length]; have := HN.out; omega) hb58.size
  obtain ⟨g9, n9, c9, rfl, HN9, hg9, -⟩ := OwnB.formN h91 (by rw [List.length_append, List.length_append, leBytes_length, leBytes_length]; omega)
  have hb59 : Below w5.heap.size w5 w9 := hb58.grown h92 hb58.size (fun k hk => (h81.lt k hk).1)
  have hb39 : Below w3.heap.size w3 w9 := HB35.out.trans (hb59.mono HB35.out.size)
  have HE : Hid (leBytes 4 n ++ leBytes 4 q ++ bodyR r = recB r lsn) := by unfold recB; rw [HN.out, ← HQ.out]; rfl
  have HR8 := Lib.hid hr8
  have HR9 := Lib.hid hr9
  have H9 := Lib.hid (And.intro h91 hb39)
  clear ho7 hb7 ho67 hb57 hr8 h81 h82 h83 h84 hb58 hb38 hrd8 hr9 h91 h92 h93 h94 hb59 hb39
  go_wp2_with (first
    | (at_builtin; refine wpList_append_eq rfl rfl HR8.out rfl rfl ?_; clear HR8)
    | (at_builtin; refine wpList_append_eq rfl rfl HR9.out rfl rfl ?_; clear HR9))
  go_ret2
  refine ⟨g9, n9, c9, rfl, ?_, ?_, HB3.out.trans (H9.out.2.mono HB3.out.size)⟩
  · rw [← HE.out]; exact HN9
  · rw [← HE.out]; exact ownsRow_base H9.out.1 (fun k hk => by have := (H9.out.1.lt k hk).1; have := HB3.out.size; have := HB35.out.size; omega)
end Mun
