/- Contracts of what sums and writes a record whole. -/
import Derived.Test.YtoblajbffnkkiaaRecC
set_option maxRecDepth 100000
set_option linter.unusedVariables false
set_option linter.unusedSimpArgs false
namespace Mun
open Go Go.RowKit
open Go.Proofs

theorem summed_any {F : Foot} (w : World) (lsn : Nat) (v : Value) (b : List UInt8) (hv : RdB F w v b) (hn : lsn < 18446744073709551616) :
    Calls Try.prog 36 #[.int .u64 lsn, v] w fun e w' => e = .returned (.int .u32 ((sumR lsn b).toNat : Int)) ∧ Below w.heap.size w w' := by
  obtain ⟨a, c, rfl, _, _⟩ := hv.form
  have hl := lay_any w w.heap.size (.slice none 0 0) [] lsn 8 8 rfl (by omega) (OwnB.nil _ _ _) (Nat.le_refl _) (by simp)
  have HV := Lib.hid hv
  have HL := Lib.hid hl
  clear hv hl
  go_enter Try.func36, Try.ntmps36
  go_wp2_with fail
  refine HL.out.mono ?_
  rintro e w1 ⟨u, rfl, ho, hb⟩
  rw [List.nil_append] at ho
  obtain ⟨g, cp, rfl, -⟩ := ho.at_ (by rw [leBytes_length]; omega)
  have hof := of_any (F := NoF) w1 _ (leBytes 8 lsn) _ rfl (ho.rd (fun _ _ => noF _))
  have hmo := more_any w1 _ (crcOf (leBytes 8 lsn)) _ b rfl (HV.out.below hb)
  have hq : crcMore (crcOf (leBytes 8 lsn)) b = sumR lsn b := by
    unfold sumR crcOf
    rw [crcMore_append]
  rw [hq] at hmo
  have HB := Lib.hid hb
  have HO := Lib.hid hof
  have HM := Lib.hid hmo
  clear hof hmo hq hb ho HL HV
  go_wp2_with fail
  refine HO.out.mono ?_
  rintro e w2 ⟨rfl, rfl⟩
  go_wp2_with fail
  refine HM.out.mono ?_
  rintro e w2 ⟨rfl, rfl⟩
  go_wp2
  go_ret
  exact ⟨rfl, HB.out⟩

theorem RecAt.open {F : Foot} {w : World} {r : PR} {x : RV} (h : RecAt F w r x) : ∃ da dn dc ca cn cc, x.dv = .slice da dn dc ∧ x.cv = .slice ca cn cc ∧ Hid (dn = r.data.length ∧ cn = r.cs.length ∧ dn ≤ maxLen ∧ cn ≤ maxLen) := by
  obtain ⟨da, dc, hdv, h1, h2⟩ := h.data.form
  obtain ⟨ca, cc, hcv, h3, h4⟩ := h.cs.row.form
  exact ⟨da, _, dc, ca, _, cc, hdv, hcv, rfl, h.len, Nat.le_trans h1 h2, Nat.le_trans h3 h4⟩

/-- the cells of a record -/
def rcs (r : PR) (dv cv : Value) : Array Value := #[.int .i64 r.kind, .int .u64 r.tx, .int .u64 r.prev, .int .u64 r.next, dv, cv]

theorem bytes_no {F : Foot} (w : World) (r : PR) (x : RV) (lsn : Nat) (h : RecAt F w r x) (hg : goodR r = false) :
    Calls Try.prog 10 #[rval r x, .int .u64 lsn] w fun e w' => e = .returned (.tuple #[.slice none 0 0, .int .i64 1]) ∧ Below w.heap.size w w' := by
  obtain ⟨da, dn, dc, ca, cn, cc, e1, e2, -⟩ := h.open
  have hgd := fun w1 (hb : Below w.heap.size w w1) => good_any w1 r x (h.below hb)
  unfold rval at hgd ⊢
  rw [e1, e2, hg] at hgd
  rw [e1, e2]
  have HG := Lib.hid hgd
  clear hgd h e1 e2 hg
  go_enter Try.func10, Try.ntmps10
  go_wp2_with fail
  refine (HG.out _ ((Below.refl _ _).alloc (Nat.le_refl _) _)).mono ?_
  rintro e w2 ⟨rfl, hb2⟩
  have HB : Hid (Below w.heap.size w w2) := ((Below.refl _ _).alloc (Nat.le_refl _) _).trans (hb2.mono (by simp))
  clear hb2
  go_wp2
  go_ret2
  exact ⟨rfl, HB.out⟩

theorem not_true_run : ∀ (b : Bool) (w : World), (Op.unary .not (.bool b)).run Try.prog w = .ok (.bool (!b)) w := fun _ _ => rfl

/-- the six cells of a record in a block that stays -/
theorem box6 {w w2 : World} {b : Nat} {r : PR} {dv cv : Value} {ty : TypeId} (h : w2.heap[b]? = some (.cells (rcs r dv cv) ty (0, 0))) :
    w2.cell? ⟨b, 0, none⟩ = some (.int .i64 r.kind) ∧ w2.cell? ⟨b, 1, none⟩ = some (.int .u64 r.tx) ∧ w2.cell? ⟨b, 2, none⟩ = some (.int .u64 r.prev) ∧ w2.cell? ⟨b, 3, none⟩ = some (.int .u64 r.next) ∧ w2.cell? ⟨b, 4, none⟩ = some dv ∧ w2.cell? ⟨b, 5, none⟩ = some cv :=
  ⟨cell_of_row _ _ 0 _ _ _ h, cell_of_row _ _ 1 _ _ _ h, cell_of_row _ _ 2 _ _ _ h, cell_of_row _ _ 3 _ _ _ h, cell_of_row _ _ 4 _ _ _ h, cell_of_row _ _ 5 _ _ _ h⟩

theorem box_at {w w2 : World} {cs : Array Value} {ty : TypeId} (hb : Below (w.alloc (.cells cs ty)).heap.size (w.alloc (.cells cs ty)) w2) : w2.heap[w.heap.size]? = some (.cells cs ty (0, 0)) := by
  rw [hb.block _ (by simp)]; exact heap_alloc_new w _

theorem bytes_big {F : Foot} (w : World) (r : PR) (x : RV) (lsn : Nat) (h : RecAt F w r x) (hg : goodR r = true) (hsz : szR r ≤ 4194304) (hbig : 1048576 < (bodyR r).length) :
    Calls Try.prog 10 #[rval r x, .int .u64 lsn] w fun e w' => e = .returned (.tuple #[.slice none 0 0, .int .i64 2]) ∧ Below w.heap.size w w' := by
  obtain ⟨da, dn, dc, ca, cn, cc, e1, e2, -⟩ := h.open
  have hgd := fun w1 (hb : Below w.heap.size w w1) => good_any w1 r x (h.below hb)
  have hbd := fun w1 (hb : Below w.heap.size w w1) => body_any w1 r x (h.below hb) hg hsz
  unfold rval at hgd hbd ⊢
  simp only [e1, e2, hg] at hgd hbd
  rw [e1, e2]
  have HG := Lib.hid hgd
  have HD := Lib.hid hbd
  have HBG := Lib.hid hbig
  have hb0 : Below w.heap.size w (w.alloc (.cells (rcs r (.slice da dn dc) (.slice ca cn cc)) 26)) := (Below.refl _ _).alloc (Nat.le_refl _) _
  have HB0 := Lib.hid hb0
  clear hgd hbd h e1 e2 hg hsz hbig hb0
  go_enter Try.func10, Try.ntmps10
  go_wp2_with fail
  refine (HG.out _ ((Below.refl _ _).alloc (Nat.le_refl _) _)).mono ?_
  rintro e w2 ⟨rfl, hb2⟩
  obtain ⟨c0, c1, c2, c3, c4, c5⟩ := box6 (w := w) (r := r) (box_at hb2)
  have HB : Hid (Below w.heap.size w w2) := ((Below.refl _ _).alloc (Nat.le_refl _) _).trans (hb2.mono (by simp))
  clear hb2
  go_wp2_with fail
  refine (HD.out _ HB.out).mono ?_
  rintro e w3 ⟨g, n, cp, rfl, HN, -, hb3⟩
  have HB3 : Hid (Below w.heap.size w w3) := HB.out.trans (hb3.mono HB.out.size)
  have hn : (1048576 : Int) < (n : Int) := by have := HN.out; have := HBG.out; omega
  clear hb3 c0 c1 c2 c3 c4 c5
  go_wp2
  go_ret2
  exact ⟨rfl, HB3.out⟩

/-- what Bytes hands back -/
def BytesOut (w : World) (l : List UInt8) (e : Ending) (w' : World) : Prop :=
  ∃ g n c, e = .returned (.tuple #[.slice (some ⟨g, 0, none⟩) n c, .int .i64 0]) ∧ Hid (n = l.length) ∧ OwnB w' w.heap.size 5 (.slice (some ⟨g, 0, none⟩) n c) l ∧ Below w.heap.size w w'

theorem OwnB.formN {w : World} {base : Nat} {v : Value} {l : List UInt8} (h : OwnB w base 5 v l) (hp : 0 < l.length) : ∃ g n c, v = .slice (some ⟨g, 0, none⟩) n c ∧ Hid (n = l.length) ∧ base ≤ g ∧ g < w.heap.size := by
  obtain ⟨g, c, rfl, h1, h2, -⟩ := h.at_ hp
  exact ⟨g, _, c, rfl, rfl, h1, h2⟩

set_option maxHeartbeats 1000000 in
theorem bytes_ok {F : Foot} (w : World) (r : PR) (x : RV) (lsn : Nat) (hl : lsn < 18446744073709551616) (h : RecAt F w r x) (hg : goodR r = true) (hsz : szR r ≤ 4194304) (hbig : (bodyR r).length ≤ 1048576) :
    Calls Try.prog 10 #[rval r x, .int .u64 lsn] w (BytesOut w (recB r lsn)) := by
  obtain ⟨da, dn, dc, ca, cn, cc, e1, e2, -⟩ := h.open
  have hgd := fun w1 (hb : Below w.heap.size w w1) => good_any w1 r x (h.below hb)
  have hbd := fun w1 (hb : Below w.heap.size w w1) => body_any w1 r x (h.below hb) hg hsz
  unfold rval at hgd hbd ⊢
  simp only [e1, e2, hg] at hgd hbd
  rw [e1, e2]
  have HG := Lib.hid hgd
  have HD := Lib.hid hbd
  have HBG := Lib.hid hbig
  have HLS := Lib.hid hl
  clear hgd hbd h e1 e2 hg hsz hbig hl
  go_enter Try.func10, Try.ntmps10
  go_wp2_with fail
  refine (HG.out _ ((Below.refl _ _).alloc (Nat.le_refl _) _)).mono ?_
  rintro e w2 ⟨rfl, hb2⟩
  obtain ⟨c0, c1, c2, c3, c4, c5⟩ := box6 (w := w) (r := r) (box_at hb2)
  have HB : Hid (Below w.heap.size w w2) := ((Below.refl _ _).alloc (Nat.le_refl _) _).trans (hb2.mono (by simp))
  clear hb2
  go_wp2_with fail
  refine (HD.out _ HB.out).mono ?_
  rintro e w3 ⟨g, n, cp, rfl, HN, ho3, hb3⟩
  have HB3 : Hid (Below w.heap.size w w3) := HB.out.trans (hb3.mono HB.out.size)
  have hn : (n : Int) ≤ 1048576 := by have := HN.out; have := HBG.out; omega
  have hmk := make_bytes0 (8 + n) (by omega) w3
  rw [show ((8 + n : Nat) : Int) = 8 + (n : Int) by omega] at hmk
  have hown0 : OwnB (w3.alloc (bobj (List.replicate (8 + n) 0))) w3.heap.size 5 (.slice (some ⟨w3.heap.size, 0, none⟩) 0 (8 + n)) [] := by
    refine ⟨by simp [bv], .inr ⟨_, _, _, rfl, Nat.le_refl _, heap_alloc_new w3 _, Nat.zero_le _, by unfold maxLen; omega, by simp [bv], by simp [bv]⟩⟩
  have hl1 := lay_any (w3.alloc (bobj (List.replicate (8 + n) 0))) w3.heap.size _ [] n 4 4 rfl (by omega) hown0 (by simp) (by simp)
  rw [List.nil_append] at hl1
  obtain ⟨w4, hw4⟩ : ∃ w4, w3.alloc (bobj (List.replicate (8 + n) 0)) = w4 := ⟨_, rfl⟩
  have hb4 : Below w3.heap.size w3 w4 := by rw [← hw4]; exact (Below.refl _ _).alloc (Nat.le_refl _) _
  rw [hw4] at hmk hl1
  have HL1 := Lib.hid hl1
  have HB4 := Lib.hid hb4
  have HO3 := Lib.hid ho3
  have HMK := Lib.hid hmk
  clear ho3 hb3 c0 c1 c2 c3 c4 c5 hown0 hl1 hb4 hw4 hmk
  have hmk := HMK.out
  go_wp2_with fail
  refine HL1.out.mono ?_
  rintro e w5 ⟨v5, rfl, ho5, hb5⟩
  obtain ⟨g5, n5, c5, rfl, HN5, hg5, -⟩ := ho5.formN (by rw [leBytes_length]; omega)
  have hb35 : Below w3.heap.size w3 w5 := HB4.out.trans hb5
  have hrd5 : RdB NoF w5 (.slice (some ⟨g, 0, none⟩) n cp) (bodyR r) := RdB.below (HO3.out.rd (fun _ _ => noF _)) hb35
  have hsm := summed_any w5 lsn _ _ hrd5 HLS.out
  have HB35 := Lib.hid hb35
  have HO5 := Lib.hid ho5
  have HSM := Lib.hid hsm
  have HR5 := Lib.hid hrd5
  have hs0 : (0 : Int) ≤ ((sumR lsn (bodyR r)).toNat : Int) := by omega
  have hs1 : ((sumR lsn (bodyR r)).toNat : Int) ≤ 4294967295 := by have := (sumR lsn (bodyR r)).isLt; omega
  clear hmk hb5 ho5 hb35 hsm hrd5
  go_wp2_with fail
  refine HSM.out.mono ?_
  rintro e w6 ⟨rfl, hb6⟩
  have ho6 := HO5.out.below hb6
  have hl6 := lay_any w6 w3.heap.size _ (leBytes 4 n) (sumR lsn (bodyR r)).toNat 4 4 rfl (by omega) ho6 (by have := HB35.out.size; have := hb6.size; omega) (by rw [leBytes_length]; omega)
  have HL6 := Lib.hid hl6
  have HB36 : Hid (Below w3.heap.size w3 w6) := HB35.out.trans (hb6.mono HB35.out.size)
  have HR6 := Lib.hid (HR5.out.below hb6)
  clear ho6 hl6 hb6
  go_wp2_with fail
  refine HL6.out.mono ?_
  rintro e w7 ⟨v7, rfl, ho7, hb7⟩
  obtain ⟨g7, n7, c7, rfl, HN7, hg7, -⟩ := ho7.formN (by simp only [List.length_append, leBytes_length]; omega)
  have hb37 : Below w3.heap.size w3 w7 := HB36.out.trans hb7
  have hrd7 : RdB NoF w7 (.slice (some ⟨g, 0, none⟩) n cp) (bodyR r) := RdB.below (HO3.out.rd (fun _ _ => noF _)) hb37
  obtain ⟨v8, w8, hr8, h81, h82, h83, h84⟩ := append_bytes (ty := 23) ho7 hrd7 (by simp only [List.length_append, leBytes_length]; have := HN.out; omega) hb37.size
  obtain ⟨g8, n8, c8, rfl, HN8, hg8, hlt8⟩ := OwnB.formN h81 (by simp only [List.length_append, leBytes_length]; omega)
  have hb38 : Below w3.heap.size w3 w8 := hb37.grown h82 hb37.size (fun k hk => (ho7.lt k hk).1)
  have HE : Hid (leBytes 4 n ++ leBytes 4 (sumR lsn (bodyR r)).toNat ++ bodyR r = recB r lsn) := by unfold recB; rw [HN.out]; rfl
  have HR8 := Lib.hid hr8
  have HB38 := Lib.hid hb38
  have HO8 := Lib.hid h81
  clear h81 h82 h83 h84 hr8 hb38 hrd7 hb37 ho7 hb7
  go_wp2_with (at_builtin; refine wpList_append_eq rfl rfl HR8.out rfl rfl ?_)
  go_ret2
  refine ⟨g8, n8, c8, rfl, ?_, ?_, HB3.out.trans (HB38.out.mono HB3.out.size)⟩
  · rw [← HE.out]; exact HN8
  · rw [← HE.out]; exact ownsRow_base HO8.out (fun k hk => by have := (HO8.out.lt k hk).1; have := HB3.out.size; omega)
end Mun
