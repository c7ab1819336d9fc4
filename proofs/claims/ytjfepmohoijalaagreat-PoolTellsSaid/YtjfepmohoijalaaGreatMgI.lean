/- Texts of mine, one behind the other: RecD, DiskC, RecE, RecF, RecG. -/
import Derived.Test.YtjfepmohoijalaaGreatMgH
import Derived.Test.YtjfepmohoijalaaGreatMgB
import Derived.OneCell
import Derived.Laws.Rows
import Derived.Laws.Tables
section
/- Contracts of what sums and writes a record whole. -/
set_option maxRecDepth 100000
set_option linter.unusedVariables false
set_option linter.unusedSimpArgs false
namespace Mun
open Go Go.RowKit
open Go.Proofs

theorem summed_any {F : Foot} (w : World) (lsn : Nat) (v : Value) (b : List UInt8) (hv : RdB F w v b) (hn : lsn < 18446744073709551616) :
    Calls Tryz.prog 90 #[.int .u64 lsn, v] w fun e w' => e = .returned (.int .u32 ((sumR lsn b).toNat : Int)) ∧ Below w.heap.size w w' := by
  obtain ⟨a, c, rfl, _, _⟩ := hv.form
  have hl := lay_any w w.heap.size (.slice none 0 0) [] lsn 8 8 rfl (by omega) (OwnB.nil _ _ _) (Nat.le_refl _) (by simp)
  have HV := Lib.hid hv
  have HL := Lib.hid hl
  clear hv hl
  go_enter Tryz.func90, Tryz.ntmps90
  go_wp2_with fail
  refine HL.out.mono ?_
  rintro e w1 ⟨u, rfl, ho, hb⟩
  rw [List.nil_append] at ho
  obtain ⟨g, cp, rfl, -⟩ := ho.at_ (by rw [leBytes_length]; omega)
  have hof := of_any (F := NoF) w1 _ (leBytes 8 lsn) _ rfl (ho.rd (fun _ _ => noF _))
  have hmo := more_any w1 _ (crcOf (leBytes 8 lsn)) _ b rfl (HV.out.below hb)
  have hq : crcMore (crcOf (leBytes 8 lsn)) b = sumR lsn b := by
    unfold sumR crcOf
    rw [crcMore_append]
  rw [hq] at hmo
  have HB := Lib.hid hb
  have HO := Lib.hid hof
  have HM := Lib.hid hmo
  clear hof hmo hq hb ho HL HV
  go_wp2_with fail
  refine HO.out.mono ?_
  rintro e w2 ⟨rfl, rfl⟩
  go_wp2_with fail
  refine HM.out.mono ?_
  rintro e w2 ⟨rfl, rfl⟩
  go_wp2
  go_ret
  exact ⟨rfl, HB.out⟩

theorem RecAt.open {F : Foot} {w : World} {r : PR} {x : RV} (h : RecAt F w r x) : ∃ da dn dc ca cn cc, x.dv = .slice da dn dc ∧ x.cv = .slice ca cn cc ∧ Hid (dn = r.data.length ∧ cn = r.cs.length ∧ dn ≤ maxLen ∧ cn ≤ maxLen) := by
  obtain ⟨da, dc, hdv, h1, h2⟩ := h.data.form
  obtain ⟨ca, cc, hcv, h3, h4⟩ := h.cs.row.form
  exact ⟨da, _, dc, ca, _, cc, hdv, hcv, rfl, h.len, Nat.le_trans h1 h2, Nat.le_trans h3 h4⟩

/-- the cells of a record -/
def rcs (r : PR) (dv cv : Value) : Array Value := #[.int .i64 r.kind, .int .u64 r.tx, .int .u64 r.prev, .int .u64 r.next, dv, cv]

theorem bytes_no {F : Foot} (w : World) (r : PR) (x : RV) (lsn : Nat) (h : RecAt F w r x) (hg : goodR r = false) :
    Calls Tryz.prog 53 #[rval r x, .int .u64 lsn] w fun e w' => e = .returned (.tuple #[.slice none 0 0, .int .i64 1]) ∧ Below w.heap.size w w' := by
  obtain ⟨da, dn, dc, ca, cn, cc, e1, e2, -⟩ := h.open
  have hgd := fun w1 (hb : Below w.heap.size w w1) => rgood_any w1 r x (h.below hb)
  unfold rval at hgd ⊢
  rw [e1, e2, hg] at hgd
  rw [e1, e2]
  have HG := Lib.hid hgd
  clear hgd h e1 e2 hg
  go_enter Tryz.func53, Tryz.ntmps53
  go_wp2_with fail
  refine (HG.out _ ((Below.refl _ _).alloc (Nat.le_refl _) _)).mono ?_
  rintro e w2 ⟨rfl, hb2⟩
  have HB : Hid (Below w.heap.size w w2) := ((Below.refl _ _).alloc (Nat.le_refl _) _).trans (hb2.mono (by simp))
  clear hb2
  go_wp2
  go_ret2
  exact ⟨rfl, HB.out⟩

theorem not_true_run : ∀ (b : Bool) (w : World), (Op.unary .not (.bool b)).run Tryz.prog w = .ok (.bool (!b)) w := fun _ _ => rfl

/-- the six cells of a record in a block that stays -/
theorem box6 {w w2 : World} {b : Nat} {r : PR} {dv cv : Value} {ty : TypeId} (h : w2.heap[b]? = some (.cells (rcs r dv cv) ty (0, 0))) :
    w2.cell? ⟨b, 0, none⟩ = some (.int .i64 r.kind) ∧ w2.cell? ⟨b, 1, none⟩ = some (.int .u64 r.tx) ∧ w2.cell? ⟨b, 2, none⟩ = some (.int .u64 r.prev) ∧ w2.cell? ⟨b, 3, none⟩ = some (.int .u64 r.next) ∧ w2.cell? ⟨b, 4, none⟩ = some dv ∧ w2.cell? ⟨b, 5, none⟩ = some cv :=
  ⟨cell_of_row _ _ 0 _ _ _ h, cell_of_row _ _ 1 _ _ _ h, cell_of_row _ _ 2 _ _ _ h, cell_of_row _ _ 3 _ _ _ h, cell_of_row _ _ 4 _ _ _ h, cell_of_row _ _ 5 _ _ _ h⟩

theorem box_at {w w2 : World} {cs : Array Value} {ty : TypeId} (hb : Below (w.alloc (.cells cs ty)).heap.size (w.alloc (.cells cs ty)) w2) : w2.heap[w.heap.size]? = some (.cells cs ty (0, 0)) := by
  rw [hb.block _ (by simp)]; exact heap_alloc_new w _

theorem bytes_big {F : Foot} (w : World) (r : PR) (x : RV) (lsn : Nat) (h : RecAt F w r x) (hg : goodR r = true) (hsz : szR r ≤ 4194304) (hbig : 1048576 < (bodyR r).length) :
    Calls Tryz.prog 53 #[rval r x, .int .u64 lsn] w fun e w' => e = .returned (.tuple #[.slice none 0 0, .int .i64 2]) ∧ Below w.heap.size w w' := by
  obtain ⟨da, dn, dc, ca, cn, cc, e1, e2, -⟩ := h.open
  have hgd := fun w1 (hb : Below w.heap.size w w1) => rgood_any w1 r x (h.below hb)
  have hbd := fun w1 (hb : Below w.heap.size w w1) => body_any w1 r x (h.below hb) hg hsz
  unfold rval at hgd hbd ⊢
  simp only [e1, e2, hg] at hgd hbd
  rw [e1, e2]
  have HG := Lib.hid hgd
  have HD := Lib.hid hbd
  have HBG := Lib.hid hbig
  have hb0 : Below w.heap.size w (w.alloc (.cells (rcs r (.slice da dn dc) (.slice ca cn cc)) 59)) := (Below.refl _ _).alloc (Nat.le_refl _) _
  have HB0 := Lib.hid hb0
  clear hgd hbd h e1 e2 hg hsz hbig hb0
  go_enter Tryz.func53, Tryz.ntmps53
  go_wp2_with fail
  refine (HG.out _ ((Below.refl _ _).alloc (Nat.le_refl _) _)).mono ?_
  rintro e w2 ⟨rfl, hb2⟩
  obtain ⟨c0, c1, c2, c3, c4, c5⟩ := box6 (w := w) (r := r) (box_at hb2)
  have HB : Hid (Below w.heap.size w w2) := ((Below.refl _ _).alloc (Nat.le_refl _) _).trans (hb2.mono (by simp))
  clear hb2
  go_wp2_with fail
  refine (HD.out _ HB.out).mono ?_
  rintro e w3 ⟨g, n, cp, rfl, HN, -, hb3⟩
  have HB3 : Hid (Below w.heap.size w w3) := HB.out.trans (hb3.mono HB.out.size)
  have hn : (1048576 : Int) < (n : Int) := by have := HN.out; have := HBG.out; omega
  clear hb3 c0 c1 c2 c3 c4 c5
  go_wp2
  go_ret2
  exact ⟨rfl, HB3.out⟩

/-- what Bytes hands back -/
def RBytesOut (w : World) (l : List UInt8) (e : Ending) (w' : World) : Prop :=
  ∃ g n c, e = .returned (.tuple #[.slice (some ⟨g, 0, none⟩) n c, .int .i64 0]) ∧ Hid (n = l.length) ∧ OwnB w' w.heap.size 5 (.slice (some ⟨g, 0, none⟩) n c) l ∧ Below w.heap.size w w'

theorem OwnB.formN {w : World} {base : Nat} {v : Value} {l : List UInt8} (h : OwnB w base 5 v l) (hp : 0 < l.length) : ∃ g n c, v = .slice (some ⟨g, 0, none⟩) n c ∧ Hid (n = l.length) ∧ base ≤ g ∧ g < w.heap.size := by
  obtain ⟨g, c, rfl, h1, h2, -⟩ := h.at_ hp
  exact ⟨g, _, c, rfl, rfl, h1, h2⟩

set_option maxHeartbeats 1000000 in
theorem bytes_ok {F : Foot} (w : World) (r : PR) (x : RV) (lsn : Nat) (hl : lsn < 18446744073709551616) (h : RecAt F w r x) (hg : goodR r = true) (hsz : szR r ≤ 4194304) (hbig : (bodyR r).length ≤ 1048576) :
    Calls Tryz.prog 53 #[rval r x, .int .u64 lsn] w (RBytesOut w (recB r lsn)) := by
  obtain ⟨da, dn, dc, ca, cn, cc, e1, e2, -⟩ := h.open
  have hgd := fun w1 (hb : Below w.heap.size w w1) => rgood_any w1 r x (h.below hb)
  have hbd := fun w1 (hb : Below w.heap.size w w1) => body_any w1 r x (h.below hb) hg hsz
  unfold rval at hgd hbd ⊢
  simp only [e1, e2, hg] at hgd hbd
  rw [e1, e2]
  have HG := Lib.hid hgd
  have HD := Lib.hid hbd
  have HBG := Lib.hid hbig
  have HLS := Lib.hid hl
  clear hgd hbd h e1 e2 hg hsz hbig hl
  go_enter Tryz.func53, Tryz.ntmps53
  go_wp2_with fail
  refine (HG.out _ ((Below.refl _ _).alloc (Nat.le_refl _) _)).mono ?_
  rintro e w2 ⟨rfl, hb2⟩
  obtain ⟨c0, c1, c2, c3, c4, c5⟩ := box6 (w := w) (r := r) (box_at hb2)
  have HB : Hid (Below w.heap.size w w2) := ((Below.refl _ _).alloc (Nat.le_refl _) _).trans (hb2.mono (by simp))
  clear hb2
  go_wp2_with fail
  refine (HD.out _ HB.out).mono ?_
  rintro e w3 ⟨g, n, cp, rfl, HN, ho3, hb3⟩
  have HB3 : Hid (Below w.heap.size w w3) := HB.out.trans (hb3.mono HB.out.size)
  have hn : (n : Int) ≤ 1048576 := by have := HN.out; have := HBG.out; omega
  have hmk := make_bytes0 (8 + n) (by omega) w3
  rw [show ((8 + n : Nat) : Int) = 8 + (n : Int) by omega] at hmk
  have hown0 : OwnB (w3.alloc (bobj (List.replicate (8 + n) 0))) w3.heap.size 5 (.slice (some ⟨w3.heap.size, 0, none⟩) 0 (8 + n)) [] := by
    refine ⟨by simp [bv], .inr ⟨_, _, _, rfl, Nat.le_refl _, heap_alloc_new w3 _, Nat.zero_le _, by unfold maxLen; omega, by simp [bv], by simp [bv]⟩⟩
  have hl1 := lay_any (w3.alloc (bobj (List.replicate (8 + n) 0))) w3.heap.size _ [] n 4 4 rfl (by omega) hown0 (by simp) (by simp)
  rw [List.nil_append] at hl1
  obtain ⟨w4, hw4⟩ : ∃ w4, w3.alloc (bobj (List.replicate (8 + n) 0)) = w4 := ⟨_, rfl⟩
  have hb4 : Below w3.heap.size w3 w4 := by rw [← hw4]; exact (Below.refl _ _).alloc (Nat.le_refl _) _
  rw [hw4] at hmk hl1
  have HL1 := Lib.hid hl1
  have HB4 := Lib.hid hb4
  have HO3 := Lib.hid ho3
  have HMK := Lib.hid hmk
  clear ho3 hb3 c0 c1 c2 c3 c4 c5 hown0 hl1 hb4 hw4 hmk
  have hmk := HMK.out
  go_wp2_with fail
  refine HL1.out.mono ?_
  rintro e w5 ⟨v5, rfl, ho5, hb5⟩
  obtain ⟨g5, n5, c5, rfl, HN5, hg5, -⟩ := ho5.formN (by rw [leBytes_length]; omega)
  have hb35 : Below w3.heap.size w3 w5 := HB4.out.trans hb5
  have hrd5 : RdB NoF w5 (.slice (some ⟨g, 0, none⟩) n cp) (bodyR r) := RdB.below (HO3.out.rd (fun _ _ => noF _)) hb35
  have hsm := summed_any w5 lsn _ _ hrd5 HLS.out
  have HB35 := Lib.hid hb35
  have HO5 := Lib.hid ho5
  have HSM := Lib.hid hsm
  have HR5 := Lib.hid hrd5
  have hs0 : (0 : Int) ≤ ((sumR lsn (bodyR r)).toNat : Int) := by omega
  have hs1 : ((sumR lsn (bodyR r)).toNat : Int) ≤ 4294967295 := by have := (sumR lsn (bodyR r)).isLt; omega
  clear hmk hb5 ho5 hb35 hsm hrd5
  go_wp2_with fail
  refine HSM.out.mono ?_
  rintro e w6 ⟨rfl, hb6⟩
  have ho6 := HO5.out.below hb6
  have hl6 := lay_any w6 w3.heap.size _ (leBytes 4 n) (sumR lsn (bodyR r)).toNat 4 4 rfl (by omega) ho6 (by have := HB35.out.size; have := hb6.size; omega) (by rw [leBytes_length]; omega)
  have HL6 := Lib.hid hl6
  have HB36 : Hid (Below w3.heap.size w3 w6) := HB35.out.trans (hb6.mono HB35.out.size)
  have HR6 := Lib.hid (HR5.out.below hb6)
  clear ho6 hl6 hb6
  go_wp2_with fail
  refine HL6.out.mono ?_
  rintro e w7 ⟨v7, rfl, ho7, hb7⟩
  obtain ⟨g7, n7, c7, rfl, HN7, hg7, -⟩ := ho7.formN (by simp only [List.length_append, leBytes_length]; omega)
  have hb37 : Below w3.heap.size w3 w7 := HB36.out.trans hb7
  have hrd7 : RdB NoF w7 (.slice (some ⟨g, 0, none⟩) n cp) (bodyR r) := RdB.below (HO3.out.rd (fun _ _ => noF _)) hb37
  obtain ⟨v8, w8, hr8, h81, h82, h83, h84⟩ := append_bytes (ty := 41) ho7 hrd7 (by simp only [List.length_append, leBytes_length]; have := HN.out; omega) hb37.size
  obtain ⟨g8, n8, c8, rfl, HN8, hg8, hlt8⟩ := OwnB.formN h81 (by simp only [List.length_append, leBytes_length]; omega)
  have hb38 : Below w3.heap.size w3 w8 := hb37.grown h82 hb37.size (fun k hk => (ho7.lt k hk).1)
  have HE : Hid (leBytes 4 n ++ leBytes 4 (sumR lsn (bodyR r)).toNat ++ bodyR r = recB r lsn) := by unfold recB; rw [HN.out]; rfl
  have HR8 := Lib.hid hr8
  have HB38 := Lib.hid hb38
  have HO8 := Lib.hid h81
  clear h81 h82 h83 h84 hr8 hb38 hrd7 hb37 ho7 hb7
  go_wp2_with (at_builtin; refine wpList_append_eq rfl rfl HR8.out rfl rfl ?_)
  go_ret2
  refine ⟨g8, n8, c8, rfl, ?_, ?_, HB3.out.trans (HB38.out.mono HB3.out.size)⟩
  · rw [← HE.out]; exact HN8
  · rw [← HE.out]; exact ownsRow_base HO8.out (fun k hk => by have := (HO8.out.lt k hk).1; have := HB3.out.size; omega)
end Mun
end

section
/- Contracts of a device's operations on the log and the mark. -/
set_option maxRecDepth 100000
set_option linter.unusedVariables false
namespace Mun
open Go Go.RowKit
open Go.Proofs

theorem slice_bytes_to {F : Foot} {w : World} {a : Option Addr} {n c : Nat} {l : List UInt8} (h : RdB F w (.slice a n c) l) (hi : Nat) (h2 : hi ≤ l.length) :
    ∃ a1 c1, (∀ W, (Instr.sliceAt 41 (.slice a n c) none (some (.int .i64 hi)) none).run Tryz.prog W = .ok (.slice a1 hi c1) W) ∧
      RdB F w (.slice a1 hi c1) (l.take hi) := by
  have hp := h.part 0 hi (Nat.zero_le _) h2
  obtain ⟨a', c', hv, hc1, hc2⟩ := h.form
  injection hv with e1 e2 e3
  subst e1 e2 e3
  rw [Nat.sub_zero, List.drop_zero] at hp
  refine ⟨_, _, fun W => ?_, hp⟩
  obtain ⟨i, hi', hz, hs1, hs2⟩ := info_of info_u8
  have he : Tryz.prog.elem 41 = 5 := by kernel_rfl
  have ht : Tryz.prog.underlying 41 = some (.slice (Tryz.prog.elem 41)) := by rw [he]; exact Tryz.underlying41
  rw [run_sliceAt_slice _ _ _ _ _ _ ht, run_slice_h _ _ _ _ _ ht _ _ (by omega) (by omega), he]
  simp [Go.sizeOf, typeInfo, hi', hs1, sliced]

theorem slice_bytes_from {F : Foot} {w : World} {a : Option Addr} {n c : Nat} {l : List UInt8} (h : RdB F w (.slice a n c) l) (lo : Nat) (h2 : lo ≤ l.length) :
    ∃ a1 c1, (∀ W, (Instr.sliceAt 41 (.slice a n c) (some (.int .i64 lo)) none none).run Tryz.prog W = .ok (.slice a1 (n - lo) c1) W) ∧
      RdB F w (.slice a1 (n - lo) c1) (l.drop lo) := by
  obtain ⟨a', c', hv, hc1, hc2⟩ := h.form
  have hp := h.part lo l.length h2 (Nat.le_refl _)
  injection hv with e1 e2 e3
  subst e1 e2 e3
  rw [List.take_of_length_le (by rw [List.length_drop]; exact Nat.le_refl _)] at hp
  refine ⟨_, _, fun W => ?_, hp⟩
  obtain ⟨i, hi', hz, hs1, hs2⟩ := info_of info_u8
  have he : Tryz.prog.elem 41 = 5 := by kernel_rfl
  have ht : Tryz.prog.underlying 41 = some (.slice (Tryz.prog.elem 41)) := by rw [he]; exact Tryz.underlying41
  rw [run_sliceAt_slice _ _ _ _ _ _ ht, run_slice_l _ _ _ _ _ ht _ _ (by omega) (by omega), he]
  simp [Go.sizeOf, typeInfo, hi', hs1, sliced]

section
variable {w w' : World} {D : Nat} {m m' : DM} {d : DV}

theorem dfoot_sub (d : DV) (lv mv tv tl : Value) (n : Nat) (hL : ∀ k, lv.ownBlock = some k → d.lv.ownBlock = some k ∨ n ≤ k) : ∀ k, k < n → dfoot D { d with lv := lv, mv := mv, tv := tv, tl := tl } k → dfoot D d k := by
  intro k hk h
  rcases h with h | h | h | h | h
  · exact .inl h
  · exact .inr (.inl h)
  · exact .inr (.inr (.inl h))
  · exact .inr (.inr (.inr (.inl h)))
  · rcases hL k h with h | h
    · exact .inr (.inr (.inr (.inr h)))
    · omega

theorem dfootE_sub (d : DV) (lv mv tv tl : Value) (n : Nat) (hL : ∀ k, lv.ownBlock = some k → d.lv.ownBlock = some k ∨ n ≤ k) : ∀ k, k < n → dfootE D { d with lv := lv, mv := mv, tv := tv, tl := tl } k → dfootE D d k := by
  intro k hk h
  rcases h with h | h
  · exact .inl (dfoot_sub d lv mv tv tl n hL k hk h)
  · exact .inr h

/-- the log, the mark, the torn write, the tail, the numbers have turned: no page has -/
theorem DRep.upd (h : DRep w D (dfootE D d) m d) (lv mv tv tl : Value)
    (hsame : ∀ k, k < w.heap.size → k ≠ D → d.lv.ownBlock ≠ some k → w'.heap[k]? = w.heap[k]?)
    (hblk : w'.heap[D]? = some (.cells (dcells m' m'.base.length { d with lv := lv, mv := mv, tv := tv, tl := tl }) 95 (0, 0)))
    (hb : m'.base = m.base) (hw : m'.waiting = m.waiting) (hL : ∀ k, lv.ownBlock = some k → d.lv.ownBlock = some k ∨ w.heap.size ≤ k)
    (hlog : OwnB w' 0 5 lv m'.log)
    (hmark : (mv = d.mv ∧ m'.mark = m.mark) ∨ RdB (dfootE D { d with lv := lv, mv := mv, tv := tv, tl := tl }) w' mv m'.mark)
    (htail : (tl = d.tl ∧ m'.tail = m.tail) ∨ RdB (dfootE D { d with lv := lv, mv := mv, tv := tv, tl := tl }) w' tl m'.tail)
    (htorn : (tv = d.tv ∧ m'.torn = m.torn) ∨ TornV (dfootE D { d with lv := lv, mv := mv, tv := tv, tl := tl }) w' tv m'.torn) :
    DRep w' D (dfootE D { d with lv := lv, mv := mv, tv := tv, tl := tl }) m' { d with lv := lv, mv := mv, tv := tv, tl := tl } := by
  have ko : ∀ k, k < w.heap.size → ¬ dfootE D d k → w'.heap[k]? = w.heap[k]? := fun k h1 h2 => hsame k h1 (fun e => h2 (.inl (.inl e))) (fun e => h2 (.inl (.inr (.inr (.inr (.inr e))))))
  have hF := dfootE_sub (D := D) d lv mv tv tl w.heap.size hL
  refine ⟨hblk, (hsame _ (Array.getElem?_eq_some_iff.1 h.pgs).1 (Ne.symm h.neP) h.nePL).trans h.pgs, by rw [hb]; exact h.pgn, fun i hi => ?_,
    ownsRow_keep h.wrow (fun k h' => hsame k (h.wrow.lt k h').2 (fun e => h.neW (e ▸ h')) (fun e => h.neWL k h' e)), by rw [hw]; exact h.wws,
    fun p hp => RdV.keep (h.wrd p hp) ko hF, h.mp.keep (hsame _ h.mp.lt (Ne.symm h.neM) h.neML), h.mpe, h.mpk, hlog, ?_, ?_, ?_,
    fun k hE => lt_of_same (h.elt k hE) (hsame k (h.elt k hE) (fun e => h.eown k hE (.inl e)) (fun e => h.eown k hE (.inr (.inr (.inr (.inr e)))))),
    fun k hE hd => h.eown k hE (dfoot_sub d lv mv tv tl w.heap.size hL k (h.elt k hE) hd)⟩
  · obtain ⟨v, h1, h2⟩ := h.pgv i (by rw [hb] at hi; exact hi)
    refine ⟨v, h1, ?_⟩
    have : m'.base[i] = m.base[i]'(by rw [hb] at hi; exact hi) := by congr 1
    rw [this]
    exact h2.keep ko hF
  · rcases hmark with ⟨h1, h2⟩ | h1
    · show RdB _ w' mv m'.mark
      rw [h1, h2]; subst h1; exact RdV.keep h.mark ko hF
    · exact h1
  · rcases htail with ⟨h1, h2⟩ | h1
    · show RdB _ w' tl m'.tail
      rw [h1, h2]; subst h1; exact RdV.keep h.tail ko hF
    · exact h1
  · rcases htorn with ⟨h1, h2⟩ | h1
    · show TornV _ w' tv m'.torn
      rw [h1, h2]; subst h1; exact h.torn.keep ko hF
    · exact h1

theorem chg_alloc {F : Foot} (w : World) (o : Obj) : Chg F F w (w.alloc o) := Chg.of_below ((Below.refl _ _).alloc (Nat.le_refl _) o) F

/-- a field of the device's block is set to bytes just made -/
theorem same_allocSet (w : World) (o : Obj) (D i : Nat) (v : Value) (k : Nat) (hk : k < w.heap.size) (hD : k ≠ D) : ((w.alloc o).setCell ⟨D, i, none⟩ v).heap[k]? = w.heap[k]? :=
  (setCell_heap _ _ v k hD).trans (alloc_get w o k hk)

theorem blk_allocSet {w : World} (o : Obj) {D i : Nat} {c : Array Value} {e : TypeId} (h : w.heap[D]? = some (.cells c e (0, 0))) (v : Value) :
    ((w.alloc o).setCell ⟨D, i, none⟩ v).heap[D]? = some (.cells (c.setIfInBounds i v) e (0, 0)) :=
  setCell_blk ((alloc_get w o D (Array.getElem?_eq_some_iff.1 h).1).trans h) v

theorem RdB.set {F : Foot} {w : World} {v : Value} {l : List UInt8} (h : RdB F w v l) (a : Addr) (u : Value) (hF : F a.block) : RdB F (w.setCell a u) v l := h.chg (chg_setCell w a u hF)

theorem OwnB.setOther {w : World} {base : Nat} {e : TypeId} {v : Value} {l : List UInt8} (h : OwnB w base e v l) (a : Addr) (u : Value) (hne : v.ownBlock ≠ some a.block) : OwnB (w.setCell a u) base e v l :=
  ownsRow_keep h (fun k hk => setCell_heap w a u k (fun e => hne (e ▸ hk)))

theorem maxLen_ge {n : Nat} (h : n ≤ 140737488355328) : n ≤ maxLen := by unfold maxLen; omega

theorem DRep.setLog (h : DRep w D (dfootE D d) m d) (l : List UInt8) (hl : l.length ≤ 140737488355328) :
    DRep ((w.alloc (bobj l)).setCell ⟨D, 4, none⟩ (.slice (some ⟨w.heap.size, 0, none⟩) l.length l.length)) D (dfootE D { d with lv := .slice (some ⟨w.heap.size, 0, none⟩) l.length l.length }) { m with log := l } { d with lv := .slice (some ⟨w.heap.size, 0, none⟩) l.length l.length } := by
  refine h.upd (.slice (some ⟨w.heap.size, 0, none⟩) l.length l.length) d.mv d.tv d.tl (fun k hk hD _ => same_allocSet w _ D 4 _ k hk hD) ?_ rfl rfl ?_ ?_ (.inl ⟨rfl, rfl⟩) (.inl ⟨rfl, rfl⟩) (.inl ⟨rfl, rfl⟩)
  · rw [blk_allocSet _ h.blk]
    simp [dcells]
  · intro k hk
    simp only [Value.ownBlock, Option.some.injEq] at hk
    exact .inr (by omega)
  · refine OwnB.setOther (bobj_own w l _ 0 rfl (maxLen_ge hl) (Nat.zero_le _)) _ _ ?_
    simp only [Value.ownBlock, ne_eq, Option.some.injEq]
    have := h.D_lt
    omega

theorem chg_setLog (h : DRep w D (dfootE D d) m d) (l : List UInt8) :
    Chg (dfoot D d) (dfoot D { d with lv := .slice (some ⟨w.heap.size, 0, none⟩) l.length l.length }) w ((w.alloc (bobj l)).setCell ⟨D, 4, none⟩ (.slice (some ⟨w.heap.size, 0, none⟩) l.length l.length)) := by
  refine ⟨rfl, rfl, rfl, ?_, fun k hk hn => same_allocSet w _ D 4 _ k hk (fun e => hn (.inl e)), ?_⟩
  · rw [setCell_size, World.size_alloc]; omega
  · intro k hk
    rcases hk with h | h | h | h | h
    · exact .inl (.inl h)
    · exact .inl (.inr (.inl h))
    · exact .inl (.inr (.inr (.inl h)))
    · exact .inl (.inr (.inr (.inr (.inl h))))
    · simp only [Value.ownBlock, Option.some.injEq] at h
      refine .inr ?_
      rw [setCell_size, World.size_alloc]; omega

theorem new_rd (h : DRep w D (dfootE D d) m d) (l : List UInt8) (hl : l.length ≤ 140737488355328) (i : Nat) (u : Value) : RdB (dfootE D d) ((w.alloc (bobj l)).setCell ⟨D, i, none⟩ u) (.slice (some ⟨w.heap.size, 0, none⟩) l.length l.length) l :=
  (bobj_rd w l _ rfl (maxLen_ge hl) (fun hk => absurd (h.foot_lt _ hk) (Nat.lt_irrefl _))).set _ u (.inl (.inl rfl))

theorem DRep.setMark (h : DRep w D (dfootE D d) m d) (l : List UInt8) (hl : l.length ≤ 140737488355328) :
    DRep ((w.alloc (bobj l)).setCell ⟨D, 6, none⟩ (.slice (some ⟨w.heap.size, 0, none⟩) l.length l.length)) D (dfootE D d) { m with mark := l } { d with mv := .slice (some ⟨w.heap.size, 0, none⟩) l.length l.length } := by
  refine h.upd d.lv (.slice (some ⟨w.heap.size, 0, none⟩) l.length l.length) d.tv d.tl (fun k hk hD _ => same_allocSet w _ D 6 _ k hk hD) ?_ rfl rfl (fun k hk => .inl hk) ?_ (.inr ?_) (.inl ⟨rfl, rfl⟩) (.inl ⟨rfl, rfl⟩)
  · rw [blk_allocSet _ h.blk]
    simp [dcells]
  · exact OwnB.setOther (OwnB.below h.log ((Below.refl _ _).alloc (Nat.le_refl _) _)) _ _ h.neL
  · exact new_rd h l hl 6 _

theorem DRep.setTail (h : DRep w D (dfootE D d) m d) (l : List UInt8) (hl : l.length ≤ 140737488355328) :
    DRep ((w.alloc (bobj l)).setCell ⟨D, 11, none⟩ (.slice (some ⟨w.heap.size, 0, none⟩) l.length l.length)) D (dfootE D d) { m with tail := l } { d with tl := .slice (some ⟨w.heap.size, 0, none⟩) l.length l.length } := by
  refine h.upd d.lv d.mv d.tv (.slice (some ⟨w.heap.size, 0, none⟩) l.length l.length) (fun k hk hD _ => same_allocSet w _ D 11 _ k hk hD) ?_ rfl rfl (fun k hk => .inl hk) ?_ (.inl ⟨rfl, rfl⟩) (.inr ?_) (.inl ⟨rfl, rfl⟩)
  · rw [blk_allocSet _ h.blk]
    simp [dcells]
  · exact OwnB.setOther (OwnB.below h.log ((Below.refl _ _).alloc (Nat.le_refl _) _)) _ _ h.neL
  · exact new_rd h l hl 11 _

theorem chg_allocSet (w : World) (o : Obj) (D i : Nat) (v : Value) (d : DV) : Chg (dfoot D d) (dfoot D d) w ((w.alloc o).setCell ⟨D, i, none⟩ v) := (chg_alloc w o).trans (chg_setCell _ _ _ (.inl rfl))

/-- the answer of an operation -/
def DPost (w : World) (D : Nat) (E F : Foot) (r : DM × Int) : Ending → World → Prop := fun e w' => e = .returned (.int .i64 r.2) ∧ ∃ F', DiskAt w' D E F' r.1 ∧ Chg F F' w w'

theorem DPost.same {E F : Foot} {r : DM × Int} {k : Int} (h : DiskAt w D E F m) (hr : r = (m, k)) : DPost w D E F r (.returned (.int .i64 k)) w := by
  subst hr
  exact ⟨rfl, F, h, Chg.refl _ _⟩
theorem DPost.of {d' : DV} {E F F' G : Foot} {r : DM × Int} {k : Int} (hr : r = (m', k)) (h : DRep w' D G m' d') (hF : F' = dfoot D d') (hwf : m'.Wf) (hc : Chg F F' w w') (hG : G = dfootE D d' := by rfl) (hE : d'.E = E := by rfl) : DPost w D E F r (.returned (.int .i64 k)) w' := by
  subst hr
  subst hF
  subst hG
  exact ⟨rfl, _, ⟨d', rfl, hE, h, hwf⟩, hc⟩
end

section
variable (w : World) (D : Nat) (F : Foot) {E : Foot} (m : DM)

theorem spend_base (m : DM) : m.spend.base = m.base := by unfold DM.spend; split <;> rfl
theorem spend_log (m : DM) : m.spend.log = m.log := by unfold DM.spend; split <;> rfl
theorem spend_room (m : DM) : m.spend.room = m.room := by unfold DM.spend; split <;> rfl
theorem spend_tail (m : DM) : m.spend.tail = m.tail := by unfold DM.spend; split <;> rfl
theorem spend_dead {m : DM} (h : m.fuse = 0) : m.spend.dead = true := by unfold DM.spend; rw [if_pos h]
theorem spend_certain (m : DM) : m.spend.certain = m.certain := by unfold DM.spend; split <;> rfl

theorem d_force (h : DiskAt w D E F m) (ho : m.ops < 4398046511104) : Calls Tryz.prog 73 #[.pointer (some ⟨D, 0, none⟩)] w (DPost w D E F m.force) := by
  have h0 := h
  obtain ⟨d, rfl, rfl, h, hwf⟩ := h
  have c9 := h.cell 9
  simp only [dcells] at c9
  cases hd : m.dead with
  | true =>
    rw [hd] at c9
    have HR : Hid (m.force = (m, 9)) := by show _ = _; simp [DM.force, hd]
    have HO := Lib.hid h0
    clear h0 h hd hwf
    go_enter Tryz.func73, Tryz.ntmps73
    go_wp2
    go_ret
    exact DPost.same HO.out HR.out
  | false =>
    rw [hd] at c9
    have hct := d_counts_rep w D m d h hwf ho
    by_cases hf : m.fuse = 0
    · have HR : Hid (m.force = (m.spend, 9)) := by show _ = _; simp [DM.force, hd, hf]
      rw [show decide (m.fuse ≠ 0) = false by simp [hf]] at hct
      clear h0 h hd hf
      have HW := Lib.hid (DM.spend_wf hwf)
      clear hwf
      go_enter Tryz.func73, Tryz.ntmps73
      go_wp2_with fail
      refine hct.mono ?_
      rintro e w1 ⟨rfl, hr1, hc1⟩
      have HD := Lib.hid hr1
      have HC := Lib.hid hc1
      clear hr1 hc1 hct
      go_wp2
      go_ret
      exact DPost.of HR.out HD.out rfl HW.out HC.out
    · have HR : Hid (m.force = ({ m.spend with certain := m.log.length }, 0)) := by show _ = _; simp [DM.force, hd, hf]
      rw [show decide (m.fuse ≠ 0) = true by simp [hf]] at hct
      have HW := Lib.hid (DM.spend_wf hwf)
      clear h0 h hd hf hwf
      go_enter Tryz.func73, Tryz.ntmps73
      go_wp2_with fail
      refine hct.mono ?_
      rintro e w1 ⟨rfl, hr1, hc1⟩
      have HD := Lib.hid hr1
      have HC := Lib.hid hc1
      have k4 := hr1.cell 4
      have k5 := hr1.cell 5
      have f5 := hr1.frozen 5
      simp only [dcells] at k4 k5
      have hrd : RdB NoF w1 d.lv m.log := by
        have := hr1.log.rd (F := NoF) (fun _ _ => noF _)
        rwa [spend_log] at this
      obtain ⟨a, n, c, hlv, HN, hlc, hcm⟩ := hrd.formN
      rw [hlv] at k4
      clear hr1 hc1 hct hrd
      go_wp2
      go_ret
      rw [HN.out]
      refine DPost.of HR.out (HD.out.set1 5 _ _ ?_ rfl rfl rfl rfl rfl rfl) rfl ⟨by rw [spend_log]; exact Nat.le_refl _, HW.out.room, HW.out.room24, HW.out.pages, HW.out.npages, HW.out.waiting, HW.out.nwait, HW.out.mark, HW.out.fuse1, HW.out.fuse2, HW.out.torn, HW.out.alive⟩ (HC.out.trans (chg_setCell _ _ _ (.inl rfl)))
      simp [dcells]

theorem d_trim (h : DiskAt w D E F m) (ho : m.ops < 4398046511104) (q : Int) : Calls Tryz.prog 71 #[.pointer (some ⟨D, 0, none⟩), .int .i64 q] w (DPost w D E F (m.trim q)) := by
  have h0 := h
  obtain ⟨d, rfl, rfl, h, hwf⟩ := h
  have c9 := h.cell 9
  have c4 := h.cell 4
  simp only [dcells] at c9 c4
  have hrd : RdB NoF w d.lv m.log := h.log.rd (fun _ _ => noF _)
  have hlm : m.log.length ≤ 140737488355328 := by have := hwf.room; have := hwf.room24; omega
  obtain ⟨a, n, c, hlv, HN, hlc, hcm⟩ := hrd.formN
  rw [hlv] at c4
  have HLV := Lib.hid hlv
  cases hd : m.dead with
  | true =>
    rw [hd] at c9
    have HR : Hid (m.trim q = (m, 9)) := by show _ = _; simp [DM.trim, hd]
    have HO := Lib.hid h0
    clear h0 h hd hwf hrd hlm hlv
    go_enter Tryz.func71, Tryz.ntmps71
    go_wp2
    go_ret
    exact DPost.same HO.out HR.out
  | false =>
    rw [hd] at c9
    by_cases hq0 : q < 0
    · have HR : Hid (m.trim q = (m, 1)) := by show _ = _; simp [DM.trim, hd, hq0]
      have HO := Lib.hid h0
      clear h0 h hd hwf hrd hlm hlv
      go_enter Tryz.func71, Tryz.ntmps71
      go_wp2
      go_ret
      exact DPost.same HO.out HR.out
    · by_cases hqn : q > n
      · have HR : Hid (m.trim q = (m, 1)) := by show _ = _; rw [HN.out] at hqn; simp [DM.trim, hd]; omega
        have HO := Lib.hid h0
        clear h0 h hd hwf hrd hlm hlv
        go_enter Tryz.func71, Tryz.ntmps71
        go_wp2
        go_ret
        exact DPost.same HO.out HR.out
      · have hct := d_counts_rep w D m d h hwf ho
        have hnot : ¬ (q < 0 ∨ (m.log.length : Int) < q) := by rw [HN.out] at hqn; omega
        by_cases hf : m.fuse = 0
        · have HR : Hid (m.trim q = (m.spend, 9)) := by show _ = _; unfold DM.trim; rw [hd, if_neg (by simp), if_neg hnot, if_pos hf]
          rw [show decide (m.fuse ≠ 0) = false by simp [hf]] at hct
          have HW := Lib.hid (DM.spend_wf hwf)
          clear h0 h hd hf hwf hrd hlm hlv hnot
          go_enter Tryz.func71, Tryz.ntmps71
          go_wp2_with fail
          refine hct.mono ?_
          rintro e w1 ⟨rfl, hr1, hc1⟩
          have HD := Lib.hid hr1
          have HC := Lib.hid hc1
          clear hr1 hc1 hct
          go_wp2
          go_ret
          exact DPost.of HR.out HD.out rfl HW.out HC.out
        · have HR : Hid (m.trim q = ({ m.spend with log := m.log.take q.toNat, certain := q.toNat }, 0)) := by show _ = _; unfold DM.trim; rw [hd, if_neg (by simp), if_neg hnot, if_neg hf]
          rw [show decide (m.fuse ≠ 0) = true by simp [hf]] at hct
          have HW := Lib.hid (DM.spend_wf hwf)
          obtain ⟨p, rfl⟩ : ∃ p : Nat, q = p := ⟨q.toNat, by omega⟩
          have hpn : p ≤ n := by omega
          have HP : Hid (p ≤ m.log.length) := by show _ ≤ _; rw [← HN.out]; exact hpn
          have HL := Lib.hid hlm
          rw [Int.toNat_natCast] at HR
          obtain ⟨L, hLg⟩ : ∃ L, m.log.take p = L := ⟨_, rfl⟩
          rw [hLg] at HR
          have HLP : Hid (L.length = p) := by show _ = _; rw [← hLg, List.length_take]; exact Nat.min_eq_left HP.out
          have HG := Lib.hid hLg
          have HLL : Hid (L.length ≤ 140737488355328) := by show _ ≤ _; rw [HLP.out]; exact Nat.le_trans HP.out hlm
          clear h0 h hd hf hwf hrd hlm hlv hnot hqn hq0 hLg
          go_enter Tryz.func71, Tryz.ntmps71
          go_wp2_with fail
          refine hct.mono ?_
          rintro e w1 ⟨rfl, hr1, hc1⟩
          have HD := Lib.hid hr1
          have HC := Lib.hid hc1
          have k4 := hr1.cell 4
          have k5 := hr1.cell 5
          simp only [dcells] at k4 k5
          rw [HLV.out] at k4
          have hrd1 : RdB NoF w1 d.lv m.log := by
            have := hr1.log.rd (F := NoF) (fun _ _ => noF _)
            rwa [spend_log] at this
          rw [HLV.out] at hrd1
          obtain ⟨a1, c1, hsl, hrd2⟩ := slice_bytes_to hrd1 p HP.out
          rw [HG.out] at hrd2
          have HV := Lib.hid hrd2
          clear hr1 hc1 hct hrd1 hrd2
          go_wp2_with fail
          refine (clone6 w1 _ L HV.out HLL.out).mono ?_
          rintro e w2 ⟨rfl, hw2⟩
          have hr2 : DRep w2 D (dfootE D d) m.spend d := by rw [← hw2]; exact HD.out.alloc _
          have q4 := hr2.cell 4
          have q5 := hr2.cell 5
          have g4 := hr2.frozen 4
          have g5 := hr2.frozen 5
          simp only [dcells] at q4 q5
          have HW2 := Lib.hid hw2
          clear hr2 hw2
          go_wp2
          go_ret
          rw [← HW2.out]
          have hA := HD.out.setLog L HLL.out
          refine DPost.of HR.out (hA.set1 5 _ _ ?_ rfl rfl rfl rfl rfl rfl) rfl ⟨?_, ?_, HW.out.room24, HW.out.pages, HW.out.npages, HW.out.waiting, HW.out.nwait, HW.out.mark, HW.out.fuse1, HW.out.fuse2, HW.out.torn, HW.out.alive⟩ ((HC.out.trans (chg_setLog HD.out _)).trans (chg_setCell _ _ _ (by exact .inl rfl)))
          · rw [HLP.out]; simp [dcells]
          · show p ≤ L.length
            rw [HLP.out]
            exact Nat.le_refl _
          · show L.length + m.spend.tail.length ≤ m.spend.room
            have := HW.out.room
            have hp := HP.out
            rw [spend_log] at this
            rw [HLP.out]
            omega

end
end Mun
end

section
/- Contracts of what reads a body: a byte, a number, where it stands well. -/
set_option maxRecDepth 100000
set_option linter.unusedVariables false
set_option linter.unusedSimpArgs false
namespace Mun
open Go Go.RowKit
open Go.Proofs

/-- a cursor: what is left of a body -/
structure CurAt (F : Foot) (w : World) (C : Nat) (v : Value) (l : List UInt8) : Prop where
  blk : w.heap[C]? = some (.cells #[v] 175 (0, 0))
  rd : RdB F w v l
  hC : F C

theorem CurAt.cell {F : Foot} {w : World} {C : Nat} {v : Value} {l : List UInt8} (h : CurAt F w C v l) : w.cell? ⟨C, 0, none⟩ = some v := cell_of_one h.blk
theorem CurAt.free {F : Foot} {w : World} {C : Nat} {v : Value} {l : List UInt8} (h : CurAt F w C v l) : w.frozen? ⟨C, 0, none⟩ = false := free_of_one h.blk
theorem CurAt.set {F : Foot} {w : World} {C : Nat} {v u : Value} {l l' : List UInt8} (h : CurAt F w C v l) (hr : RdB F w u l') : CurAt F (w.setCell ⟨C, 0, none⟩ u) C u l' :=
  ⟨one_setCell h.blk, hr.chg (chg_setCell w _ u h.hC), h.hC⟩
theorem CurAt.below {F : Foot} {w w' : World} {C : Nat} {v : Value} {l : List UInt8} (h : CurAt F w C v l) (hb : Below w.heap.size w w') : CurAt F w' C v l :=
  ⟨by rw [hb.block C (lt_of_block h.blk)]; exact h.blk, RdB.below h.rd hb, h.hC⟩
theorem CurAt.lt {F : Foot} {w : World} {C : Nat} {v : Value} {l : List UInt8} (h : CurAt F w C v l) : C < w.heap.size := lt_of_block h.blk

/-- what a step of the cursor leaves -/
def CPost (F : Foot) (w : World) (C : Nat) (l : List UInt8) (w' : World) : Prop := ∃ v', CurAt F w' C v' l ∧ Chg (B1 C) (B1 C) w w'

theorem must_yes (w : World) : Calls Tryz.prog 129 #[.bool true] w fun e w' => e = .returned (.tuple #[]) ∧ w = w' := by
  go_enter Tryz.func129, Tryz.ntmps129
  go_wp2
  go_end0
  exact ⟨rfl, rfl⟩

theorem byte_any {F : Foot} (w : World) (C : Nat) (v : Value) (b : UInt8) (l : List UInt8) (h : CurAt F w C v (b :: l)) :
    Calls Tryz.prog 125 #[.pointer (some ⟨C, 0, none⟩)] w fun e w' => e = .returned (.int .u8 b.toNat) ∧ CPost F w C l w' := by
  obtain ⟨g, off, c, rfl, h1, h2, h3, h4, h5⟩ := h.rd.at_ (by simp)
  have c0 := h.cell
  have f0 := h.free
  have b0 := h5 0 (by simp)
  simp only [Nat.add_zero, List.getElem_cons_zero] at b0
  obtain ⟨a1, c1, hr, hrd⟩ := slice_bytes_from h.rd 1 (by simp)
  rw [show (((1 : Nat)) : Int) = 1 from rfl] at hr
  have hset := h.set hrd
  simp only [List.drop_succ_cons, List.drop_zero] at hset
  have HS := Lib.hid hset
  obtain ⟨n, hn⟩ : ∃ n, (b :: l).length = n := ⟨_, rfl⟩
  have hpos : (0 : Int) < (n : Int) := by rw [← hn]; simp
  have hp0 : 0 < n := by omega
  rw [hn] at c0 hr HS
  have hm := must_yes w
  clear h h1 h2 h3 h4 h5 hrd hset hn
  go_enter Tryz.func125, Tryz.ntmps125
  go_wp2_with (go_at_call 129; refine hm.mono ?_; rintro e w' ⟨rfl, rfl⟩)
  go_ret
  exact ⟨rfl, _, HS.out, chg_setCell w _ _ rfl⟩

theorem and127 (b : Nat) (h : b < 256) : bits .and .u8 (b : Int) 127 = ((b % 128 : Nat) : Int) := by
  have key : ∀ a : Nat, a < 256 → bits .and .u8 (a : Int) 127 = ((a % 128 : Nat) : Int) := by decide +kernel
  exact key b h

/-- seven bits more -/
theorem num_step (a y k : Nat) (hk : k ≤ 9) (ha : a < 128 ^ k) (hy : y < 128) (hs : a + y * 128 ^ k < 18446744073709551616) :
    bits .or .u64 (a : Int) (IntKind.u64.wrap ((y : Int) * 2 ^ (7 * k))) = ((a + y * 128 ^ k : Nat) : Int) := by
  have e0 : (128 : Nat) ^ k = 2 ^ (7 * k) := by rw [show (128 : Nat) = 2 ^ 7 from rfl, ← Nat.pow_mul]
  rw [e0] at ha hs ⊢
  have e : ((y : Int) * 2 ^ (7 * k)) = ((y * 2 ^ (7 * k) : Nat) : Int) := by push_cast; rfl
  rw [e, wrap_u64_nat _ (by omega), u64_or_nat a _ (by omega) (by omega), or_shift _ _ _ ha]

set_option maxHeartbeats 1000000 in
/-- a number that was written is read -/
theorem number_any {F : Foot} (w : World) (C : Nat) (v : Value) (N : Nat) (l : List UInt8) (hN : N < 18446744073709551616) (h : CurAt F w C v (vi N ++ l)) :
    Calls Tryz.prog 126 #[.pointer (some ⟨C, 0, none⟩)] w fun e w' => e = .returned (.int .u64 N) ∧ CPost F w C l w' := by
  have HC := Lib.hid h
  have HN := Lib.hid hN
  clear h hN
  go_enter Tryz.func126, Tryz.ntmps126
  go_wp2
  go_loopw [2, 3] (fun n i wr => ∃ k : Nat, k ≤ 9 ∧ i = .int .i64 k ∧ n = .int .u64 ((N % 128 ^ k : Nat) : Int) ∧ (0 < k → 0 < N / 128 ^ k) ∧ CPost F w C (vi (N / 128 ^ k) ++ l) wr) (fun _ i _ => 10 - (intOf i).toNat)
  case atStart => exact ⟨0, Nat.zero_le _, rfl, by simp [Nat.mod_one], fun h => absurd h (Nat.lt_irrefl 0), v, by simpa using HC.out, Chg.refl _ _⟩
  case round =>
    obtain ⟨k, hk, rfl, rfl, hz, v1, hc1, hg1⟩ := hrel
    have HZ := Lib.hid hz
    have HG1 := Lib.hid hg1
    obtain ⟨M, hM⟩ : ∃ M, N / 128 ^ k = M := ⟨_, rfl⟩
    have hdm := Nat.div_add_mod N (128 ^ k)
    rw [hM] at hc1 hdm
    have hlt := Nat.mod_lt N (Nat.pow_pos (n := k) (show 0 < 128 by omega))
    obtain ⟨a, ha⟩ : ∃ a, N % 128 ^ k = a := ⟨_, rfl⟩
    rw [ha] at hdm hlt ⊢
    have hM9 : k = 9 → M ≤ 1 := by
      rintro rfl
      have := HN.out
      rw [show (128 : Nat) ^ 9 = 9223372036854775808 from rfl] at hdm
      omega
    have k0 : (0 : Int) ≤ (k : Int) := by omega
    have k9 : (k : Int) ≤ 9 := by omega
    by_cases hM1 : M < 128
    · rw [vi_lt hM1, List.singleton_append] at hc1
      have hb := byte_any wr C v1 _ _ hc1
      have hx : (UInt8.ofNat M).toNat = M := by rw [UInt8.toNat_ofNat']; omega
      rw [hx] at hb
      have hand := and127 M (by omega)
      rw [Nat.mod_eq_of_lt hM1] at hand
      have hsum : a + M * 128 ^ k = N := by rw [Nat.mul_comm, Nat.add_comm]; exact hdm
      have hst := num_step a M k hk hlt hM1 (by rw [hsum]; exact HN.out)
      rw [hsum] at hst
      clear hsum
      have HB := Lib.hid hb
      have HST := Lib.hid hst
      have m0 : (0 : Int) ≤ (M : Int) := by omega
      have m1 : (M : Int) < 128 := by omega
      have HZM : Hid (0 < k → 0 < M) := by rw [← hM]; exact HZ.out
      have hmst := fun w1 => must_yes w1
      have HMS := Lib.hid hmst
      have hm9 : k = 9 → (M : Int) ≤ 1 := fun h => by have := hM9 h; omega
      clear hb hst hx hc1 hdm hlt hz hg1 hM ha hmst hM9
      by_cases hM0 : M = 0
      · have hk0 : k = 0 := by
          rcases Nat.eq_zero_or_pos k with h | h
          · exact h
          · have := HZM.out h; omega
        have q1 : ¬ 0 < M := by omega
        have q2 : ((k : Int) == 0) = true := by rw [hk0]; rfl
        have h9' : (k : Int) < 9 := by omega
        clear hM0 hk0 hm9 hk
        · go_wp2_with (first | (go_at_call 125; refine HB.out.mono ?_; rintro e w2 ⟨rfl, v2, hc2, hg2⟩) | (go_at_call 129; refine (HMS.out _).mono ?_; rintro e w3 ⟨rfl, rfl⟩))
          go_ret
          exact ⟨ret_int HST.out, v2, hc2, HG1.out.trans hg2⟩
      · have q1 : 0 < M := by omega
        by_cases h9 : k = 9
        · have h9' : ¬ (k : Int) < 9 := by omega
          have h9'' : ((k : Int) == 9) = true := by rw [h9]; rfl
          have hm1 := hm9 h9
          clear hm9 h9 hk hM0
          go_wp2_with (first | (go_at_call 125; refine HB.out.mono ?_; rintro e w2 ⟨rfl, v2, hc2, hg2⟩) | (go_at_call 129; refine (HMS.out _).mono ?_; rintro e w3 ⟨rfl, rfl⟩))
          go_ret
          exact ⟨ret_int HST.out, v2, hc2, HG1.out.trans hg2⟩
        · have h9' : (k : Int) < 9 := by omega
          clear hm9 h9 hk hM0
          go_wp2_with (first | (go_at_call 125; refine HB.out.mono ?_; rintro e w2 ⟨rfl, v2, hc2, hg2⟩) | (go_at_call 129; refine (HMS.out _).mono ?_; rintro e w3 ⟨rfl, rfl⟩))
          go_ret
          exact ⟨ret_int HST.out, v2, hc2, HG1.out.trans hg2⟩
    · have hM2 : 128 ≤ M := by omega
      rw [vi_ge hM2, List.cons_append] at hc1
      have hb := byte_any wr C v1 _ _ hc1
      have hx : (UInt8.ofNat (M % 128 + 128)).toNat = M % 128 + 128 := by rw [UInt8.toNat_ofNat']; omega
      rw [hx] at hb
      obtain ⟨y, hy⟩ : ∃ y, M % 128 = y := ⟨_, rfl⟩
      have hy1 : y < 128 := by omega
      have hand := and127 (y + 128) (by omega)
      rw [show (y + 128) % 128 = y by omega] at hand
      have hkl : k < 9 := by
        rcases Nat.lt_or_ge k 9 with h | h
        · exact h
        · have := hM9 (by omega); omega
      have hy2 : y * 128 ^ k ≤ 128 ^ k * M := by
        rw [Nat.mul_comm]
        exact Nat.mul_le_mul_left _ (by omega)
      have hst := num_step a y k hk hlt hy1 (by have := HN.out; omega)
      have hdd : N / 128 ^ (k + 1) = M / 128 := by rw [Nat.pow_succ, ← Nat.div_div_eq_div_mul, hM]
      have hmd : N % 128 ^ (k + 1) = a + y * 128 ^ k := by
        rw [Nat.pow_succ, Nat.mod_mul, ha, hM, hy, Nat.mul_comm]
      obtain ⟨b8, hb8⟩ : ∃ b8, y + 128 = b8 := ⟨_, rfl⟩
      rw [hy, hb8] at hb
      rw [hb8] at hand
      have HB := Lib.hid hb
      have HST := Lib.hid hst
      have HDD := Lib.hid hdd
      have HMD := Lib.hid hmd
      have m0 : (0 : Int) ≤ (b8 : Int) := by omega
      have m1 : (b8 : Int) < 256 := by omega
      have m2 : ¬ (b8 : Int) < 128 := by omega
      have m3 : ¬ b8 < 128 := by omega
      have y0 : (0 : Int) ≤ (y : Int) := by omega
      have y1 : (y : Int) < 128 := by omega
      have HMS : Hid (∀ w1, Calls Tryz.prog 129 #[.bool true] w1 fun e w' => e = .returned (.tuple #[]) ∧ w1 = w') := fun w1 => must_yes w1
      have HM2 := Lib.hid hM2
      have HKL := Lib.hid hkl
      have h9' : (k : Int) < 9 := by omega
      clear hb hst hx hc1 hdm hlt hz hg1 hM ha hM9 hM2 hkl hy2 hdd hmd hb8 hy hy1 hM1 hk
      go_wp2_with (first | (go_at_call 125; refine HB.out.mono ?_; rintro e w2 ⟨rfl, v2, hc2, hg2⟩) | (go_at_call 129; refine (HMS.out _).mono ?_; rintro e w3 ⟨rfl, rfl⟩))
      go_roundw
      case rel => exact ⟨k + 1, HKL.out, by go_num, by rw [HMD.out, HST.out], fun _ => by rw [HDD.out]; have := HM2.out; omega, v2, by rw [HDD.out]; exact hc2, HG1.out.trans hg2⟩
      case measure => have := HKL.out; simp [intOf]; omega
end Mun
end

section
/- Contracts of what reads a body: a small number, a chunk, a change. -/
set_option maxRecDepth 100000
set_option linter.unusedVariables false
set_option linter.unusedSimpArgs false
namespace Mun
open Go Go.RowKit
open Go.Proofs

theorem small_any {F : Foot} (w : World) (C : Nat) (v : Value) (N : Nat) (l : List UInt8) (hN : N ≤ 1048576) (h : CurAt F w C v (vi N ++ l)) :
    Calls Tryz.prog 128 #[.pointer (some ⟨C, 0, none⟩)] w fun e w' => e = .returned (.int .i64 N) ∧ CPost F w C l w' := by
  have hn := number_any w C v N l (by omega) h
  have HN := Lib.hid hn
  have n0 : (0 : Int) ≤ (N : Int) := by omega
  have n1 : (N : Int) ≤ 1048576 := by omega
  have n2 : N ≤ 1048576 := hN
  have HMS : Hid (∀ w1, Calls Tryz.prog 129 #[.bool true] w1 fun e w' => e = .returned (.tuple #[]) ∧ w1 = w') := fun w1 => must_yes w1
  clear hn h hN
  go_enter Tryz.func128, Tryz.ntmps128
  go_wp2_with (first | (go_at_call 126; refine HN.out.mono ?_; rintro e w2 ⟨rfl, hp⟩) | (go_at_call 129; refine (HMS.out _).mono ?_; rintro e w3 ⟨rfl, rfl⟩))
  go_ret
  exact ⟨rfl, hp⟩

/-- bytes just copied -/
def NewB (w w' : World) (v : Value) (b : List UInt8) : Prop := v = .slice (some ⟨w'.heap.size, 0, none⟩) b.length b.length

set_option maxHeartbeats 1000000 in
theorem textr_any {F : Foot} (w : World) (C : Nat) (v : Value) (b l : List UInt8) (hb : b.length ≤ 1048576) (h : CurAt F w C v (txt b ++ l)) :
    Calls Tryz.prog 127 #[.pointer (some ⟨C, 0, none⟩)] w fun e w' => ∃ g n, e = .returned (.slice (some ⟨g, 0, none⟩) n n) ∧ Hid (n = b.length) ∧ OwnB w' w.heap.size 5 (.slice (some ⟨g, 0, none⟩) n n) b ∧ CPost F w C l w' := by
  unfold txt at h
  rw [List.append_assoc] at h
  obtain ⟨n, hn⟩ : ∃ n, b.length = n := ⟨_, rfl⟩
  rw [hn] at h
  have hs := small_any w C v n _ (by omega) h
  have HS := Lib.hid hs
  have n0 : (0 : Int) ≤ (n : Int) := by omega
  have n1 : (n : Int) ≤ 1048576 := by omega
  have HN := Lib.hid hn
  have HLT := Lib.hid h.lt
  have HMS : Hid (∀ w1, Calls Tryz.prog 129 #[.bool true] w1 fun e w' => e = .returned (.tuple #[]) ∧ w1 = w') := fun w1 => must_yes w1
  clear hs h hb hn
  go_enter Tryz.func127, Tryz.ntmps127
  go_wp2_with fail
  refine HS.out.mono ?_
  rintro e w2 ⟨rfl, v2, hc2, hg2⟩
  obtain ⟨va, vn, vc, rfl, HV, hvc, hvm⟩ := hc2.rd.formN
  have hvn : n ≤ vn := by have := HV.out; have := HN.out; simp only [List.length_append] at *; omega
  have hvl : vn = n + l.length := by have := HV.out; have := HN.out; simp only [List.length_append] at *; omega
  have hvi : (vn : Int) ≤ 9223372036854775807 := by unfold maxLen at hvm; omega
  have c0 := hc2.cell
  have f0 := hc2.free
  have HC2 := Lib.hid hc2
  have HG2 := Lib.hid hg2
  have HVN := Lib.hid hvl
  clear hc2 hg2 hvm hvl hvc
  go_upto_region 3 with (go_at_call 129; refine (HMS.out _).mono ?_; rintro e w3 ⟨rfl, rfl⟩)
  obtain ⟨a1, c1, hr1, hrd1⟩ := slice_bytes_to HC2.out.rd n (by rw [← HV.out]; exact hvn)
  rw [List.take_left' HN.out] at hrd1
  have hmk := make_bytes0 n (by omega) w2.drew
  have hcp := copied_bytes (ty := 41) (show RdB F w2.drew _ _ from RdB.drewN hrd1 1) (by rw [HN.out]; omega)
  rw [HN.out] at hcp
  have hS0 : w2.drew.cell? ⟨C, 0, none⟩ = some (.slice va vn vc) := c0
  obtain ⟨w4, hw4⟩ : ∃ w4, w2.drew.alloc (bobj (List.replicate n 0)) = w4 := ⟨_, rfl⟩
  have hc4 : CurAt F w4 C (.slice va vn vc) (b ++ l) := by rw [← hw4]; exact (HC2.out.below (below_drewN (Below.refl _ _) 1)).below ((Below.refl _ _).alloc (Nat.le_refl _) _)
  obtain ⟨w5, hw5⟩ : ∃ w5, w2.drew.alloc (bobj b) = w5 := ⟨_, rfl⟩
  have hb5 : Below w2.heap.size w2 w5 := by rw [← hw5]; exact (below_drewN (Below.refl _ _) 1).alloc (Nat.le_refl _) _
  have hc5 : CurAt F w5 C (.slice va vn vc) (b ++ l) := HC2.out.below hb5
  have ho5 : OwnB w5 w2.heap.size 5 (.slice (some ⟨w2.heap.size, 0, none⟩) n n) b := by
    rw [← hw5, ← HN.out]
    exact bobj_own w2.drew b b.length _ rfl (maxLen_ge (by rw [HN.out]; omega)) (Nat.le_refl _)
  rw [hw4] at hmk hcp
  rw [hw5] at hcp
  have hS4 : w4.cell? ⟨C, 0, none⟩ = some (.slice va vn vc) := hc4.cell
  have hS5 : w5.cell? ⟨C, 0, none⟩ = some (.slice va vn vc) := hc5.cell
  have HCP := Lib.hid hcp
  have HC5 := Lib.hid hc5
  have HO5 := Lib.hid ho5
  have HB5 := Lib.hid hb5
  clear hcp hc4 hc5 ho5 hb5 hw4 hw5 hrd1 c0
  refine wp_region_U (fun W => W.cell? ⟨C, 0, none⟩ = some (.slice va vn vc)) [] (by kernel_rfl) ?_
  refine wpAnyU_take (i := 0) [1, 8, 9] rfl (by as_aux_lemma => kernel_rfl) (by as_aux_lemma => kernel_rfl) (by as_aux_lemma => kernel_rfl) (by as_aux_lemma => kernel_rfl) (by as_aux_lemma => kernel_rfl) (by as_aux_lemma => kernel_rfl) (fun _ _ _ h => h) (Or.inl ⟨by rfl, (by intro W hSW; (try dsimp only at hSW); (try go_split_ands); go_simp <;> with_reducible rfl)⟩) hS0 ?_
  try simp only [Act.put, List.getElem_toArray, List.getElem_cons_succ, List.getElem_cons_zero, List.setIfInBounds_toArray, List.set_cons_zero, List.set_cons_succ]
  refine wpAnyU_take (i := 2) [3, 4, 5, 7, 8, 9] rfl (by as_aux_lemma => kernel_rfl) (by as_aux_lemma => kernel_rfl) (by as_aux_lemma => kernel_rfl) (by as_aux_lemma => kernel_rfl) (by as_aux_lemma => kernel_rfl) (by as_aux_lemma => kernel_rfl) (fun _ _ _ h => h) (Or.inl ⟨by rfl, (by intro W hSW; (try dsimp only at hSW); (try go_split_ands); go_simp <;> with_reducible rfl)⟩) hS0 ?_
  try simp only [Act.put, List.getElem_toArray, List.getElem_cons_succ, List.getElem_cons_zero, List.setIfInBounds_toArray, List.set_cons_zero, List.set_cons_succ]
  refine wpAnyU_take (i := 3) [4, 5, 7, 8, 9] rfl (by as_aux_lemma => kernel_rfl) (by as_aux_lemma => kernel_rfl) (by as_aux_lemma => kernel_rfl) (by as_aux_lemma => kernel_rfl) (by as_aux_lemma => kernel_rfl) (by as_aux_lemma => kernel_rfl) (fun _ _ _ h => h) (Or.inl ⟨by rfl, (by intro W hSW; (try dsimp only at hSW); (try go_split_ands); go_simp <;> with_reducible rfl)⟩) hS0 ?_
  try simp only [Act.put, List.getElem_toArray, List.getElem_cons_succ, List.getElem_cons_zero, List.setIfInBounds_toArray, List.set_cons_zero, List.set_cons_succ]
  refine wpAnyU_take (i := 4) [5, 7, 8, 9] rfl (by as_aux_lemma => kernel_rfl) (by as_aux_lemma => kernel_rfl) (by as_aux_lemma => kernel_rfl) (by as_aux_lemma => kernel_rfl) (by as_aux_lemma => kernel_rfl) (by as_aux_lemma => kernel_rfl) (fun _ _ _ h => h) (Or.inl ⟨by rfl, (by intro W hSW; (try dsimp only at hSW); (try go_split_ands); go_simp <;> with_reducible rfl)⟩) hS0 ?_
  try simp only [Act.put, List.getElem_toArray, List.getElem_cons_succ, List.getElem_cons_zero, List.setIfInBounds_toArray, List.set_cons_zero, List.set_cons_succ]
  refine wpAnyU_take (i := 5) [7, 8, 9] rfl (by as_aux_lemma => kernel_rfl) (by as_aux_lemma => kernel_rfl) (by as_aux_lemma => kernel_rfl) (by as_aux_lemma => kernel_rfl) (by as_aux_lemma => kernel_rfl) (by as_aux_lemma => kernel_rfl) (fun _ _ _ h => h) (Or.inl ⟨by rfl, (by intro W hSW; (try dsimp only at hSW); (try go_split_ands); go_simp <;> with_reducible rfl)⟩) hS0 ?_
  try simp only [Act.put, List.getElem_toArray, List.getElem_cons_succ, List.getElem_cons_zero, List.setIfInBounds_toArray, List.set_cons_zero, List.set_cons_succ]
  refine wpAnyU_take (i := 6) [7, 8, 9] rfl (by as_aux_lemma => kernel_rfl) (by as_aux_lemma => kernel_rfl) (by as_aux_lemma => kernel_rfl) (by as_aux_lemma => kernel_rfl) (by as_aux_lemma => kernel_rfl) (by as_aux_lemma => kernel_rfl) (fun _ _ _ h => h) (Or.inl ⟨by rfl, (by intro W hSW; (try dsimp only at hSW); (try go_split_ands); go_simp <;> with_reducible rfl)⟩) hS0 ?_
  try simp only [Act.put, List.getElem_toArray, List.getElem_cons_succ, List.getElem_cons_zero, List.setIfInBounds_toArray, List.set_cons_zero, List.set_cons_succ]
  refine wpAnyU_take (i := 7) [8, 9] rfl (by as_aux_lemma => kernel_rfl) (by as_aux_lemma => kernel_rfl) (by as_aux_lemma => kernel_rfl) (by as_aux_lemma => kernel_rfl) (by as_aux_lemma => kernel_rfl) (by as_aux_lemma => kernel_rfl) (fun _ _ _ h => h) (Or.inl ⟨by rfl, (by intro W hSW; (try dsimp only at hSW); (try go_split_ands); go_simp <;> with_reducible rfl)⟩) hS0 ?_
  try simp only [Act.put, List.getElem_toArray, List.getElem_cons_succ, List.getElem_cons_zero, List.setIfInBounds_toArray, List.set_cons_zero, List.set_cons_succ]
  refine wpAnyU_one (i := 1) (by kernel_rfl) rfl (fun K hK => ?_)
  go_simp
  refine hK.out _ _ (fun _ => hS4) (fun _ => ?_)
  clear hK K
  try simp only [Act.put, List.getElem_toArray, List.getElem_cons_succ, List.getElem_cons_zero, List.setIfInBounds_toArray, List.set_cons_zero, List.set_cons_succ]
  refine wpAnyU_one (i := 8) (by kernel_rfl) rfl (fun K hK => ?_)
  refine step_append_is rfl rfl HCP.out rfl rfl ?_
  refine hK.out _ _ (fun _ => hS5) (fun _ => ?_)
  clear hK K
  try simp only [Act.put, List.getElem_toArray, List.getElem_cons_succ, List.getElem_cons_zero, List.setIfInBounds_toArray, List.set_cons_zero, List.set_cons_succ]
  refine wpAnyU_take (i := 9) [] rfl (by as_aux_lemma => kernel_rfl) (by as_aux_lemma => kernel_rfl) (by as_aux_lemma => kernel_rfl) (by as_aux_lemma => kernel_rfl) (by as_aux_lemma => kernel_rfl) (by as_aux_lemma => kernel_rfl) (fun _ _ _ h => h) (Or.inl ⟨by rfl, (by intro W hSW; (try dsimp only at hSW); (try go_split_ands); go_simp <;> with_reducible rfl)⟩) hS5 ?_
  try simp only [Act.put, List.getElem_toArray, List.getElem_cons_succ, List.getElem_cons_zero, List.setIfInBounds_toArray, List.set_cons_zero, List.set_cons_succ]
  refine wpAnyU_done (by kernel_rfl) ?_ _
  clear hS0 hS4 hmk hr1 f0
  obtain ⟨a6, c6, hr6, hrd6⟩ := slice_bytes_from HC5.out.rd n (by rw [← HV.out]; exact hvn)
  rw [List.drop_left' HN.out] at hrd6
  have hset := HC5.out.set hrd6
  have f5 := HC5.out.free
  have HSET := Lib.hid hset
  clear hrd6 hset
  go_wp2
  go_ret
  refine ⟨_, _, rfl, HN.out.symm, ?_, _, HSET.out, ?_⟩
  · have h1 := ownsRow_base HO5.out (base' := w.heap.size) (fun k hk => by have := (HO5.out.lt k hk).1; have := HG2.out.size; omega)
    exact OwnB.chg (F := B1 C) (F' := B1 C) h1 (chg_setCell _ _ _ rfl) (fun k hk hkC => by have := (HO5.out.lt k hk).1; have := HC2.out.lt; have : k = C := hkC; omega)
  · exact (HG2.out.trans (Chg.of_below HB5.out _)).trans (chg_setCell _ _ _ rfl)
end Mun
end

section
/- Contract of what reads a change. -/
set_option maxRecDepth 100000
set_option linter.unusedVariables false
set_option linter.unusedSimpArgs false
namespace Mun
open Go Go.RowKit
open Go.Proofs

theorem infoC : (Tryz.prog.info? 166).map (·.size) = some 4 := by kernel_rfl

/-- a new block beside the cursor -/
structure BxC (F : Foot) (w0 w : World) (C g : Nat) (cs : Array Value) (ty : TypeId) (v : Value) (l : List UInt8) : Prop where
  blk : w.heap[g]? = some (.cells cs ty (0, 0))
  cur : CurAt F w C v l
  chg : Chg (B1 C) (B1 C) w0 w
  new : w0.heap.size ≤ g
  ne : C < w0.heap.size
  hg : F g

theorem block_setCell {w : World} {g i : Nat} {cs : Array Value} {ty : TypeId} (h : w.heap[g]? = some (.cells cs ty (0, 0))) (u : Value) : (w.setCell ⟨g, i, none⟩ u).heap[g]? = some (.cells (cs.setIfInBounds i u) ty (0, 0)) := by
  have hlt := lt_of_block h
  have h' : w.heap[g] = .cells cs ty (0, 0) := by simpa [Array.getElem?_eq_getElem hlt] using h
  show (w.heap.modify g _)[g]? = _
  rw [Array.getElem?_modify]
  simp [h]
theorem block_setCell_ne {w : World} {g k i : Nat} (u : Value) (h : k ≠ g) : (w.setCell ⟨g, i, none⟩ u).heap[k]? = w.heap[k]? := by
  show (w.heap.modify g _)[k]? = _
  rw [Array.getElem?_modify, if_neg (Ne.symm h)]

section
variable {F : Foot} {w0 w w' : World} {C g : Nat} {cs : Array Value} {ty : TypeId} {v : Value} {l l' : List UInt8}
theorem BxC.gC (h : BxC F w0 w C g cs ty v l) : C ≠ g := by have := h.new; have := h.ne; omega
theorem BxC.call (h : BxC F w0 w C g cs ty v l) (hp : CPost F w C l' w') : ∃ v', BxC F w0 w' C g cs ty v' l' := by
  obtain ⟨v', hc, hg⟩ := hp
  have hlt := lt_of_block h.blk
  exact ⟨v', by rw [hg.block g hlt (fun e => h.gC (Eq.symm e))]; exact h.blk, hc, h.chg.trans hg, h.new, h.ne, h.hg⟩
theorem BxC.set (h : BxC F w0 w C g cs ty v l) (i : Nat) (u : Value) : BxC F w0 (w.setCell ⟨g, i, none⟩ u) C g (cs.setIfInBounds i u) ty v l := by
  refine ⟨block_setCell h.blk u, ⟨by rw [block_setCell_ne u h.gC]; exact h.cur.blk, h.cur.rd.chg (chg_setCell w _ u h.hg), h.cur.hC⟩, ?_, h.new, h.ne, h.hg⟩
  have hs : (w.setCell ⟨g, i, none⟩ u).heap.size = w.heap.size := by simp [World.setCell]
  refine ⟨h.chg.os, h.chg.tape, h.chg.output, by rw [hs]; exact h.chg.size, fun k hk hn => ?_, fun k hk => ?_⟩
  · rw [block_setCell_ne u (by have := h.new; omega)]; exact h.chg.block k hk hn
  · rw [hs]; exact h.chg.foot k hk
theorem BxC.cell (h : BxC F w0 w C g cs ty v l) (i : Nat) : w.cell? ⟨g, i, none⟩ = cs[i]? := cell_of_row w g i _ _ _ h.blk
theorem BxC.free (h : BxC F w0 w C g cs ty v l) (i : Nat) : w.frozen? ⟨g, i, none⟩ = false := by simp [World.frozen?, h.blk]
theorem BxC.start (hc : CurAt F w C v l) (cs : Array Value) (ty : TypeId) (hg : F w.heap.size) : BxC F w (w.alloc (.cells cs ty)) C w.heap.size cs ty v l :=
  ⟨heap_alloc_new w _, hc.below ((Below.refl _ _).alloc (Nat.le_refl _) _), chg_alloc w _, Nat.le_refl _, hc.lt, hg⟩
end

set_option maxHeartbeats 1000000 in
theorem change_any {F : Foot} (w : World) (C : Nat) (v : Value) (c : PC) (l : List UInt8) (hc : GoodC c) (h : CurAt F w C v (chB c ++ l)) (hF : ∀ k, w.heap.size ≤ k → F k) :
    Calls Tryz.prog 130 #[.pointer (some ⟨C, 0, none⟩)] w fun e w' => ∃ g n, e = .returned (.agg #[.int .i64 c.page, .int .i64 c.at_, .bool c.whole, .slice (some ⟨g, 0, none⟩) n n]) ∧ Hid (n = c.b.length) ∧
      OwnB w' w.heap.size 5 (.slice (some ⟨g, 0, none⟩) n n) c.b ∧ CPost F w C l w' := by
  obtain ⟨pg, hpg⟩ := Int.eq_ofNat_of_zero_le hc.p0
  obtain ⟨ag, hag⟩ := Int.eq_ofNat_of_zero_le hc.a0
  have hp1 : pg < 65536 := by have := hc.p1; omega
  have ha1 : ag ≤ 512 := by have := hc.a1; omega
  have hbl : c.b.length ≤ 512 := by have := hc.len; have := hc.a0; omega
  unfold chB at h
  rw [hpg, hag, Int.toNat_natCast, Int.toNat_natCast] at h
  rw [hpg, hag]
  simp only [List.append_assoc, List.cons_append, List.nil_append] at h
  have hb1 := BxC.start h #[.int .i64 0, .int .i64 0, .bool false, .slice none 0 0] 166 (hF _ (Nat.le_refl _))
  have HB1 := Lib.hid hb1
  have HBL := Lib.hid hbl
  have HMS : Hid (∀ w1, Calls Tryz.prog 129 #[.bool true] w1 fun e w' => e = .returned (.tuple #[]) ∧ w1 = w') := fun w1 => must_yes w1
  obtain ⟨G, hG⟩ : ∃ G, w.heap.size = G := ⟨_, rfl⟩
  obtain ⟨w1, hw1⟩ : ∃ w1, w.alloc (.cells #[.int .i64 0, .int .i64 0, .bool false, .slice none 0 0] 166) = w1 := ⟨_, rfl⟩
  rw [hw1, hG] at HB1
  clear h hb1 hbl hc hpg hag
  cases hw : c.whole with
  | true =>
    have hwb : wb c = 1 := by unfold wb; rw [hw]; rfl
    rw [hwb] at HB1
    clear hw hwb
    go_enter Tryz.func130, Tryz.ntmps130
    go_wp2_with fail
    refine (small_any w1 C v pg _ (by omega) HB1.out.cur).mono ?_
    rintro e w2 ⟨rfl, hp2⟩
    obtain ⟨v2, hb2⟩ := HB1.out.call hp2
    have HB2 := Lib.hid hb2
    clear hb2 hp2 hw1
    go_wp2_with fail
    refine (small_any w2 C v2 ag _ (by omega) HB2.out.cur).mono ?_
    rintro e w3 ⟨rfl, hp3⟩
    obtain ⟨v3, hb3⟩ := HB2.out.call hp3
    have c0 : w3.cell? ⟨G, 0, none⟩ = some (.int .i64 0) := hb3.cell 0
    have c1 : w3.cell? ⟨G, 1, none⟩ = some (.int .i64 0) := hb3.cell 1
    have f0 := hb3.free 0
    have f1 := hb3.free 1
    have hb4 := (hb3.set 0 (.int .i64 pg)).set 1 (.int .i64 ag)
    obtain ⟨w4, hw4⟩ : ∃ w4, (w3.setCell ⟨G, 0, none⟩ (.int .i64 pg)).setCell ⟨G, 1, none⟩ (.int .i64 ag) = w4 := ⟨_, rfl⟩
    rw [hw4] at hb4
    have HB4 := Lib.hid hb4
    clear hb3 hp3 hb4
    go_wp2_with fail
    clear hw4 c0 c1 f0 f1
    refine (byte_any w4 C v3 1 _ HB4.out.cur).mono ?_
    rintro e w5 ⟨rfl, hp5⟩
    obtain ⟨v5, hb5⟩ := HB4.out.call hp5
    rw [show (((1 : UInt8).toNat : Nat) : Int) = 1 from rfl]
    have c2 : w5.cell? ⟨G, 2, none⟩ = some (.bool false) := hb5.cell 2
    have f2 := hb5.free 2
    have hb6 := hb5.set 2 (.bool true)
    obtain ⟨w6, hw6⟩ : ∃ w6, w5.setCell ⟨G, 2, none⟩ (.bool true) = w6 := ⟨_, rfl⟩
    rw [hw6] at hb6
    have HB6 := Lib.hid hb6
    clear hb5 hp5 hb6
    go_wp2_with (go_at_call 129; refine (HMS.out _).mono ?_; rintro e w7 ⟨rfl, rfl⟩)
    clear hw6 c2 f2
    refine (textr_any w6 C v5 c.b l (by have := HBL.out; omega) HB6.out.cur).mono ?_
    rintro e w7 ⟨g7, n7, rfl, HN7, ho7, hp7⟩
    obtain ⟨v7, hb7⟩ := HB6.out.call hp7
    have c3 : w7.cell? ⟨G, 3, none⟩ = some (.slice none 0 0) := hb7.cell 3
    have f3 := hb7.free 3
    have hb8 := hb7.set 3 (.slice (some ⟨g7, 0, none⟩) n7 n7)
    obtain ⟨w8, hw8⟩ : ∃ w8, w7.setCell ⟨G, 3, none⟩ (.slice (some ⟨g7, 0, none⟩) n7 n7) = w8 := ⟨_, rfl⟩
    have ho8 : OwnB w8 w.heap.size 5 (.slice (some ⟨g7, 0, none⟩) n7 n7) c.b := by
      rw [← hw8]
      have h1 := ownsRow_base ho7 (base' := w.heap.size) (fun k hk => by have := (ho7.lt k hk).1; have := HB6.out.chg.size; omega)
      refine OwnB.chg (F := B1 G) (F' := B1 G) h1 (chg_setCell _ _ _ rfl) (fun k hk hkC => by have := (ho7.lt k hk).1; have := lt_of_block HB6.out.blk; have : k = G := hkC; omega)
    rw [hw8] at hb8
    have hblk : w8.heap[G]? = some (.cells #[.int .i64 pg, .int .i64 ag, .bool true, .slice (some ⟨g7, 0, none⟩) n7 n7] 166 (0, 0)) := hb8.blk
    have hself := setRow_self w8 G _ _ _ hblk
    have HBLK := Lib.hid hblk
    have HSELF := Lib.hid hself
    have HB8 := Lib.hid hb8
    have HO8 := Lib.hid ho8
    clear hb7 hp7 hb8 hblk hself ho7 ho8
    go_wp2_with (first
      | (refine wpList_load_row rfl _ _ rfl G rfl _ _ (0, 0) _ HBLK.out Tryz.underlying166 rfl infoC ?_)
      | (refine wpList_store_row rfl _ _ _ rfl G _ rfl rfl _ _ HBLK.out infoC rfl (by simp [Value.oneCell']) ?_; rw [HSELF.out]))
    have k0 : w8.cell? ⟨G, 0, none⟩ = some (.int .i64 pg) := HB8.out.cell 0
    have k1 : w8.cell? ⟨G, 1, none⟩ = some (.int .i64 ag) := HB8.out.cell 1
    have k2 : w8.cell? ⟨G, 2, none⟩ = some (.bool true) := HB8.out.cell 2
    have k3 : w8.cell? ⟨G, 3, none⟩ = some (.slice (some ⟨g7, 0, none⟩) n7 n7) := HB8.out.cell 3
    refine bodyPost_ret (by simp [results, Tryz.results130, go_sem, k0, k1, k2, k3]; try rfl) rfl ?_
    exact ⟨g7, n7, rfl, HN7, HO8.out, v7, HB8.out.cur, HB8.out.chg⟩
  | false =>
    have hwb : wb c = 0 := by unfold wb; rw [hw]; rfl
    rw [hwb] at HB1
    clear hw hwb
    go_enter Tryz.func130, Tryz.ntmps130
    go_wp2_with fail
    refine (small_any w1 C v pg _ (by omega) HB1.out.cur).mono ?_
    rintro e w2 ⟨rfl, hp2⟩
    obtain ⟨v2, hb2⟩ := HB1.out.call hp2
    have HB2 := Lib.hid hb2
    clear hb2 hp2 hw1
    go_wp2_with fail
    refine (small_any w2 C v2 ag _ (by omega) HB2.out.cur).mono ?_
    rintro e w3 ⟨rfl, hp3⟩
    obtain ⟨v3, hb3⟩ := HB2.out.call hp3
    have c0 : w3.cell? ⟨G, 0, none⟩ = some (.int .i64 0) := hb3.cell 0
    have c1 : w3.cell? ⟨G, 1, none⟩ = some (.int .i64 0) := hb3.cell 1
    have f0 := hb3.free 0
    have f1 := hb3.free 1
    have hb4 := (hb3.set 0 (.int .i64 pg)).set 1 (.int .i64 ag)
    obtain ⟨w4, hw4⟩ : ∃ w4, (w3.setCell ⟨G, 0, none⟩ (.int .i64 pg)).setCell ⟨G, 1, none⟩ (.int .i64 ag) = w4 := ⟨_, rfl⟩
    rw [hw4] at hb4
    have HB4 := Lib.hid hb4
    clear hb3 hp3 hb4
    go_wp2_with fail
    clear hw4 c0 c1 f0 f1
    refine (byte_any w4 C v3 0 _ HB4.out.cur).mono ?_
    rintro e w5 ⟨rfl, hp5⟩
    obtain ⟨v5, hb5⟩ := HB4.out.call hp5
    rw [show (((0 : UInt8).toNat : Nat) : Int) = 0 from rfl]
    have c2 : w5.cell? ⟨G, 2, none⟩ = some (.bool false) := hb5.cell 2
    have f2 := hb5.free 2
    have hb6 := hb5.set 2 (.bool false)
    obtain ⟨w6, hw6⟩ : ∃ w6, w5.setCell ⟨G, 2, none⟩ (.bool false) = w6 := ⟨_, rfl⟩
    rw [hw6] at hb6
    have HB6 := Lib.hid hb6
    clear hb5 hp5 hb6
    go_wp2_with (go_at_call 129; refine (HMS.out _).mono ?_; rintro e w7 ⟨rfl, rfl⟩)
    clear hw6 c2 f2
    refine (textr_any w6 C v5 c.b l (by have := HBL.out; omega) HB6.out.cur).mono ?_
    rintro e w7 ⟨g7, n7, rfl, HN7, ho7, hp7⟩
    obtain ⟨v7, hb7⟩ := HB6.out.call hp7
    have c3 : w7.cell? ⟨G, 3, none⟩ = some (.slice none 0 0) := hb7.cell 3
    have f3 := hb7.free 3
    have hb8 := hb7.set 3 (.slice (some ⟨g7, 0, none⟩) n7 n7)
    obtain ⟨w8, hw8⟩ : ∃ w8, w7.setCell ⟨G, 3, none⟩ (.slice (some ⟨g7, 0, none⟩) n7 n7) = w8 := ⟨_, rfl⟩
    have ho8 : OwnB w8 w.heap.size 5 (.slice (some ⟨g7, 0, none⟩) n7 n7) c.b := by
      rw [← hw8]
      have h1 := ownsRow_base ho7 (base' := w.heap.size) (fun k hk => by have := (ho7.lt k hk).1; have := HB6.out.chg.size; omega)
      refine OwnB.chg (F := B1 G) (F' := B1 G) h1 (chg_setCell _ _ _ rfl) (fun k hk hkC => by have := (ho7.lt k hk).1; have := lt_of_block HB6.out.blk; have : k = G := hkC; omega)
    rw [hw8] at hb8
    have hblk : w8.heap[G]? = some (.cells #[.int .i64 pg, .int .i64 ag, .bool false, .slice (some ⟨g7, 0, none⟩) n7 n7] 166 (0, 0)) := hb8.blk
    have hself := setRow_self w8 G _ _ _ hblk
    have HBLK := Lib.hid hblk
    have HSELF := Lib.hid hself
    have HB8 := Lib.hid hb8
    have HO8 := Lib.hid ho8
    clear hb7 hp7 hb8 hblk hself ho7 ho8
    go_wp2_with (first
      | (refine wpList_load_row rfl _ _ rfl G rfl _ _ (0, 0) _ HBLK.out Tryz.underlying166 rfl infoC ?_)
      | (refine wpList_store_row rfl _ _ _ rfl G _ rfl rfl _ _ HBLK.out infoC rfl (by simp [Value.oneCell']) ?_; rw [HSELF.out]))
    have k0 : w8.cell? ⟨G, 0, none⟩ = some (.int .i64 pg) := HB8.out.cell 0
    have k1 : w8.cell? ⟨G, 1, none⟩ = some (.int .i64 ag) := HB8.out.cell 1
    have k2 : w8.cell? ⟨G, 2, none⟩ = some (.bool false) := HB8.out.cell 2
    have k3 : w8.cell? ⟨G, 3, none⟩ = some (.slice (some ⟨g7, 0, none⟩) n7 n7) := HB8.out.cell 3
    refine bodyPost_ret (by simp [results, Tryz.results130, go_sem, k0, k1, k2, k3]; try rfl) rfl ?_
    exact ⟨g7, n7, rfl, HN7, HO8.out, v7, HB8.out.cur, HB8.out.chg⟩
end Mun
end
