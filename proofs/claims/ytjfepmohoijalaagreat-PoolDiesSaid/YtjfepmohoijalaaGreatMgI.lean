/- Texts of mine, one behind the other: RecD, DiskC, RecE, RecF, RecG. -/
import Derived.Test.YtjfepmohoijalaaGreatMgH
import Derived.Test.YtjfepmohoijalaaGreatMgB
import Derived.OneCell
import Derived.Laws.Rows
import Derived.Laws.Tables
section
/- Contracts of what sums and writes a record whole. -/
set_option maxRecDepth 100000
set_option linter.unusedVariables false
set_option linter.unusedSimpArgs false
namespace Mun
open Go Go.RowKit
open Go.Proofs

theorem summed_any {F : Foot} (w : World) (lsn : Nat) (v : Value) (b : List UInt8) (hv : RdB F w v b) (hn : lsn < 18446744073709551616) :
    Calls Tryz.prog 90 #[.int .u64 lsn, v] w fun e w' => e = .returned (.int .u32 ((sumR lsn b).toNat : Int)) ∧ Below w.heap.size w w' := by
  obtain ⟨a, c, rfl, _, _⟩ := hv.form
  have hl := lay_any w w.heap.size (.slice none 0 0) [] lsn 8 8 rfl (by omega) (OwnB.nil _ _ _) (Nat.le_refl _) (by simp)
  have HV := Lib.hid hv
  have HL := Lib.hid hl
  clear hv hl
  go_enter Tryz.func90, Tryz.ntmps90
  go_wp2_with fail
  refine HL.out.mono ?_
  rintro e w1 ⟨u, rfl, ho, hb⟩
  rw [List.nil_append] at ho
  obtain ⟨g, cp, rfl, -⟩ := ho.at_ (by rw [leBytes_length]; omega)
  have hof := of_any (F := NoF) w1 _ (leBytes 8 lsn) _ rfl (ho.rd (fun _ _ => noF _))
  have hmo := more_any w1 _ (crcOf (leBytes 8 lsn)) _ b rfl (HV.out.below hb)
  have hq : crcMore (crcOf (leBytes 8 lsn)) b = sumR lsn b := by
    unfold sumR crcOf
    rw [crcMore_append]
  rw [hq] at hmo
  have HB := Lib.hid hb
  have HO := Lib.hid hof
  have HM := Lib.hid hmo
  clear hof hmo hq hb ho HL HV
  go_wp2_with fail
  refine HO.out.mono ?_
  rintro e w2 ⟨rfl, rfl⟩
  go_wp2_with fail
  refine HM.out.mono ?_
  rintro e w2 ⟨rfl, rfl⟩
  go_wp2
  go_ret
  exact ⟨rfl, HB.out⟩

theorem RecAt.open {F : Foot} {w : World} {r : PR} {x : RV} (h : RecAt F w r x) : ∃ da dn dc ca cn cc, x.dv = .slice da dn dc ∧ x.cv = .slice ca cn cc ∧ Hid (dn = r.data.length ∧ cn = r.cs.length ∧ dn ≤ maxLen ∧ cn ≤ maxLen) := by
  obtain ⟨da, dc, hdv, h1, h2⟩ := h.data.form
  obtain ⟨ca, cc, hcv, h3, h4⟩ := h.cs.row.form
  exact ⟨da, _, dc, ca, _, cc, hdv, hcv, rfl, h.len, Nat.le_trans h1 h2, Nat.le_trans h3 h4⟩

/-- the cells of a record -/
def rcs (r : PR) (dv cv : Value) : Array Value := #[.int .i64 r.kind, .int .u64 r.tx, .int .u64 r.prev, .int .u64 r.next, dv, cv]

/-- the six cells of a record in a block that stays -/
theorem box6 {w w2 : World} {b : Nat} {r : PR} {dv cv : Value} {ty : TypeId} (h : w2.heap[b]? = some (.cells (rcs r dv cv) ty (0, 0))) :
    w2.cell? ⟨b, 0, none⟩ = some (.int .i64 r.kind) ∧ w2.cell? ⟨b, 1, none⟩ = some (.int .u64 r.tx) ∧ w2.cell? ⟨b, 2, none⟩ = some (.int .u64 r.prev) ∧ w2.cell? ⟨b, 3, none⟩ = some (.int .u64 r.next) ∧ w2.cell? ⟨b, 4, none⟩ = some dv ∧ w2.cell? ⟨b, 5, none⟩ = some cv :=
  ⟨cell_of_row _ _ 0 _ _ _ h, cell_of_row _ _ 1 _ _ _ h, cell_of_row _ _ 2 _ _ _ h, cell_of_row _ _ 3 _ _ _ h, cell_of_row _ _ 4 _ _ _ h, cell_of_row _ _ 5 _ _ _ h⟩

theorem box_at {w w2 : World} {cs : Array Value} {ty : TypeId} (hb : Below (w.alloc (.cells cs ty)).heap.size (w.alloc (.cells cs ty)) w2) : w2.heap[w.heap.size]? = some (.cells cs ty (0, 0)) := by
  rw [hb.block _ (by simp)]; exact heap_alloc_new w _

/-- what Bytes hands back -/
def RBytesOut (w : World) (l : List UInt8) (e : Ending) (w' : World) : Prop :=
  ∃ g n c, e = .returned (.tuple #[.slice (some ⟨g, 0, none⟩) n c, .int .i64 0]) ∧ Hid (n = l.length) ∧ OwnB w' w.heap.size 5 (.slice (some ⟨g, 0, none⟩) n c) l ∧ Below w.heap.size w w'

theorem OwnB.formN {w : World} {base : Nat} {v : Value} {l : List UInt8} (h : OwnB w base 5 v l) (hp : 0 < l.length) : ∃ g n c, v = .slice (some ⟨g, 0, none⟩) n c ∧ Hid (n = l.length) ∧ base ≤ g ∧ g < w.heap.size := by
  obtain ⟨g, c, rfl, h1, h2, -⟩ := h.at_ hp
  exact ⟨g, _, c, rfl, rfl, h1, h2⟩

set_option maxHeartbeats 1000000 in
theorem bytes_ok {F : Foot} (w : World) (r : PR) (x : RV) (lsn : Nat) (hl : lsn < 18446744073709551616) (h : RecAt F w r x) (hg : goodR r = true) (hsz : szR r ≤ 4194304) (hbig : (bodyR r).length ≤ 1048576) :
    Calls Tryz.prog 53 #[rval r x, .int .u64 lsn] w (RBytesOut w (recB r lsn)) := by
  obtain ⟨da, dn, dc, ca, cn, cc, e1, e2, -⟩ := h.open
  have hgd := fun w1 (hb : Below w.heap.size w w1) => rgood_any w1 r x (h.below hb)
  have hbd := fun w1 (hb : Below w.heap.size w w1) => body_any w1 r x (h.below hb) hg hsz
  unfold rval at hgd hbd ⊢
  simp only [e1, e2, hg] at hgd hbd
  rw [e1, e2]
  have HG := Lib.hid hgd
  have HD := Lib.hid hbd
  have HBG := Lib.hid hbig
  have HLS := Lib.hid hl
  clear hgd hbd h e1 e2 hg hsz hbig hl
  go_enter Tryz.func53, Tryz.ntmps53
  go_wp2_with fail
  refine (HG.out _ ((Below.refl _ _).alloc (Nat.le_refl _) _)).mono ?_
  rintro e w2 ⟨rfl, hb2⟩
  obtain ⟨c0, c1, c2, c3, c4, c5⟩ := box6 (w := w) (r := r) (box_at hb2)
  have HB : Hid (Below w.heap.size w w2) := ((Below.refl _ _).alloc (Nat.le_refl _) _).trans (hb2.mono (by simp))
  clear hb2
  go_wp2_with fail
  refine (HD.out _ HB.out).mono ?_
  rintro e w3 ⟨g, n, cp, rfl, HN, ho3, hb3⟩
  have HB3 : Hid (Below w.heap.size w w3) := HB.out.trans (hb3.mono HB.out.size)
  have hn : (n : Int) ≤ 1048576 := by have := HN.out; have := HBG.out; omega
  have hmk := make_bytes0 (8 + n) (by omega) w3
  rw [show ((8 + n : Nat) : Int) = 8 + (n : Int) by omega] at hmk
  have hown0 : OwnB (w3.alloc (bobj (List.replicate (8 + n) 0))) w3.heap.size 5 (.slice (some ⟨w3.heap.size, 0, none⟩) 0 (8 + n)) [] := by
    refine ⟨by simp [bv], .inr ⟨_, _, _, rfl, Nat.le_refl _, heap_alloc_new w3 _, Nat.zero_le _, by unfold maxLen; omega, by simp [bv], by simp [bv]⟩⟩
  have hl1 := lay_any (w3.alloc (bobj (List.replicate (8 + n) 0))) w3.heap.size _ [] n 4 4 rfl (by omega) hown0 (by simp) (by simp)
  rw [List.nil_append] at hl1
  obtain ⟨w4, hw4⟩ : ∃ w4, w3.alloc (bobj (List.replicate (8 + n) 0)) = w4 := ⟨_, rfl⟩
  have hb4 : Below w3.heap.size w3 w4 := by rw [← hw4]; exact (Below.refl _ _).alloc (Nat.le_refl _) _
  rw [hw4] at hmk hl1
  have HL1 := Lib.hid hl1
  have HB4 := Lib.hid hb4
  have HO3 := Lib.hid ho3
  have HMK := Lib.hid hmk
  clear ho3 hb3 c0 c1 c2 c3 c4 c5 hown0 hl1 hb4 hw4 hmk
  have hmk := HMK.out
  go_wp2_with fail
  refine HL1.out.mono ?_
  rintro e w5 ⟨v5, rfl, ho5, hb5⟩
  obtain ⟨g5, n5, c5, rfl, HN5, hg5, -⟩ := ho5.formN (by rw [leBytes_length]; omega)
  have hb35 : Below w3.heap.size w3 w5 := HB4.out.trans hb5
  have hrd5 : RdB NoF w5 (.slice (some ⟨g, 0, none⟩) n cp) (bodyR r) := RdB.below (HO3.out.rd (fun _ _ => noF _)) hb35
  have hsm := summed_any w5 lsn _ _ hrd5 HLS.out
  have HB35 := Lib.hid hb35
  have HO5 := Lib.hid ho5
  have HSM := Lib.hid hsm
  have HR5 := Lib.hid hrd5
  have hs0 : (0 : Int) ≤ ((sumR lsn (bodyR r)).toNat : Int) := by omega
  have hs1 : ((sumR lsn (bodyR r)).toNat : Int) ≤ 4294967295 := by have := (sumR lsn (bodyR r)).isLt; omega
  clear hmk hb5 ho5 hb35 hsm hrd5
  go_wp2_with fail
  refine HSM.out.mono ?_
  rintro e w6 ⟨rfl, hb6⟩
  have ho6 := HO5.out.below hb6
  have hl6 := lay_any w6 w3.heap.size _ (leBytes 4 n) (sumR lsn (bodyR r)).toNat 4 4 rfl (by omega) ho6 (by have := HB35.out.size; have := hb6.size; omega) (by rw [leBytes_length]; omega)
  have HL6 := Lib.hid hl6
  have HB36 : Hid (Below w3.heap.size w3 w6) := HB35.out.trans (hb6.mono HB35.out.size)
  have HR6 := Lib.hid (HR5.out.below hb6)
  clear ho6 hl6 hb6
  go_wp2_with fail
  refine HL6.out.mono ?_
  rintro e w7 ⟨v7, rfl, ho7, hb7⟩
  obtain ⟨g7, n7, c7, rfl, HN7, hg7, -⟩ := ho7.formN (by simp only [List.length_append, leBytes_length]; omega)
  have hb37 : Below w3.heap.size w3 w7 := HB36.out.trans hb7
  have hrd7 : RdB NoF w7 (.slice (some ⟨g, 0, none⟩) n cp) (bodyR r) := RdB.below (HO3.out.rd (fun _ _ => noF _)) hb37
  obtain ⟨v8, w8, hr8, h81, h82, h83, h84⟩ := append_bytes (ty := 41) ho7 hrd7 (by simp only [List.length_append, leBytes_length]; have := HN.out; omega) hb37.size
  obtain ⟨g8, n8, c8, rfl, HN8, hg8, hlt8⟩ := OwnB.formN h81 (by simp only [List.length_append, leBytes_length]; omega)
  have hb38 : Below w3.heap.size w3 w8 := hb37.grown h82 hb37.size (fun k hk => (ho7.lt k hk).1)
  have HE : Hid (leBytes 4 n ++ leBytes 4 (sumR lsn (bodyR r)).toNat ++ bodyR r = recB r lsn) := by unfold recB; rw [HN.out]; rfl
  have HR8 := Lib.hid hr8
  have HB38 := Lib.hid hb38
  have HO8 := Lib.hid h81
  clear h81 h82 h83 h84 hr8 hb38 hrd7 hb37 ho7 hb7
  go_wp2_with (at_builtin; refine wpList_append_eq rfl rfl HR8.out rfl rfl ?_)
  go_ret2
  refine ⟨g8, n8, c8, rfl, ?_, ?_, HB3.out.trans (HB38.out.mono HB3.out.size)⟩
  · rw [← HE.out]; exact HN8
  · rw [← HE.out]; exact ownsRow_base HO8.out (fun k hk => by have := (HO8.out.lt k hk).1; have := HB3.out.size; omega)
end Mun
end

section
/- Contracts of a device's operations on the log and the mark. -/
set_option maxRecDepth 100000
set_option linter.unusedVariables false
namespace Mun
open Go Go.RowKit
open Go.Proofs

section
variable {w w' : World} {D : Nat} {m m' : DM} {d : DV}

theorem dfoot_sub (d : DV) (lv mv tv tl : Value) (n : Nat) (hL : ∀ k, lv.ownBlock = some k → d.lv.ownBlock = some k ∨ n ≤ k) : ∀ k, k < n → dfoot D { d with lv := lv, mv := mv, tv := tv, tl := tl } k → dfoot D d k := by
  intro k hk h
  rcases h with h | h | h | h | h
  · exact .inl h
  · exact .inr (.inl h)
  · exact .inr (.inr (.inl h))
  · exact .inr (.inr (.inr (.inl h)))
  · rcases hL k h with h | h
    · exact .inr (.inr (.inr (.inr h)))
    · omega

theorem dfootE_sub (d : DV) (lv mv tv tl : Value) (n : Nat) (hL : ∀ k, lv.ownBlock = some k → d.lv.ownBlock = some k ∨ n ≤ k) : ∀ k, k < n → dfootE D { d with lv := lv, mv := mv, tv := tv, tl := tl } k → dfootE D d k := by
  intro k hk h
  rcases h with h | h
  · exact .inl (dfoot_sub d lv mv tv tl n hL k hk h)
  · exact .inr h

/-- the log, the mark, the torn write, the tail, the numbers have turned: no page has -/
theorem DRep.upd (h : DRep w D (dfootE D d) m d) (lv mv tv tl : Value)
    (hsame : ∀ k, k < w.heap.size → k ≠ D → d.lv.ownBlock ≠ some k → w'.heap[k]? = w.heap[k]?)
    (hblk : w'.heap[D]? = some (.cells (dcells m' m'.base.length { d with lv := lv, mv := mv, tv := tv, tl := tl }) 95 (0, 0)))
    (hb : m'.base = m.base) (hw : m'.waiting = m.waiting) (hL : ∀ k, lv.ownBlock = some k → d.lv.ownBlock = some k ∨ w.heap.size ≤ k)
    (hlog : OwnB w' 0 5 lv m'.log)
    (hmark : (mv = d.mv ∧ m'.mark = m.mark) ∨ RdB (dfootE D { d with lv := lv, mv := mv, tv := tv, tl := tl }) w' mv m'.mark)
    (htail : (tl = d.tl ∧ m'.tail = m.tail) ∨ RdB (dfootE D { d with lv := lv, mv := mv, tv := tv, tl := tl }) w' tl m'.tail)
    (htorn : (tv = d.tv ∧ m'.torn = m.torn) ∨ TornV (dfootE D { d with lv := lv, mv := mv, tv := tv, tl := tl }) w' tv m'.torn) :
    DRep w' D (dfootE D { d with lv := lv, mv := mv, tv := tv, tl := tl }) m' { d with lv := lv, mv := mv, tv := tv, tl := tl } := by
  have ko : ∀ k, k < w.heap.size → ¬ dfootE D d k → w'.heap[k]? = w.heap[k]? := fun k h1 h2 => hsame k h1 (fun e => h2 (.inl (.inl e))) (fun e => h2 (.inl (.inr (.inr (.inr (.inr e))))))
  have hF := dfootE_sub (D := D) d lv mv tv tl w.heap.size hL
  refine ⟨hblk, (hsame _ (Array.getElem?_eq_some_iff.1 h.pgs).1 (Ne.symm h.neP) h.nePL).trans h.pgs, by rw [hb]; exact h.pgn, fun i hi => ?_,
    ownsRow_keep h.wrow (fun k h' => hsame k (h.wrow.lt k h').2 (fun e => h.neW (e ▸ h')) (fun e => h.neWL k h' e)), by rw [hw]; exact h.wws,
    fun p hp => RdV.keep (h.wrd p hp) ko hF, h.mp.keep (hsame _ h.mp.lt (Ne.symm h.neM) h.neML), h.mpe, h.mpk, hlog, ?_, ?_, ?_,
    fun k hE => lt_of_same (h.elt k hE) (hsame k (h.elt k hE) (fun e => h.eown k hE (.inl e)) (fun e => h.eown k hE (.inr (.inr (.inr (.inr e)))))),
    fun k hE hd => h.eown k hE (dfoot_sub d lv mv tv tl w.heap.size hL k (h.elt k hE) hd)⟩
  · obtain ⟨v, h1, h2⟩ := h.pgv i (by rw [hb] at hi; exact hi)
    refine ⟨v, h1, ?_⟩
    have : m'.base[i] = m.base[i]'(by rw [hb] at hi; exact hi) := by congr 1
    rw [this]
    exact h2.keep ko hF
  · rcases hmark with ⟨h1, h2⟩ | h1
    · show RdB _ w' mv m'.mark
      rw [h1, h2]; subst h1; exact RdV.keep h.mark ko hF
    · exact h1
  · rcases htail with ⟨h1, h2⟩ | h1
    · show RdB _ w' tl m'.tail
      rw [h1, h2]; subst h1; exact RdV.keep h.tail ko hF
    · exact h1
  · rcases htorn with ⟨h1, h2⟩ | h1
    · show TornV _ w' tv m'.torn
      rw [h1, h2]; subst h1; exact h.torn.keep ko hF
    · exact h1

theorem chg_alloc {F : Foot} (w : World) (o : Obj) : Chg F F w (w.alloc o) := Chg.of_below ((Below.refl _ _).alloc (Nat.le_refl _) o) F

/-- a field of the device's block is set to bytes just made -/
theorem same_allocSet (w : World) (o : Obj) (D i : Nat) (v : Value) (k : Nat) (hk : k < w.heap.size) (hD : k ≠ D) : ((w.alloc o).setCell ⟨D, i, none⟩ v).heap[k]? = w.heap[k]? :=
  (setCell_heap _ _ v k hD).trans (alloc_get w o k hk)

theorem blk_allocSet {w : World} (o : Obj) {D i : Nat} {c : Array Value} {e : TypeId} (h : w.heap[D]? = some (.cells c e (0, 0))) (v : Value) :
    ((w.alloc o).setCell ⟨D, i, none⟩ v).heap[D]? = some (.cells (c.setIfInBounds i v) e (0, 0)) :=
  setCell_blk ((alloc_get w o D (Array.getElem?_eq_some_iff.1 h).1).trans h) v

theorem RdB.set {F : Foot} {w : World} {v : Value} {l : List UInt8} (h : RdB F w v l) (a : Addr) (u : Value) (hF : F a.block) : RdB F (w.setCell a u) v l := h.chg (chg_setCell w a u hF)

theorem OwnB.setOther {w : World} {base : Nat} {e : TypeId} {v : Value} {l : List UInt8} (h : OwnB w base e v l) (a : Addr) (u : Value) (hne : v.ownBlock ≠ some a.block) : OwnB (w.setCell a u) base e v l :=
  ownsRow_keep h (fun k hk => setCell_heap w a u k (fun e => hne (e ▸ hk)))

theorem maxLen_ge {n : Nat} (h : n ≤ 140737488355328) : n ≤ maxLen := by unfold maxLen; omega

theorem new_rd (h : DRep w D (dfootE D d) m d) (l : List UInt8) (hl : l.length ≤ 140737488355328) (i : Nat) (u : Value) : RdB (dfootE D d) ((w.alloc (bobj l)).setCell ⟨D, i, none⟩ u) (.slice (some ⟨w.heap.size, 0, none⟩) l.length l.length) l :=
  (bobj_rd w l _ rfl (maxLen_ge hl) (fun hk => absurd (h.foot_lt _ hk) (Nat.lt_irrefl _))).set _ u (.inl (.inl rfl))

theorem DRep.setMark (h : DRep w D (dfootE D d) m d) (l : List UInt8) (hl : l.length ≤ 140737488355328) :
    DRep ((w.alloc (bobj l)).setCell ⟨D, 6, none⟩ (.slice (some ⟨w.heap.size, 0, none⟩) l.length l.length)) D (dfootE D d) { m with mark := l } { d with mv := .slice (some ⟨w.heap.size, 0, none⟩) l.length l.length } := by
  refine h.upd d.lv (.slice (some ⟨w.heap.size, 0, none⟩) l.length l.length) d.tv d.tl (fun k hk hD _ => same_allocSet w _ D 6 _ k hk hD) ?_ rfl rfl (fun k hk => .inl hk) ?_ (.inr ?_) (.inl ⟨rfl, rfl⟩) (.inl ⟨rfl, rfl⟩)
  · rw [blk_allocSet _ h.blk]
    simp [dcells]
  · exact OwnB.setOther (OwnB.below h.log ((Below.refl _ _).alloc (Nat.le_refl _) _)) _ _ h.neL
  · exact new_rd h l hl 6 _

theorem DRep.setTail (h : DRep w D (dfootE D d) m d) (l : List UInt8) (hl : l.length ≤ 140737488355328) :
    DRep ((w.alloc (bobj l)).setCell ⟨D, 11, none⟩ (.slice (some ⟨w.heap.size, 0, none⟩) l.length l.length)) D (dfootE D d) { m with tail := l } { d with tl := .slice (some ⟨w.heap.size, 0, none⟩) l.length l.length } := by
  refine h.upd d.lv d.mv d.tv (.slice (some ⟨w.heap.size, 0, none⟩) l.length l.length) (fun k hk hD _ => same_allocSet w _ D 11 _ k hk hD) ?_ rfl rfl (fun k hk => .inl hk) ?_ (.inl ⟨rfl, rfl⟩) (.inr ?_) (.inl ⟨rfl, rfl⟩)
  · rw [blk_allocSet _ h.blk]
    simp [dcells]
  · exact OwnB.setOther (OwnB.below h.log ((Below.refl _ _).alloc (Nat.le_refl _) _)) _ _ h.neL
  · exact new_rd h l hl 11 _

theorem chg_allocSet (w : World) (o : Obj) (D i : Nat) (v : Value) (d : DV) : Chg (dfoot D d) (dfoot D d) w ((w.alloc o).setCell ⟨D, i, none⟩ v) := (chg_alloc w o).trans (chg_setCell _ _ _ (.inl rfl))

/-- the answer of an operation -/
def DPost (w : World) (D : Nat) (E F : Foot) (r : DM × Int) : Ending → World → Prop := fun e w' => e = .returned (.int .i64 r.2) ∧ ∃ F', DiskAt w' D E F' r.1 ∧ Chg F F' w w'

theorem DPost.same {E F : Foot} {r : DM × Int} {k : Int} (h : DiskAt w D E F m) (hr : r = (m, k)) : DPost w D E F r (.returned (.int .i64 k)) w := by
  subst hr
  exact ⟨rfl, F, h, Chg.refl _ _⟩
theorem DPost.of {d' : DV} {E F F' G : Foot} {r : DM × Int} {k : Int} (hr : r = (m', k)) (h : DRep w' D G m' d') (hF : F' = dfoot D d') (hwf : m'.Wf) (hc : Chg F F' w w') (hG : G = dfootE D d' := by rfl) (hE : d'.E = E := by rfl) : DPost w D E F r (.returned (.int .i64 k)) w' := by
  subst hr
  subst hF
  subst hG
  exact ⟨rfl, _, ⟨d', rfl, hE, h, hwf⟩, hc⟩
end

section
variable (w : World) (D : Nat) (F : Foot) {E : Foot} (m : DM)

theorem spend_base (m : DM) : m.spend.base = m.base := by unfold DM.spend; split <;> rfl
theorem spend_log (m : DM) : m.spend.log = m.log := by unfold DM.spend; split <;> rfl
theorem spend_room (m : DM) : m.spend.room = m.room := by unfold DM.spend; split <;> rfl
theorem spend_tail (m : DM) : m.spend.tail = m.tail := by unfold DM.spend; split <;> rfl
theorem spend_dead {m : DM} (h : m.fuse = 0) : m.spend.dead = true := by unfold DM.spend; rw [if_pos h]
theorem d_force (h : DiskAt w D E F m) (ho : m.ops < 4398046511104) : Calls Tryz.prog 73 #[.pointer (some ⟨D, 0, none⟩)] w (DPost w D E F m.force) := by
  have h0 := h
  obtain ⟨d, rfl, rfl, h, hwf⟩ := h
  have c9 := h.cell 9
  simp only [dcells] at c9
  cases hd : m.dead with
  | true =>
    rw [hd] at c9
    have HR : Hid (m.force = (m, 9)) := by show _ = _; simp [DM.force, hd]
    have HO := Lib.hid h0
    clear h0 h hd hwf
    go_enter Tryz.func73, Tryz.ntmps73
    go_wp2
    go_ret
    exact DPost.same HO.out HR.out
  | false =>
    rw [hd] at c9
    have hct := d_counts_rep w D m d h hwf ho
    by_cases hf : m.fuse = 0
    · have HR : Hid (m.force = (m.spend, 9)) := by show _ = _; simp [DM.force, hd, hf]
      rw [show decide (m.fuse ≠ 0) = false by simp [hf]] at hct
      clear h0 h hd hf
      have HW := Lib.hid (DM.spend_wf hwf)
      clear hwf
      go_enter Tryz.func73, Tryz.ntmps73
      go_wp2_with fail
      refine hct.mono ?_
      rintro e w1 ⟨rfl, hr1, hc1⟩
      have HD := Lib.hid hr1
      have HC := Lib.hid hc1
      clear hr1 hc1 hct
      go_wp2
      go_ret
      exact DPost.of HR.out HD.out rfl HW.out HC.out
    · have HR : Hid (m.force = ({ m.spend with certain := m.log.length }, 0)) := by show _ = _; simp [DM.force, hd, hf]
      rw [show decide (m.fuse ≠ 0) = true by simp [hf]] at hct
      have HW := Lib.hid (DM.spend_wf hwf)
      clear h0 h hd hf hwf
      go_enter Tryz.func73, Tryz.ntmps73
      go_wp2_with fail
      refine hct.mono ?_
      rintro e w1 ⟨rfl, hr1, hc1⟩
      have HD := Lib.hid hr1
      have HC := Lib.hid hc1
      have k4 := hr1.cell 4
      have k5 := hr1.cell 5
      have f5 := hr1.frozen 5
      simp only [dcells] at k4 k5
      have hrd : RdB NoF w1 d.lv m.log := by
        have := hr1.log.rd (F := NoF) (fun _ _ => noF _)
        rwa [spend_log] at this
      obtain ⟨a, n, c, hlv, HN, hlc, hcm⟩ := hrd.formN
      rw [hlv] at k4
      clear hr1 hc1 hct hrd
      go_wp2
      go_ret
      rw [HN.out]
      refine DPost.of HR.out (HD.out.set1 5 _ _ ?_ rfl rfl rfl rfl rfl rfl) rfl ⟨by rw [spend_log]; exact Nat.le_refl _, HW.out.room, HW.out.room24, HW.out.pages, HW.out.npages, HW.out.waiting, HW.out.nwait, HW.out.mark, HW.out.fuse1, HW.out.fuse2, HW.out.torn, HW.out.alive⟩ (HC.out.trans (chg_setCell _ _ _ (.inl rfl)))
      simp [dcells]

end
end Mun
end

section
/- Contracts of what reads a body: a byte, a number, where it stands well. -/
set_option maxRecDepth 100000
set_option linter.unusedVariables false
set_option linter.unusedSimpArgs false
namespace Mun
open Go Go.RowKit
open Go.Proofs

/-- a cursor: what is left of a body -/
structure CurAt (F : Foot) (w : World) (C : Nat) (v : Value) (l : List UInt8) : Prop where
  blk : w.heap[C]? = some (.cells #[v] 175 (0, 0))
  rd : RdB F w v l
  hC : F C

theorem CurAt.cell {F : Foot} {w : World} {C : Nat} {v : Value} {l : List UInt8} (h : CurAt F w C v l) : w.cell? ⟨C, 0, none⟩ = some v := cell_of_one h.blk
theorem CurAt.free {F : Foot} {w : World} {C : Nat} {v : Value} {l : List UInt8} (h : CurAt F w C v l) : w.frozen? ⟨C, 0, none⟩ = false := free_of_one h.blk
theorem CurAt.set {F : Foot} {w : World} {C : Nat} {v u : Value} {l l' : List UInt8} (h : CurAt F w C v l) (hr : RdB F w u l') : CurAt F (w.setCell ⟨C, 0, none⟩ u) C u l' :=
  ⟨one_setCell h.blk, hr.chg (chg_setCell w _ u h.hC), h.hC⟩
theorem CurAt.below {F : Foot} {w w' : World} {C : Nat} {v : Value} {l : List UInt8} (h : CurAt F w C v l) (hb : Below w.heap.size w w') : CurAt F w' C v l :=
  ⟨by rw [hb.block C (lt_of_block h.blk)]; exact h.blk, RdB.below h.rd hb, h.hC⟩
theorem CurAt.lt {F : Foot} {w : World} {C : Nat} {v : Value} {l : List UInt8} (h : CurAt F w C v l) : C < w.heap.size := lt_of_block h.blk

/-- what a step of the cursor leaves -/
def CPost (F : Foot) (w : World) (C : Nat) (l : List UInt8) (w' : World) : Prop := ∃ v', CurAt F w' C v' l ∧ Chg (B1 C) (B1 C) w w'

end Mun
end

section
/- Contracts of what reads a body: a small number, a chunk, a change. -/
set_option maxRecDepth 100000
set_option linter.unusedVariables false
set_option linter.unusedSimpArgs false
namespace Mun
open Go Go.RowKit
open Go.Proofs

/-- bytes just copied -/
def NewB (w w' : World) (v : Value) (b : List UInt8) : Prop := v = .slice (some ⟨w'.heap.size, 0, none⟩) b.length b.length

end Mun
end

section
/- Contract of what reads a change. -/
set_option maxRecDepth 100000
set_option linter.unusedVariables false
set_option linter.unusedSimpArgs false
namespace Mun
open Go Go.RowKit
open Go.Proofs

/-- a new block beside the cursor -/
structure BxC (F : Foot) (w0 w : World) (C g : Nat) (cs : Array Value) (ty : TypeId) (v : Value) (l : List UInt8) : Prop where
  blk : w.heap[g]? = some (.cells cs ty (0, 0))
  cur : CurAt F w C v l
  chg : Chg (B1 C) (B1 C) w0 w
  new : w0.heap.size ≤ g
  ne : C < w0.heap.size
  hg : F g

theorem block_setCell {w : World} {g i : Nat} {cs : Array Value} {ty : TypeId} (h : w.heap[g]? = some (.cells cs ty (0, 0))) (u : Value) : (w.setCell ⟨g, i, none⟩ u).heap[g]? = some (.cells (cs.setIfInBounds i u) ty (0, 0)) := by
  have hlt := lt_of_block h
  have h' : w.heap[g] = .cells cs ty (0, 0) := by simpa [Array.getElem?_eq_getElem hlt] using h
  show (w.heap.modify g _)[g]? = _
  rw [Array.getElem?_modify]
  simp [h]
theorem block_setCell_ne {w : World} {g k i : Nat} (u : Value) (h : k ≠ g) : (w.setCell ⟨g, i, none⟩ u).heap[k]? = w.heap[k]? := by
  show (w.heap.modify g _)[k]? = _
  rw [Array.getElem?_modify, if_neg (Ne.symm h)]

section
variable {F : Foot} {w0 w w' : World} {C g : Nat} {cs : Array Value} {ty : TypeId} {v : Value} {l l' : List UInt8}
theorem BxC.gC (h : BxC F w0 w C g cs ty v l) : C ≠ g := by have := h.new; have := h.ne; omega
theorem BxC.call (h : BxC F w0 w C g cs ty v l) (hp : CPost F w C l' w') : ∃ v', BxC F w0 w' C g cs ty v' l' := by
  obtain ⟨v', hc, hg⟩ := hp
  have hlt := lt_of_block h.blk
  exact ⟨v', by rw [hg.block g hlt (fun e => h.gC (Eq.symm e))]; exact h.blk, hc, h.chg.trans hg, h.new, h.ne, h.hg⟩
theorem BxC.set (h : BxC F w0 w C g cs ty v l) (i : Nat) (u : Value) : BxC F w0 (w.setCell ⟨g, i, none⟩ u) C g (cs.setIfInBounds i u) ty v l := by
  refine ⟨block_setCell h.blk u, ⟨by rw [block_setCell_ne u h.gC]; exact h.cur.blk, h.cur.rd.chg (chg_setCell w _ u h.hg), h.cur.hC⟩, ?_, h.new, h.ne, h.hg⟩
  have hs : (w.setCell ⟨g, i, none⟩ u).heap.size = w.heap.size := by simp [World.setCell]
  refine ⟨h.chg.os, h.chg.tape, h.chg.output, by rw [hs]; exact h.chg.size, fun k hk hn => ?_, fun k hk => ?_⟩
  · rw [block_setCell_ne u (by have := h.new; omega)]; exact h.chg.block k hk hn
  · rw [hs]; exact h.chg.foot k hk
theorem BxC.cell (h : BxC F w0 w C g cs ty v l) (i : Nat) : w.cell? ⟨g, i, none⟩ = cs[i]? := cell_of_row w g i _ _ _ h.blk
theorem BxC.free (h : BxC F w0 w C g cs ty v l) (i : Nat) : w.frozen? ⟨g, i, none⟩ = false := by simp [World.frozen?, h.blk]
theorem BxC.start (hc : CurAt F w C v l) (cs : Array Value) (ty : TypeId) (hg : F w.heap.size) : BxC F w (w.alloc (.cells cs ty)) C w.heap.size cs ty v l :=
  ⟨heap_alloc_new w _, hc.below ((Below.refl _ _).alloc (Nat.le_refl _) _), chg_alloc w _, Nat.le_refl _, hc.lt, hg⟩
end

end Mun
end
