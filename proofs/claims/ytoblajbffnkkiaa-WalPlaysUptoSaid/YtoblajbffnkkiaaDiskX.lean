/- The contract of a device's Crash. -/
import Derived.Test.YtoblajbffnkkiaaMgD
import Derived.StillTailTactics
import Derived.Deep.Cut
import Derived.Deep.RegionHeldLaw
import Derived.Deep.DeepCutAuto
set_option maxRecDepth 1000000
set_option linter.unusedVariables false
namespace Mun
open Go Go.RowKit
open Go.Proofs

/-- the new device while it is being made: w is the world at the call -/
structure CrAt (w wr : World) (D : Nat) (G : Foot) (m : DM) (d : DV) : Prop where
  rep : DRep wr D (dfootE D d) m d
  below : Below w.heap.size w wr
  own : ∀ k, dfoot D d k → w.heap.size ≤ k
  hE : d.E = G

/-- an append whose run is known, at a step of a region that draws -/
theorem xstep_append_eq {P : Program} {ops : Array Oper} {o : Oper} {a : Act} {w : World} {K : Act → World → Prop} {Q : Exit → Act → World → Prop} {E : Prop} (hgd : o.guard = none) {s x : Operand} {t : TypeId}
    (ho : o.op = .call { callee := .builtin .append, args := #[s, x], argTypes := #[t, t] }) {v sv v' : Value} {w' : World}
    (hr : (Builtin.append_ #[t, t] o.type #[v, sv]).run P w = .ok v' w') (hs : a.eval s = v) (hx : a.eval x = sv) (h : K (a.put o.dst v') w') :
    if Region.wanted o (yielded ops a.tmps) = true then Oper.wp P o a w K Q else E := by
  have hw : Region.wanted o (yielded ops a.tmps) = true := by simp [Region.wanted, hgd]
  rw [if_pos hw]
  unfold Oper.wp
  simp [execOp, ho, resolve, invoke, builtin, hs, hx, hr, Result.andThen]
  exact h

theorem bytes_info : (Try.prog.info? 5).map (·.size) = some 1 := by kernel_rfl

/-- a copy onto bytes just made -/
theorem copy_into {F : Foot} {ty : TypeId} (W : World) (l l2 : List UInt8) (src : Value) (hs : RdB F (W.alloc (bobj l)) src l2) (h : l2.length ≤ l.length) :
    (Builtin.copy_ #[23, 23] ty #[.slice (some ⟨W.heap.size, 0, none⟩) l.length l.length, src]).run Try.prog (W.alloc (bobj l)) = .ok (goInt l2.length) (W.alloc (bobj (l2 ++ l.drop l2.length))) := by
  by_cases h0 : l2.length = 0
  · obtain rfl : l2 = [] := List.eq_nil_of_length_eq_zero h0
    obtain ⟨a, c, rfl, -⟩ := hs.form
    exact run_copy_none (P := Try.prog) _ _ _ ty _ _ _ _ _ _ _ Try.underlying23 bytes_info (Nat.zero_min _)
  · obtain ⟨g, off, c, rfl, _, _, _, _, hc⟩ := RdV.at_ hs (by omega)
    have hr := run_copy_row (P := Try.prog) (W.alloc (bobj l)) 23 23 ty 5 W.heap.size 0 l.length l.length ⟨g, off, none⟩ l2.length c (bv l).toArray 5 (bv l2) Try.underlying23 bytes_info
      (heap_alloc_new W _) (by rw [bv_length]; exact (Nat.min_eq_left h).symm) (fun j u hu => by rw [addr_add]; exact hc j u hu) (by simp [bv]; exact h) (bv_oneCell l2)
    rw [hr, bv_length]
    congr 1
    rw [show bobj l = .cells (bv l).toArray 5 from rfl, setRow_alloc]
    simp [bobj, bv, List.map_drop]

/-- a page copied onto noughts, be it nil or not -/
theorem copy_page {F : Foot} {ty : TypeId} (W : World) (u : Value) (b : Bytes) (hb : b.length = 512) (hu : PgV F (W.alloc (bobj page0)) u b) :
    ∃ r : Nat, (Builtin.copy_ #[23, 23] ty #[.slice (some ⟨W.heap.size, 0, none⟩) 512 512, u]).run Try.prog (W.alloc (bobj page0)) = .ok (goInt r) (W.alloc (bobj b)) := by
  rcases hu with ⟨rfl, rfl⟩ | hu
  · exact ⟨0, run_copy_none (P := Try.prog) _ _ _ ty _ _ _ _ _ _ _ Try.underlying23 bytes_info (Nat.zero_min _)⟩
  · refine ⟨b.length, ?_⟩
    have := copy_into (ty := ty) W page0 b u hu (by rw [hb, page0_length]; exact Nat.le_refl _)
    rw [page0_length] at this
    rw [this, List.drop_eq_nil_of_le (by rw [page0_length, hb]; exact Nat.le_refl _), List.append_nil]

/-- the new device with such pages -/
def crM (m : DM) (base : List Bytes) : DM := { DM.new m.base.length m.room with base := base }

theorem and1_i64' (q : Nat) (hq : q < 256) : bits .and .i64 (q : Int) 1 = ((q % 2 : Nat) : Int) := by
  rw [i64_and_low (q : Int) 1 (by decide) 1 (by decide) (by decide)]
  omega

theorem wcells_length (l : List (Nat × (Bytes × Value))) : (wcells l).length = l.length * 2 := by
  induction l with
  | nil => rfl
  | cons a l ih => simp only [wcells, List.flatMap_cons, List.length_append, List.length_cons, List.length_nil] at ih ⊢; omega

theorem wcells_get (l : List (Nat × (Bytes × Value))) (i : Nat) (h : i < l.length) : (wcells l)[i * 2]? = some (.int .i64 l[i].1) ∧ (wcells l)[i * 2 + 1]? = some l[i].2.2 := by
  induction l generalizing i with
  | nil => simp at h
  | cons a l ih =>
    cases i with
    | zero => exact ⟨rfl, rfl⟩
    | succ i =>
      have := ih i (by simpa using h)
      simp only [wcells, List.flatMap_cons] at this ⊢
      have e1 : (i + 1) * 2 = i * 2 + 2 := by omega
      rw [e1, List.getElem?_append_right (by simp), List.getElem?_append_right (by simp)]
      simp only [List.length_cons, List.length_nil, List.getElem_cons_succ]
      have e2 : i * 2 + 2 - (0 + 1 + 1) = i * 2 := by omega
      have e3 : i * 2 + 2 + 1 - (0 + 1 + 1) = i * 2 + 1 := by omega
      rw [e2, e3]
      exact this

theorem CrAt.grow {w wr w' : World} {D : Nat} {G : Foot} {m : DM} {d : DV} (h : CrAt w wr D G m d) (hb : Below wr.heap.size wr w') : CrAt w w' D G m d :=
  ⟨h.rep.below hb, h.below.trans (hb.mono h.below.size), h.own, h.hE⟩
theorem CrAt.more {w wr : World} {D : Nat} {G : Foot} {m : DM} {d : DV} (h : CrAt w wr D G m d) (o : Obj) : CrAt w (wr.alloc o) D G m d := h.grow ((Below.refl _ _).alloc (Nat.le_refl _) o)
theorem CrAt.drewN {w wr : World} {D : Nat} {G : Foot} {m : DM} {d : DV} (h : CrAt w wr D G m d) (k : Nat) : CrAt w (wr.drewN k) D G m d := ⟨h.rep.drewN k, below_drewN h.below k, h.own, h.hE⟩
theorem CrAt.chg {w wr w' : World} {D : Nat} {G : Foot} {m m' : DM} {d d' : DV} (h : CrAt w wr D G m d) (hr : DRep w' D (dfootE D d') m' d') (hc : Chg (dfoot D d) (dfoot D d') wr w') (hE : d'.E = d.E := by rfl) : CrAt w w' D G m' d' :=
  ⟨hr, h.below.trans (hc.below h.below.size (fun k hk hF => by have := h.own k hF; omega)), fun k hk => by
    rcases hc.foot k hk with h1 | h1
    · exact h.own k h1
    · have := h.below.size; omega, hE.trans h.hE⟩
/-- what read at the call reads now, and is none of the new device's -/
theorem CrAt.rd {w wr : World} {D : Nat} {G : Foot} {m : DM} {d : DV} {F : Foot} (h : CrAt w wr D G m d) {v : Value} {b : Bytes} (hr : RdB F w v b) (hG : ∀ k, G k → F k := by exact fun _ h => h) : RdB (dfootE D d) wr v b :=
  RdV.keep hr (fun k hk _ => h.below.block k hk) (fun k hk hF => by
    rcases hF with hF | hF
    · have := h.own k hF; omega
    · exact hG k (h.hE ▸ hF))
theorem CrAt.rdN {w wr : World} {D : Nat} {G : Foot} {m : DM} {d : DV} {F : Foot} (h : CrAt w wr D G m d) {v : Value} {b : Bytes} (hr : RdB F w v b) : RdB NoF wr v b :=
  RdV.keep hr (fun k hk _ => h.below.block k hk) (fun k hk hF => hF.elim)

theorem CrAt.newLog {w wr w' : World} {D : Nat} {G : Foot} {m : DM} {d : DV} (h : CrAt w wr D G m d) (hb : Below wr.heap.size wr w') {lv : Value} {l : Bytes} (ho : OwnB w' wr.heap.size 5 lv l) :
    CrAt w (w'.setCell ⟨D, 4, none⟩ lv) D G { m with log := l } { d with lv := lv } := by
  refine h.chg (m' := { m with log := l }) (d' := { d with lv := lv }) ?_ ?_
  · refine h.rep.upd lv d.mv d.tv d.tl (fun k hk hD _ => (setCell_heap _ _ _ _ hD).trans (hb.block k hk)) ?_ rfl rfl (fun k hk => .inr ((ownBlock_lt ho hk).1)) ?_ (.inl ⟨rfl, rfl⟩) (.inl ⟨rfl, rfl⟩) (.inl ⟨rfl, rfl⟩)
    · rw [setCell_blk ((hb.block D h.rep.D_lt).trans h.rep.blk)]
      simp [dcells]
    · exact OwnB.setOther (ownsRow_base ho (fun _ _ => Nat.zero_le _)) _ _ (fun e => absurd (ownBlock_lt ho e).1 (Nat.not_le.2 h.rep.D_lt))
  · refine ⟨hb.os, hb.tape, hb.output, by rw [setCell_size]; exact hb.size, fun k hk hn => (setCell_heap _ _ _ _ (fun e => hn (.inl e))).trans (hb.block k hk), ?_⟩
    intro k hk
    rcases hk with h1 | h1 | h1 | h1 | h1
    · exact .inl (.inl h1)
    · exact .inl (.inr (.inl h1))
    · exact .inl (.inr (.inr (.inl h1)))
    · exact .inl (.inr (.inr (.inr (.inl h1))))
    · have := ownBlock_lt ho h1
      refine .inr ?_
      rw [setCell_size]; omega

theorem CrAt.setCertain {w wr : World} {D : Nat} {G : Foot} {m : DM} {d : DV} (h : CrAt w wr D G m d) (n : Nat) : CrAt w (wr.setCell ⟨D, 5, none⟩ (.int .i64 n)) D G { m with certain := n } d :=
  h.chg (h.rep.set1 5 _ { m with certain := n } (by simp [dcells]) rfl rfl rfl rfl rfl rfl) (chg_setCell _ _ _ (.inl rfl))

theorem CrAt.setMark {w wr : World} {D : Nat} {G : Foot} {m : DM} {d : DV} (h : CrAt w wr D G m d) (l : Bytes) (hl : l.length ≤ 140737488355328) :
    CrAt w ((wr.alloc (bobj l)).setCell ⟨D, 6, none⟩ (.slice (some ⟨wr.heap.size, 0, none⟩) l.length l.length)) D G { m with mark := l } { d with mv := .slice (some ⟨wr.heap.size, 0, none⟩) l.length l.length } :=
  h.chg (h.rep.setMark l hl) (chg_allocSet _ _ _ _ _ d)

theorem CrAt.below_wr {w wr : World} {D : Nat} {G : Foot} {m : DM} {d : DV} (h : CrAt w wr D G m d) : w.heap.size ≤ wr.heap.size := h.below.size

set_option maxHeartbeats 4000000 in
theorem d_crash (w : World) (D : Nat) (F : Foot) {E : Foot} (m : DM) (h : DiskAt w D E F m) (ho : m.ops < 4398046511104) (v : Value) (c : Bytes) (hv : RdB F w v c) :
    Calls Try.prog 21 #[.pointer (some ⟨D, 0, none⟩), v] w fun e w' => e = .returned (.pointer (some ⟨w.heap.size + 2, 0, none⟩)) ∧ ∃ F', DiskAt w' (w.heap.size + 2) (fun k => F k ∨ E k) F' (m.crash c) ∧ Below w.heap.size w w' ∧ (∀ k, F' k → w.heap.size ≤ k) := by
  obtain ⟨d, rfl, rfl, h, hwf⟩ := h
  obtain ⟨va, vn, vc, rfl, HVN, hvlc, hvcm⟩ := hv.formN
  have c0 := h.cell 0
  have c1 := h.cell 1
  simp only [dcells] at c0 c1
  have HD := Lib.hid h
  have HW := Lib.hid hwf
  have HV := Lib.hid hv
  have hfr := d_fresh w.drew m.base.length m.room hwf.npages hwf.room24
  have HO := Lib.hid ho
  clear h hwf hv ho
  go_enter Try.func21, Try.ntmps21
  go_wp2
  go_still_tail 9, (by kernel_rfl)
  change wpList _ _ _ _ _ w.drew
  obtain ⟨wd, hwd⟩ : ∃ wd, w.drew = wd := ⟨_, rfl⟩
  rw [hwd] at hfr ⊢
  go_wp2_with fail
  refine hfr.mono ?_
  rintro e w2 ⟨rfl, hw2⟩
  have hsz : wd.heap.size = w.heap.size := by rw [← hwd]; rfl
  have hbd : Below w.heap.size w wd := by rw [← hwd]; exact below_drewN (Below.refl _ _) 1
  have hnr := new_rep wd m.base.length m.room (dfootE D d) (fun k hk => by rw [hsz]; exact HD.out.foot_lt k hk)
  rw [hsz] at hnr
  have hcr : CrAt w w2 (w.heap.size + 2) (dfootE D d) (DM.new m.base.length m.room) (newDV wd m.base.length (dfootE D d)) := by
    refine ⟨by rw [← hw2]; exact hnr, ?_, ?_, rfl⟩
    · rw [← hw2]
      unfold newWorld
      exact below_more (below_more (below_more hbd _) _) _
    · intro k hk
      rcases hk with h | h | h | h | h
      · omega
      · rw [h]; show _ ≤ wd.heap.size; omega
      · rw [h]; show _ ≤ wd.heap.size + 1; omega
      · simp [newDV, Value.ownBlock] at h
      · simp [newDV, Value.ownBlock] at h
  obtain ⟨d2, hd2⟩ : ∃ d2, newDV wd m.base.length (dfootE D d) = d2 := ⟨_, rfl⟩
  have hP2 : d2.P = w.heap.size := by rw [← hd2]; exact hsz
  have hpg2 : d2.pg = (List.replicate m.base.length (Value.slice none 0 0)).toArray := by rw [← hd2]; rfl
  rw [hd2] at hcr
  have hlv2 : d2.lv = .slice none 0 0 := by rw [← hd2]; rfl
  obtain ⟨D2, hD2⟩ : ∃ D2, w.heap.size + 2 = D2 := ⟨_, rfl⟩
  rw [hD2] at hcr
  rw [hsz, hD2]
  have HC2 := Lib.hid hcr
  have HP2 := Lib.hid hP2
  have HPG2 := Lib.hid hpg2
  have HLV2 := Lib.hid hlv2
  -- region 3: the pages are copied
  have hold : DRep w2.drew D (dfootE D d) m d := (HD.out.below HC2.out.below).drewN 1
  have q1 : w2.drew.cell? ⟨D, 1, none⟩ = some (.slice (some ⟨d.P, 0, none⟩) m.base.length m.base.length) := hold.cell 1
  have n1 : w2.drew.cell? ⟨D2, 1, none⟩ = some (.slice (some ⟨d2.P, 0, none⟩) m.base.length m.base.length) := by
    have := (HC2.out.drewN 1).rep.cell 1
    refine this.trans ?_
    simp [dcells, DM.new]
  have q1' : w2.cell? ⟨D, 1, none⟩ = some (.slice (some ⟨d.P, 0, none⟩) m.base.length m.base.length) := q1
  have n1' : w2.cell? ⟨D2, 1, none⟩ = some (.slice (some ⟨d2.P, 0, none⟩) m.base.length m.base.length) := n1
  have hone : ∀ u ∈ d.pg.toList, u.oneCell' = true := by
    intro u hu
    obtain ⟨i, hi, rfl⟩ := List.getElem_of_mem hu
    have hi' : i < m.base.length := by rw [← HD.out.pgn]; simpa using hi
    obtain ⟨x, hx1, hx2⟩ := HD.out.pgv i hi'
    have : some (d.pg.toList[i]) = some x := by
      rw [← hx1, Array.getElem?_eq_getElem (by rw [HD.out.pgn]; exact hi')]
      simp
    rw [Option.some.inj this]
    rcases hx2 with ⟨hx2, _⟩ | hx2
    · rw [hx2]; rfl
    · obtain ⟨xa, xc, hx2, -⟩ := hx2.form
      rw [hx2]; rfl
  have hcopy := run_copy_row (P := Try.prog) w2.drew 90 90 3 23 d2.P 0 m.base.length m.base.length ⟨d.P, 0, none⟩ m.base.length m.base.length d2.pg 23 d.pg.toList Try.underlying90 (by kernel_rfl)
    (HC2.out.drewN 1).rep.pgs (by rw [Array.length_toList, HD.out.pgn]; exact (Nat.min_self _).symm) (fun j u hu => by
      rw [addr_add, Nat.zero_add, cell_of_row w2.drew d.P j _ _ _ hold.pgs]
      simpa using hu) (by rw [HPG2.out, Array.length_toList, HD.out.pgn]; simp) hone
  have hrow : (List.take 0 d2.pg.toList ++ d.pg.toList ++ List.drop (0 + d.pg.toList.length) d2.pg.toList).toArray = d.pg := by
    rw [List.drop_eq_nil_of_le (by rw [HPG2.out, Array.length_toList, Array.length_toList, HD.out.pgn]; simp)]
    simp
  rw [hrow, Array.length_toList, HD.out.pgn] at hcopy
  clear hrow hone hpg2 hP2 hlv2 hd2 hcr hnr hbd hsz hwd hw2 hfr hold q1 n1 c0 c1
  go_wp2
  go_still_tail 8, (by kernel_rfl)
  change wpList _ _ _ _ _ w2.drew
  obtain ⟨w3, hw3⟩ : ∃ w3, w2.drew.setRow d2.P d.pg = w3 := ⟨_, rfl⟩
  rw [hw3] at hcopy
  have hrep3 : DRep w3 D2 (dfootE D2 { d2 with pg := d.pg }) (crM m m.base) { d2 with pg := d.pg } := by
    rw [← hw3]
    refine (HC2.out.drewN 1).rep.pages d.pg m.base (fun k _ hk => setRow_other _ _ _ _ hk) (setRow_heap _ _ _ _ _ _ (HC2.out.drewN 1).rep.pgs) ?_ ?_ (fun i hi => ?_)
    · rw [HD.out.pgn]; simp [DM.new]
    · simp [DM.new]
    · obtain ⟨x, hx1, hx2⟩ := HD.out.pgv i hi
      refine ⟨x, hx1, hx2.keep (fun k hk hF => ?_) (fun k hk hF => ?_)⟩
      · rw [setRow_other _ _ _ _ (by rw [HP2.out]; omega)]
        exact (HC2.out.drewN 1).below.block k hk
      · rcases hF with hF | hF
        · have := HC2.out.own k hF
          omega
        · have e : d2.E = dfootE D d := HC2.out.hE
          have hF' : d2.E k := hF
          rwa [e] at hF'
  have hcr3 : CrAt w w3 D2 (dfootE D d) (crM m m.base) { d2 with pg := d.pg } := by
    refine (HC2.out.drewN 1).chg hrep3 ?_
    rw [← hw3]
    exact ⟨rfl, rfl, rfl, by simp [World.setRow, Array.size_modify], fun k _ hn => setRow_other _ _ _ _ (fun e => hn (.inr (.inl e))), fun k hk => .inl hk⟩
  have HC3 := Lib.hid hcr3
  have k2 : w3.cell? ⟨D, 2, none⟩ = some d.wv := (HD.out.below hcr3.below).cell 2
  have hwrd : RdV NoF w 2 d.wv d.ws.length (wcells d.ws) := RdV.of_own HD.out.wrow (fun _ _ => noF _)
  obtain ⟨wa, wc, hwv, hwlc, hwcm⟩ := hwrd.form
  have hwl : d.ws.length = m.waiting.length := by rw [HD.out.wws, List.length_map]
  obtain ⟨nw, hnw⟩ : ∃ nw, d.ws.length = nw := ⟨_, rfl⟩
  rw [hwv, hnw] at k2
  have HWV := Lib.hid hwv
  have HNW := Lib.hid hnw
  have HWL := Lib.hid hwl
  have hnw42 : (nw : Int) < 4398046511104 := by have := HW.out.nwait; have := HO.out; omega
  have HWRD := Lib.hid hwrd
  clear hrep3 hcr3 hw3 hwv hnw hwl hwrd hwlc hwcm
  go_wp2
  go_loopw [38] (fun i wr => ∃ (j : Nat) (d2 : DV), j ≤ nw ∧ i = .int .i64 (j : Int) ∧ CrAt w wr D2 (dfootE D d) (crM m (crashBase m c j)) d2) (fun i _ => nw - (intOf i).toNat)
  case atStart => exact ⟨0, _, by omega, rfl, HC3.out⟩
  case round =>
    obtain ⟨j, d3, hj, rfl, hcr⟩ := hrel
    rcases Nat.lt_or_eq_of_le hj with hlt | heq
    · have hjl : j < d.ws.length := by rw [HNW.out]; exact hlt
      obtain ⟨x, hx⟩ : ∃ x, d.ws[j] = x := ⟨_, rfl⟩
      have hxm : x ∈ d.ws := by rw [← hx]; exact List.getElem_mem hjl
      have hxr := HD.out.wrd x hxm
      obtain ⟨sa, sn, sc, hsv, -, -, -⟩ := hxr.formN
      have hxw : m.waiting[j]? = some (x.1, x.2.1) := by rw [HD.out.wws, List.getElem?_map, List.getElem?_eq_getElem hjl, hx]; rfl
      have hxp := HW.out.waiting (x.1, x.2.1) (List.mem_of_getElem? hxw)
      have hwr : RdV NoF wr 2 d.wv d.ws.length (wcells d.ws) := RdV.keep HWRD.out (fun k hk _ => hcr.below.block k hk) (fun _ _ h => h)
      obtain ⟨wg, woff, wc', hwv', -, -, -, -, hcells⟩ := hwr.at_ (by omega)
      have hgx := wcells_get d.ws j hjl
      rw [hx] at hgx
      have q0 := hcells (j * 2) _ hgx.1
      have q1 := hcells (j * 2 + 1) _ hgx.2
      rw [← Nat.add_assoc] at q1
      rw [HWV.out] at hwv'
      injection hwv' with e1 e2 e3
      subst e1 e3
      rw [hsv] at q1
      have hat : ∀ W, CrAt w W D2 (dfootE D d) (crM m (crashBase m c j)) d3 → Calls Try.prog 44 #[.slice va vn vc, .int .i64 j] W fun e w' => e = .returned (.int .i64 (chAt c j)) ∧ W = w' :=
        fun W hW => chAt_any W _ c (hW.rdN HV.out) j (by omega)
      have hjn : (j : Int) < (nw : Int) := by omega
      have hj0 : (0 : Int) ≤ (j : Int) := by omega
      have HCR := Lib.hid hcr
      have HXR := Lib.hid hxr
      have HSV := Lib.hid hsv
      have HXW := Lib.hid hxw
      have HXP := Lib.hid hxp
      have HAT := Lib.hid hat
      have HLT := Lib.hid hlt
      clear hcr hxr hsv hxw hxp hat hgx hcells hwr hxm hx hjl hlt e2 hj
      go_wp2_with fail
      obtain ⟨w4, hw4⟩ : ∃ w4, wr.alloc (.cells #[.int .i64 x.1, .slice sa sn sc] 99) = w4 := ⟨_, rfl⟩
      rw [hw4]
      have hcr4 : CrAt w w4 D2 (dfootE D d) (crM m (crashBase m c j)) d3 := by rw [← hw4]; exact HCR.out.more _
      have ht4 : w4.heap[wr.heap.size]? = some (.cells #[.int .i64 x.1, .slice sa sn sc] 99 (0, 0)) := by rw [← hw4]; exact heap_alloc_new wr _
      have kt0 : w4.cell? ⟨wr.heap.size, 0, none⟩ = some (.int .i64 x.1) := cell_of_row w4 _ 0 _ _ _ ht4
      have kt1 : w4.cell? ⟨wr.heap.size, 1, none⟩ = some (.slice sa sn sc) := cell_of_row w4 _ 1 _ _ _ ht4
      have hbl : (crM m (crashBase m c j)).base.length = m.base.length := crashBase_length m c j
      have kn1 : w4.cell? ⟨D2, 1, none⟩ = some (.slice (some ⟨d3.P, 0, none⟩) m.base.length m.base.length) := by
        have := hcr4.rep.cell 1
        rw [hbl] at this
        exact this
      have hxlt : x.1 < d3.pg.size := by rw [hcr4.rep.pgn, hbl]; exact HXP.out.1
      have kP : ∃ u, w4.cell? ⟨d3.P, x.1, none⟩ = some u := by
        rw [cell_of_row w4 d3.P x.1 _ _ _ hcr4.rep.pgs, Array.getElem?_eq_getElem hxlt]
        exact ⟨_, rfl⟩
      obtain ⟨uP, kP⟩ := kP
      have fP : w4.frozen? ⟨d3.P, x.1, none⟩ = false := by simp [World.frozen?, hcr4.rep.pgs]
      have hxb : (x.1 : Int) < (m.base.length : Int) := by have := HXP.out.1; omega
      have hx0 : (0 : Int) ≤ (x.1 : Int) := by omega
      have hatc := HAT.out w4 hcr4
      have hb1 := and1_i64' (chAt c j) (chAt_lt c j)
      have HNX : Hid (crashBase m c (j + 1) = if chAt c j % 2 = 0 then (crashBase m c j).set x.1 x.2.1 else crashBase m c j) := by
        show _ = _
        rw [crashBase, HXW.out]
      have HCR4 := Lib.hid hcr4
      have HBL := Lib.hid hbl
      clear hw4 hcr4 ht4 hbl hxlt
      obtain ⟨z, hz⟩ : ∃ z, chAt c j = z := ⟨_, rfl⟩
      rw [hz] at hatc hb1 HNX
      clear hz
      rcases Nat.mod_two_eq_zero_or_one z with hz | hz
      · rw [hz] at hb1 HNX
        clear hz
        rw [if_pos rfl] at HNX
        refine hatc.mono ?_
        rintro e w5 ⟨rfl, rfl⟩
        go_wp2
        go_still_tail 9, (by kernel_rfl)
        change wpList _ _ _ _ _ w4.drew
        go_wp2
        go_roundw
        case rel =>
          have h1 := (HCR4.out.drewN 1).rep.setPage x.1 (by rw [HBL.out]; exact HXP.out.1) (.slice sa sn sc) x.2.1 (by
            have := (HCR4.out.drewN 1).rd HXR.out
            rwa [HSV.out] at this)
          refine ⟨j + 1, { d3 with pg := d3.pg.setIfInBounds x.1 (.slice sa sn sc) }, by have := HLT.out; omega, by go_num, ?_⟩
          rw [HNX.out]
          exact (HCR4.out.drewN 1).chg h1 (chg_setCell _ _ _ (.inr (.inl rfl)))
        case measure => have := HLT.out; simp [intOf]; omega
      · rw [hz] at hb1 HNX
        clear hz
        rw [if_neg (by decide)] at HNX
        refine hatc.mono ?_
        rintro e w5 ⟨rfl, rfl⟩
        go_wp2
        go_roundw
        case rel =>
          refine ⟨j + 1, d3, by have := HLT.out; omega, by go_num, ?_⟩
          rw [HNX.out]
          exact HCR4.out
        case measure => have := HLT.out; simp [intOf]; omega
    · have HGK : Hid (¬ j < nw) := by show ¬ _; omega
      have HJ := Lib.hid heq
      clear heq hj
      have hold : DRep wr D (dfootE D d) m d := HD.out.below hcr.below
      have k10 := hold.cell 10
      simp only [dcells] at k10
      have k2r : wr.cell? ⟨D, 2, none⟩ = some (.slice wa nw wc) := by
        have := hold.cell 2
        rw [this]
        simp only [dcells]
        rw [HWV.out, HNW.out]
        rfl
      have hcw : crashBase m c j = crashBase m c m.waiting.length := by rw [HJ.out, ← HNW.out, HWL.out]
      rw [hcw] at hcr
      have HCR := Lib.hid hcr
      have HOLD := Lib.hid hold
      have hat : Calls Try.prog 44 #[.slice va vn vc, .int .i64 nw] wr fun e w' => e = .returned (.int .i64 (chAt c nw)) ∧ wr = w' := chAt_any wr _ c (hcr.rdN HV.out) nw (by omega)
      have htorn := hold.torn
      clear hcw hcr hold hnw42
      have htvf : ∃ tx : Option Addr, d.tv = .pointer tx := by
        cases ht : m.torn with
        | none => rw [ht] at htorn; exact ⟨_, htorn⟩
        | some p => rw [ht] at htorn; obtain ⟨t, sv, htv, -⟩ := htorn; exact ⟨_, htv⟩
      obtain ⟨tx, htx⟩ := htvf
      rw [htx] at k10
      have HTX := Lib.hid htx
      have HTN := Lib.hid htorn
      clear htx htorn
      go_upto_if 62 with (refine wp_cond_split rfl (fun h => absurd (of_decide_eq_true h) HGK.out) (fun h => ?_); clear h)
      go_cut [] (fun wx => ∃ d8, CrAt w wx D2 (dfootE D d) (crM m (m.crashPages c)) d8)
      case first =>
        cases ht : m.torn with
        | none =>
          have htorn := HTN.out
          rw [ht, HTX.out] at htorn
          simp only [TornV, Value.pointer.injEq] at htorn
          subst htorn
          have HP : Hid (m.crashPages c = crashBase m c m.waiting.length) := by show _ = _; unfold DM.crashPages; rw [ht]
          clear ht
          have hfin : CrAt w wr D2 (dfootE D d) (crM m (m.crashPages c)) d3 := by rw [HP.out]; exact HCR.out
          have HFIN := Lib.hid hfin
          clear hfin hat k2r
          go_wp2
          go_meet
          exact ⟨_, HFIN.out⟩
        | some p =>
          have htorn := HTN.out
          rw [ht] at htorn
          obtain ⟨t, sv, htv, htF, hth, htr⟩ := htorn
          rw [HTX.out] at htv
          injection htv with htv
          subst htv
          have htv : d.tv = _ := HTX.out
          have hpt := HW.out.torn p ht
          have hb512 : 0 < List.length p.2 := by rw [hpt.2]; decide
          obtain ⟨sg, soff, sc, hsv, hsc1, hsc2, _, hsg, hsc⟩ := RdV.at_ htr hb512
          rw [hpt.2] at hsv hsc1
          subst hsv
          have kt0 : wr.cell? ⟨t, 0, none⟩ = some (.int .i64 p.1) := cell_of_row wr t 0 _ _ _ hth
          have kt1 : wr.cell? ⟨t, 1, none⟩ = some (.slice (some ⟨sg, soff, none⟩) 512 sc) := cell_of_row wr t 1 _ _ _ hth
          have hms : (Instr.makeSlice 23 (.int .i64 512) (.int .i64 512)).run Try.prog wr = .ok (.slice (some ⟨wr.heap.size, 0, none⟩) 512 512) (wr.alloc (bobj page0)) := make_bytes 512 512 (Nat.le_refl _) (by decide) wr
          have HP : Hid (m.crashPages c = (crashBase m c m.waiting.length).set p.1 (m.tornBytes c ((crashBase m c m.waiting.length).getD p.1 page0) p.2)) := by show _ = _; unfold DM.crashPages; rw [ht]
          obtain ⟨z, hz⟩ : ∃ z, chAt c nw = z := ⟨_, rfl⟩
          have hz256 : (z : Int) < 256 := by rw [← hz]; have := chAt_lt c nw; omega
          rw [hz] at hat
          have HZ := Lib.hid hz
          clear hz
          have HTH := Lib.hid hth
          have HTR := Lib.hid htr
          have HPT := Lib.hid hpt
          have HTV := Lib.hid htv
          have HTF := Lib.hid htF
          have HSC := Lib.hid hsc
          clear hth htr hpt htF hsc ht htv hb512
          go_wp2_with fail
          refine hat.mono ?_
          rintro e w5 ⟨rfl, rfl⟩
          go_wp2
          -- the block of noughts; the page that was there, copied onto it
          have HN1 : Hid ((crM m (crashBase m c m.waiting.length)).base.length = m.base.length) := by show _ = _; exact crashBase_length m c _
          obtain ⟨w5, hw5⟩ : ∃ w5, wr.alloc (bobj page0) = w5 := ⟨_, rfl⟩
          rw [hw5]
          have hcr5 : CrAt w w5 D2 (dfootE D d) (crM m (crashBase m c m.waiting.length)) d3 := by rw [← hw5]; exact HCR.out.more _
          have hold5 : DRep w5 D (dfootE D d) m d := HD.out.below hcr5.below
          have kn1 : w5.cell? ⟨D2, 1, none⟩ = some (.slice (some ⟨d3.P, 0, none⟩) m.base.length m.base.length) := by
            have := hcr5.rep.cell 1
            rw [HN1.out] at this
            exact this
          have hpl : p.1 < m.base.length := HPT.out.1
          obtain ⟨u, hu1, hu2⟩ := hcr5.rep.pgv p.1 (by rw [HN1.out]; exact hpl)
          have kP : w5.cell? ⟨d3.P, p.1, none⟩ = some u := by rw [cell_of_row w5 d3.P p.1 _ _ _ hcr5.rep.pgs]; exact hu1
          have k10' : w5.cell? ⟨D, 10, none⟩ = some (.pointer (some ⟨t, 0, none⟩)) := by
            have := k10
            rw [← hw5, World.cell?_alloc_lt _ _ _ HOLD.out.D_lt, this]
            rfl
          have htl : t < wr.heap.size := (Array.getElem?_eq_some_iff.1 HTH.out).1
          have kt0' : w5.cell? ⟨t, 0, none⟩ = some (.int .i64 p.1) := by rw [← hw5, World.cell?_alloc_lt _ _ _ htl]; exact kt0
          have kt1' : w5.cell? ⟨t, 1, none⟩ = some (.slice (some ⟨sg, soff, none⟩) 512 sc) := by rw [← hw5, World.cell?_alloc_lt _ _ _ htl]; exact kt1
          have hpb : (p.1 : Int) < (m.base.length : Int) := by omega
          have hp0 : (0 : Int) ≤ (p.1 : Int) := by omega
          obtain ⟨old, hold'⟩ : ∃ old, (crashBase m c m.waiting.length).getD p.1 page0 = old := ⟨_, rfl⟩
          have hlen : old.length = 512 := by rw [← hold']; exact crashBase_get HW.out c _ _ hpl
          have hu3 : PgV (dfootE D2 d3) (wr.drew.alloc (bobj page0)) u old := by
            have e : (crM m (crashBase m c m.waiting.length)).base[p.1]'(by rw [HN1.out]; exact hpl) = old := by
              rw [← hold', List.getD_eq_getElem?_getD, List.getElem?_eq_getElem (by rw [crashBase_length]; exact hpl)]
              rfl
            rw [e, ← hw5] at hu2
            exact hu2
          obtain ⟨r13, hcp13⟩ := copy_page (ty := 3) wr.drew u old hlen hu3
          have hsz13 : wr.drew.heap.size = wr.heap.size := rfl
          rw [hsz13] at hcp13
          rw [show wr.drew.alloc (bobj page0) = w5.drew from by rw [← hw5]; rfl] at hcp13
          have hum : ∃ ua un uc, u = .slice ua un uc := by
            rcases hu3 with ⟨h, _⟩ | h
            · exact ⟨_, _, _, h⟩
            · obtain ⟨ua, uc, h, -⟩ := h.form
              exact ⟨_, _, _, h⟩
          obtain ⟨ua, un, uc, rfl⟩ := hum
          have HOL := Lib.hid (And.intro hold' hlen)
          have HC5 := Lib.hid hcr5
          clear hold' hlen hu3 hu2 hu1 hsz13 hw5 hcr5 hold5 htl hpl k10 kt0 kt1 hms k2r
          go_still_tail 14, (by kernel_rfl)
          change wpList _ _ _ _ _ w5.drew
          obtain ⟨w6, hw6⟩ : ∃ w6, wr.drew.alloc (bobj old) = w6 := ⟨_, rfl⟩
          rw [hw6] at hcp13
          have hw6s : ∀ k, k < wr.heap.size → w6.heap[k]? = wr.heap[k]? := fun k hk => by rw [← hw6]; exact alloc_get wr.drew _ k hk
          have hcr6 : CrAt w w6 D2 (dfootE D d) (crM m (crashBase m c m.waiting.length)) d3 := by rw [← hw6]; exact (HCR.out.drewN 1).more _
          have hold6 : DRep w6 D (dfootE D d) m d := HD.out.below hcr6.below
          have j10 : w6.cell? ⟨D, 10, none⟩ = some (.pointer (some ⟨t, 0, none⟩)) := by
            have := hold6.cell 10
            refine this.trans ?_
            simp only [dcells]
            rw [HTV.out]
            rfl
          have hth6 : w6.heap[t]? = _ := (hw6s t (Array.getElem?_eq_some_iff.1 HTH.out).1).trans HTH.out
          have jt0 : w6.cell? ⟨t, 0, none⟩ = some (.int .i64 p.1) := cell_of_row w6 t 0 _ _ _ hth6
          have jt1 : w6.cell? ⟨t, 1, none⟩ = some (.slice (some ⟨sg, soff, none⟩) 512 sc) := cell_of_row w6 t 1 _ _ _ hth6
          have jn1 : w6.cell? ⟨D2, 1, none⟩ = some (.slice (some ⟨d3.P, 0, none⟩) m.base.length m.base.length) := by
            have := hcr6.rep.cell 1
            rw [HN1.out] at this
            exact this
          obtain ⟨Z, hZ⟩ : ∃ Z : Nat, z / 2 % 5 * 128 = Z := ⟨_, rfl⟩
          have hZ512 : Z ≤ 512 := by have := Nat.mod_lt (z / 2) (by decide : 0 < 5); omega
          have hZi : (z : Int) / 2 % 5 * 128 = (Z : Int) := by omega
          have hsl := slice_to (some ⟨sg, soff, none⟩) 512 sc Z (Z : Int) rfl (by omega) (.inr ⟨sg, soff, rfl⟩) w6
          have hrd6 : RdB NoF w6 (.slice (some ⟨sg, soff, none⟩) Z sc) (p.2.take Z) := by
            refine rd_of_cells (by rw [List.length_take, HPT.out.2]; omega) (by omega) hsc2 (noF _) (fun i hi => ?_)
            rw [List.length_take, HPT.out.2] at hi
            rw [addr_add]
            have h1 := HSC.out i (.int .u8 (((p.2.take Z)[i]'(by rw [List.length_take, HPT.out.2]; exact hi)).toNat : Int)) (by
              rw [bv_getElem?, List.getElem_take, List.getElem?_eq_getElem (by rw [HPT.out.2]; omega)]
              rfl)
            obtain ⟨_, cur, e, fr, hh, _⟩ := cell_block h1
            have hlt := (Array.getElem?_eq_some_iff.1 hh).1
            have e6 : w6.cell? ⟨sg, soff + i, none⟩ = wr.cell? ⟨sg, soff + i, none⟩ := by
              rw [cell_of_row w6 sg (soff + i) cur e fr ((hw6s sg hlt).trans hh), cell_of_row wr sg (soff + i) cur e fr hh]
            rw [e6]
            exact h1
          have hcp14 := copy_into (ty := 3) wr.drew old (p.2.take Z) _ (by rw [← hw6] at hrd6; exact hrd6) (by rw [List.length_take, HPT.out.2, HOL.out.2]; omega)
          rw [HOL.out.2, hw6] at hcp14
          have hsz14 : wr.drew.heap.size = wr.heap.size := rfl
          rw [hsz14] at hcp14
          obtain ⟨w7, hw7⟩ : ∃ w7, wr.drew.alloc (bobj (p.2.take Z ++ old.drop (p.2.take Z).length)) = w7 := ⟨_, rfl⟩
          rw [hw7] at hcp14
          have HC6 := Lib.hid hcr6
          have HW6 := Lib.hid hw6
          have HW7 := Lib.hid hw7
          have HZ2 := Lib.hid (And.intro hZ hZ512)
          clear hcr6 hold6 hth6 hrd6 hw6s hsz14 hZ512 hw6 hw7 hZ
          have hcr7 : CrAt w w7 D2 (dfootE D d) (crM m (crashBase m c m.waiting.length)) d3 := by rw [← HW7.out]; exact (HCR.out.drewN 1).more _
          have hold7 : DRep w7 D (dfootE D d) m d := HD.out.below hcr7.below
          have i10 : w7.cell? ⟨D, 10, none⟩ = some (.pointer (some ⟨t, 0, none⟩)) := by
            have := hold7.cell 10
            refine this.trans ?_
            simp only [dcells]
            rw [HTV.out]
            rfl
          have hth7 : w7.heap[t]? = _ := (by rw [← HW7.out]; exact alloc_get wr.drew _ t (Array.getElem?_eq_some_iff.1 HTH.out).1 : w7.heap[t]? = wr.heap[t]?).trans HTH.out
          have it0 : w7.cell? ⟨t, 0, none⟩ = some (.int .i64 p.1) := cell_of_row w7 t 0 _ _ _ hth7
          have in1 : w7.cell? ⟨D2, 1, none⟩ = some (.slice (some ⟨d3.P, 0, none⟩) m.base.length m.base.length) := by
            have := hcr7.rep.cell 1
            rw [HN1.out] at this
            exact this
          have iP : ∃ u, w7.cell? ⟨d3.P, p.1, none⟩ = some u := by
            rw [cell_of_row w7 d3.P p.1 _ _ _ hcr7.rep.pgs, Array.getElem?_eq_getElem (by rw [hcr7.rep.pgn, HN1.out]; exact HPT.out.1)]
            exact ⟨_, rfl⟩
          obtain ⟨uP, iP⟩ := iP
          have fP : w7.frozen? ⟨d3.P, p.1, none⟩ = false := by simp [World.frozen?, hcr7.rep.pgs]
          have htb : p.2.take Z ++ old.drop (p.2.take Z).length = m.tornBytes c old p.2 := by
            have h1 := HZ2.out.1
            have h2 := HZ.out
            have h3 := HWL.out
            have h4 := HNW.out
            unfold DM.tornBytes
            rw [← h3, h4, h2, h1, List.length_take, HPT.out.2, Nat.min_eq_left HZ2.out.2]
          have htl512 : (m.tornBytes c old p.2).length = 512 := tornBytes_length c _ _ HOL.out.2 HPT.out.2
          have hnew7 : RdB (dfootE D2 d3) w7 (.slice (some ⟨wr.heap.size, 0, none⟩) 512 512) (m.tornBytes c old p.2) := by
            rw [← HW7.out, htb]
            have := bobj_rd (F := dfootE D2 d3) wr.drew (m.tornBytes c old p.2) (m.tornBytes c old p.2).length rfl (maxLen_ge (by omega)) (fun hk => absurd (HCR.out.rep.foot_lt _ hk) (Nat.lt_irrefl _))
            rw [htl512] at this
            exact this
          have hset := (hcr7.rep.drewN 1).setPage p.1 (by rw [HN1.out]; exact HPT.out.1) _ _ (hnew7.drewN 1)
          have hfin : CrAt w ((w7.drewN 1).setCell ⟨d3.P, p.1, none⟩ (.slice (some ⟨wr.heap.size, 0, none⟩) 512 512)) D2 (dfootE D d) (crM m (m.crashPages c)) { d3 with pg := d3.pg.setIfInBounds p.1 (.slice (some ⟨wr.heap.size, 0, none⟩) 512 512) } := by
            rw [HP.out, HOL.out.1]
            exact (hcr7.drewN 1).chg hset (chg_setCell _ _ _ (.inr (.inl rfl)))
          have HFIN := Lib.hid hfin
          clear hcr7 hold7 hth7 htb htl512 hnew7 hset hfin
          go_wp2
          go_still_tail 13, (by kernel_rfl)
          change wpList _ _ _ _ _ w7.drew
          go_wp2
          go_meet
          exact ⟨_, HFIN.out⟩
      case rest =>
        obtain ⟨d8, h8⟩ := hcut
        have HFIN := Lib.hid h8
        clear h8 k2r k10 hat
        obtain ⟨w8, hw8⟩ : ∃ w8, wc = w8 := ⟨_, rfl⟩
        rw [hw8] at HFIN ⊢
        clear hw8
        go_wp2_with fail
        have hold8 : DRep w8 D (dfootE D d) m d := HD.out.below HFIN.out.below
        have e4 : w8.cell? ⟨D, 4, none⟩ = some d.lv := hold8.cell 4
        have e5 : w8.cell? ⟨D, 5, none⟩ = some (.int .i64 m.certain) := hold8.cell 5
        have e11 : w8.cell? ⟨D, 11, none⟩ = some d.tl := hold8.cell 11
        have hlvf : ∃ la ln lc, d.lv = .slice la ln lc := by
          obtain ⟨la, lc, h, -⟩ := (OwnB.rd (F := NoF) hold8.log (fun _ _ => noF _)).form
          exact ⟨_, _, _, h⟩
        obtain ⟨la, ln, lc, hlv⟩ := hlvf
        have hlrd : RdB NoF w8 (.slice la ln lc) m.log := by rw [← hlv]; exact OwnB.rd hold8.log (fun _ _ => noF _)
        rw [hlv] at e4
        have hcl := HW.out.certain
        obtain ⟨ra, rc, hslr, hrrd⟩ := slice_bytes_from hlrd m.certain hcl
        have hl24 : m.log.length + m.tail.length ≤ 16777216 := by have := HW.out.room; have := HW.out.room24; omega
        have hcl16 := clone6 w8.drew _ _ (hrrd.drewN 1) (by rw [List.length_drop]; omega)
        obtain ⟨R1, hR1⟩ : ∃ R1, m.log.drop m.certain = R1 := ⟨_, rfl⟩
        rw [hR1] at hcl16 hrrd
        have hR1l : R1.length ≤ 16777216 := by rw [← hR1, List.length_drop]; omega
        have htlf : ∃ ta tn tc, d.tl = .slice ta tn tc := by
          obtain ⟨ta, tc, h, -⟩ := hold8.tail.form
          exact ⟨_, _, _, h⟩
        obtain ⟨ta, tn, tc, htl⟩ := htlf
        rw [htl] at e11
        obtain ⟨w9, hw9⟩ : ∃ w9, w8.drew.alloc (bobj R1) = w9 := ⟨_, rfl⟩
        rw [hw9] at hcl16
        have hold9 : DRep w9 D (dfootE D d) m d := by rw [← hw9]; exact (hold8.drewN 1).alloc _
        have hown9 : OwnB w9 0 5 (.slice (some ⟨w8.heap.size, 0, none⟩) R1.length R1.length) R1 := by
          rw [← hw9]
          exact bobj_own w8.drew R1 _ 0 rfl (maxLen_ge (by omega)) (Nat.zero_le _)
        have htrd : RdB (dfootE D d) w9 (.slice ta tn tc) m.tail := by rw [← htl]; exact hold9.tail
        obtain ⟨v10, w10, hrun10, hown10, hgr10, hwh10, -⟩ := append_bytes (ty := 23) hown9 htrd (by omega) (Nat.zero_le _)
        have hn10 : ∃ na nn nc, v10 = .slice na nn nc := by
          obtain ⟨na, nc, h, -⟩ := (OwnB.rd (F := NoF) hown10 (fun _ _ => noF _)).form
          exact ⟨_, _, _, h⟩
        obtain ⟨na, nn, nc, hn10⟩ := hn10
        subst hn10
        have hblk10 : w10.heap[D]? = w9.heap[D]? := by
          refine hgr10.block D hold9.D_lt (fun e => ?_)
          simp only [Value.ownBlock, Option.some.injEq] at e
          have := hold8.D_lt
          omega
        have hS8 : w8.drew.cell? ⟨D, 4, none⟩ = some (.slice la ln lc) ∧ w8.drew.cell? ⟨D, 5, none⟩ = some (.int .i64 m.certain) ∧ w8.drew.cell? ⟨D, 11, none⟩ = some (.slice ta tn tc) := ⟨e4, e5, e11⟩
        have hS9 : w9.cell? ⟨D, 4, none⟩ = some (.slice la ln lc) ∧ w9.cell? ⟨D, 5, none⟩ = some (.int .i64 m.certain) ∧ w9.cell? ⟨D, 11, none⟩ = some (.slice ta tn tc) := by
          refine ⟨?_, hold9.cell 5, ?_⟩
          · rw [← hlv]; exact hold9.cell 4
          · rw [← htl]; exact hold9.cell 11
        have hblk10' : w10.heap[D]? = some (.cells (dcells m m.base.length d) 95 (0, 0)) := hblk10.trans hold9.blk
        have hS10 : w10.cell? ⟨D, 4, none⟩ = some (.slice la ln lc) ∧ w10.cell? ⟨D, 5, none⟩ = some (.int .i64 m.certain) ∧ w10.cell? ⟨D, 11, none⟩ = some (.slice ta tn tc) := by
          refine ⟨?_, cell_of_row w10 D 5 _ _ _ hblk10', ?_⟩
          · rw [← hlv]; exact cell_of_row w10 D 4 _ _ _ hblk10'
          · rw [← htl]; exact cell_of_row w10 D 11 _ _ _ hblk10'
        have HRUN := Lib.hid hrun10
        have HCL16 := Lib.hid hcl16
        have H16 := Lib.hid (And.intro hown10 (And.intro hgr10 (And.intro hwh10 (And.intro hR1 (And.intro hR1l (And.intro hlv (And.intro htl (And.intro hw9 hlrd))))))))
        clear hrun10 hcl16 hown10 hgr10 hwh10 hR1 hR1l hlv htl hw9 hlrd hrrd htrd hown9 hblk10 hblk10' hold9 hold8 hl24 hcl
        go_region_held_law (fun W => W.cell? ⟨D, 4, none⟩ = some (.slice la ln lc) ∧ W.cell? ⟨D, 5, none⟩ = some (.int .i64 m.certain) ∧ W.cell? ⟨D, 11, none⟩ = some (.slice ta tn tc))
          (first | assumption | exact hS8 | exact hS9 | exact hS10)
          (first
          | (go_simp
             go_at_call 45
             refine HCL16.out.mono ?_
             rintro e W ⟨rfl, rfl⟩)
          | (refine xstep_append_eq rfl rfl HRUN.out rfl rfl ?_))
        all_goals simp only [List.getElem_toArray, List.getElem_cons_succ, List.getElem_cons_zero, List.setIfInBounds_toArray, List.set_cons_succ, List.set_cons_zero]
        obtain ⟨hown10, hgr10, hwh10, hR1, hR1l, hlv, htl, hw9, hlrd⟩ := H16.out
        have hb10 : Below w8.heap.size w8 w10 := by
          have hb9 : Below w8.heap.size w8 w9 := by rw [← hw9]; exact (below_drewN (Below.refl _ _) 1).alloc (Nat.le_refl _) _
          exact hb9.grown hgr10 (by rw [← hw9]; simp) (fun k hk => by simp [Value.ownBlock] at hk; omega)
        have hcr10 : CrAt w w10 D2 (dfootE D d) (crM m (m.crashPages c)) d8 := HFIN.out.grow hb10
        have hrest : RdB NoF w10 (.slice na nn nc) m.rest := by
          have := OwnB.rd (F := NoF) hown10 (fun _ _ => noF _)
          rw [← hR1] at this
          exact this
        have hnn : nn = m.rest.length := by
          obtain ⟨_, _, h, -⟩ := hrest.form
          injection h
        have hnn24 : nn ≤ 16777216 := by rw [hnn, rest_length HW.out]; have := HW.out.room; have := HW.out.room24; omega
        have hat0 : Calls Try.prog 44 #[.slice va vn vc, .int .i64 0] w10 fun e w' => e = .returned (.int .i64 (chAt c 0)) ∧ w10 = w' := chAt_any w10 _ c (hcr10.rdN HV.out) 0 (by decide)
        have hat1 : Calls Try.prog 44 #[.slice va vn vc, .int .i64 1] w10 fun e w' => e = .returned (.int .i64 (chAt c 1)) ∧ w10 = w' := chAt_any w10 _ c (hcr10.rdN HV.out) 1 (by decide)
        obtain ⟨z0, hz0⟩ : ∃ z0, chAt c 0 = z0 := ⟨_, rfl⟩
        obtain ⟨z1, hz1⟩ : ∃ z1, chAt c 1 = z1 := ⟨_, rfl⟩
        have hz0b : (z0 : Int) < 256 := by rw [← hz0]; have := chAt_lt c 0; omega
        have hz1b : (z1 : Int) < 256 := by rw [← hz1]; have := chAt_lt c 1; omega
        rw [hz0] at hat0
        rw [hz1] at hat1
        obtain ⟨K, hK⟩ : ∃ K : Nat, (z0 + 256 * z1) % (nn + 1) = K := ⟨_, rfl⟩
        have hKi : ((z0 : Int) + 256 * (z1 : Int)) % ((nn : Int) + 1) = (K : Int) := by rw [← hK]; push_cast; rfl
        have hKl : m.left c = K := by unfold DM.left; rw [hz0, hz1, ← hnn]; exact hK
        have hKn : K ≤ nn := by have := Nat.mod_lt (z0 + 256 * z1) (by omega : 0 < nn + 1); omega
        have HC10 := Lib.hid hcr10
        have HR10 := Lib.hid (And.intro hrest (And.intro hnn (And.intro hKl (And.intro hKn (And.intro hnn24 (And.intro hlv (And.intro htl hown10)))))))
        clear hown10 hgr10 hwh10 hR1 hR1l hlv htl hw9 hlrd hb10 hcr10 hrest hnn hz0 hz1 hK hKl hKn e4 e5 e11 hS8 hS9 hS10 hslr
        clear H16 HCL16 HRUN
        go_wp2_with fail
        refine hat0.mono ?_
        rintro e W ⟨rfl, rfl⟩
        go_wp2_with fail
        refine hat1.mono ?_
        rintro e W ⟨rfl, rfl⟩
        go_wp2_with fail
        rw [hKi]
        clear hat0 hat1 hz0b hz1b hnn24 hKi
        obtain ⟨hrest, hnn, hKl, hKn, hnn24, hlv, htl, hown10⟩ := HR10.out
        have hold10 : DRep w10 D (dfootE D d) m d := HD.out.below HC10.out.below
        have e4 : w10.cell? ⟨D, 4, none⟩ = some (.slice la ln lc) := by rw [← hlv]; exact hold10.cell 4
        have e5 : w10.cell? ⟨D, 5, none⟩ = some (.int .i64 m.certain) := hold10.cell 5
        have hlrd10 : RdB NoF w10 (.slice la ln lc) m.log := by rw [← hlv]; exact OwnB.rd hold10.log (fun _ _ => noF _)
        have hcl := HW.out.certain
        have hl24 : m.log.length + m.tail.length ≤ 16777216 := by have := HW.out.room; have := HW.out.room24; omega
        obtain ⟨pa, pc, hsl18, hprd⟩ := slice_bytes_to hlrd10 m.certain hcl
        obtain ⟨qa, qc, hsk18, hqrd⟩ := slice_bytes_to hrest K (by omega)
        have hcl18 := clone6 w10.drew _ _ (hprd.drewN 1) (by rw [List.length_take]; omega)
        obtain ⟨L1, hL1⟩ : ∃ L1, m.log.take m.certain = L1 := ⟨_, rfl⟩
        rw [hL1] at hcl18
        obtain ⟨w11, hw11⟩ : ∃ w11, w10.drew.alloc (bobj L1) = w11 := ⟨_, rfl⟩
        rw [hw11] at hcl18
        have hL1l : L1.length ≤ 16777216 := by rw [← hL1, List.length_take]; omega
        have hbw11 : Below w10.heap.size w10 w11 := by rw [← hw11]; exact (below_drewN (Below.refl _ _) 1).alloc (Nat.le_refl _) _
        have hown11 : OwnB w11 w10.heap.size 5 (.slice (some ⟨w10.heap.size, 0, none⟩) L1.length L1.length) L1 := by
          rw [← hw11]
          exact bobj_own w10.drew L1 _ _ rfl (maxLen_ge (by omega)) (Nat.le_refl _)
        obtain ⟨v12, w12, hrun12, hown12, hgr12, hwh12, -⟩ := append_bytes (ty := 23) hown11 (hqrd.below hbw11) (by rw [List.length_take]; omega) hbw11.size
        have hb12 : Below w10.heap.size w10 w12 := hbw11.grown hgr12 hbw11.size (fun k hk => by simp [Value.ownBlock] at hk; omega)
        have hcr12 : CrAt w w12 D2 (dfootE D d) (crM m (m.crashPages c)) d8 := HC10.out.grow hb12
        have hlog : L1 ++ m.rest.take K = m.crashLog c := by unfold DM.crashLog; rw [hL1, hKl]
        rw [hlog] at hown12
        have hcr13 := HC10.out.newLog hb12 hown12
        have s12c : w12.cell? ⟨D2, 4, none⟩ = some d8.lv := hcr12.rep.cell 4
        have s12f : w12.frozen? ⟨D2, 4, none⟩ = false := hcr12.rep.frozen 4
        have hn12 : ∃ oa oc, v12 = .slice oa (m.crashLog c).length oc := by
          obtain ⟨na, nc, h, -⟩ := (OwnB.rd (F := NoF) hown12 (fun _ _ => noF _)).form
          exact ⟨_, _, h⟩
        obtain ⟨oa, oc, hn12⟩ := hn12
        subst hn12
        obtain ⟨on, hon⟩ : ∃ on, (m.crashLog c).length = on := ⟨_, rfl⟩
        rw [hon] at hrun12 hcr13
        have hT10 : w10.drew.cell? ⟨D, 4, none⟩ = some (.slice la ln lc) ∧ w10.drew.cell? ⟨D, 5, none⟩ = some (.int .i64 m.certain) := ⟨e4, e5⟩
        have hold11 : DRep w11 D (dfootE D d) m d := HD.out.below (HC10.out.grow hbw11).below
        have hold12 : DRep w12 D (dfootE D d) m d := HD.out.below hcr12.below
        have hT11 : w11.cell? ⟨D, 4, none⟩ = some (.slice la ln lc) ∧ w11.cell? ⟨D, 5, none⟩ = some (.int .i64 m.certain) := ⟨by rw [← hlv]; exact hold11.cell 4, hold11.cell 5⟩
        have hT12 : w12.cell? ⟨D, 4, none⟩ = some (.slice la ln lc) ∧ w12.cell? ⟨D, 5, none⟩ = some (.int .i64 m.certain) := ⟨by rw [← hlv]; exact hold12.cell 4, hold12.cell 5⟩
        have hold13 : DRep (w12.setCell ⟨D2, 4, none⟩ (.slice oa on oc)) D (dfootE D d) m d := HD.out.below hcr13.below
        have hT13 : (w12.setCell ⟨D2, 4, none⟩ (.slice oa on oc)).cell? ⟨D, 4, none⟩ = some (.slice la ln lc) ∧ (w12.setCell ⟨D2, 4, none⟩ (.slice oa on oc)).cell? ⟨D, 5, none⟩ = some (.int .i64 m.certain) := ⟨by rw [← hlv]; exact hold13.cell 4, hold13.cell 5⟩
        have HRUN := Lib.hid hrun12
        have HCL18 := Lib.hid hcl18
        have H18 := Lib.hid (And.intro hcr13 hon)
        have hnnc : nn ≤ nc := by
          obtain ⟨_, _, h, h1, -⟩ := hrest.form
          injection h with _ e1 e2
          omega
        have hKi : (K : Int) ≤ (nn : Int) := by omega
        have hKc : (K : Int) ≤ (nc : Int) := by omega
        have hK0 : (0 : Int) ≤ (K : Int) := by omega
        clear hold13 hnnc hrun12 hcl18 hcr13 hon hold10 hold11 hold12 hcr12 hown12 hgr12 hwh12 hlog hb12 hown11 hbw11 hL1l hL1 hw11 hprd hqrd hl24 hcl hlrd10 hrest hnn hKl hKn hnn24 hlv htl hown10
        go_region_held_law (fun W => W.cell? ⟨D, 4, none⟩ = some (.slice la ln lc) ∧ W.cell? ⟨D, 5, none⟩ = some (.int .i64 m.certain))
          (first | assumption | exact hT10 | exact hT11 | exact hT12 | exact hT13)
          (first
          | (go_simp
             go_at_call 45
             refine HCL18.out.mono ?_
             rintro e W ⟨rfl, rfl⟩)
          | (refine xstep_append_eq rfl rfl HRUN.out rfl rfl ?_))
        obtain ⟨hcr13, hon⟩ := H18.out
        obtain ⟨w13, hw13⟩ : ∃ w13, w12.setCell ⟨D2, 4, none⟩ (.slice oa on oc) = w13 := ⟨_, rfl⟩
        rw [hw13] at hcr13 ⊢
        have n4 : w13.cell? ⟨D2, 4, none⟩ = some (.slice oa on oc) := hcr13.rep.cell 4
        have n5 : w13.cell? ⟨D2, 5, none⟩ = some (.int .i64 (0 : Nat)) := hcr13.rep.cell 5
        have f5 : w13.frozen? ⟨D2, 5, none⟩ = false := hcr13.rep.frozen 5
        have hcr14 := hcr13.setCertain on
        obtain ⟨w14, hw14⟩ : ∃ w14, w13.setCell ⟨D2, 5, none⟩ (.int .i64 (on : Nat)) = w14 := ⟨_, rfl⟩
        rw [hw14] at hcr14
        have HON := Lib.hid hon
        have H14 := Lib.hid hcr14
        have HW13 := Lib.hid hw13
        clear hcr13 hcr14 hw13 hon hT10 hT11 hT12 hT13 HCL18 HRUN H18 hKi hKc hK0 s12c s12f hsl18 hsk18 HC10 HR10
        have hm14 : RdB (dfootE D2 { d8 with lv := .slice oa on oc }) w14 d.mv m.mark := H14.out.rd HD.out.mark
        have hold14 : DRep w14 D (dfootE D d) m d := HD.out.below H14.out.below
        have g6 : w14.cell? ⟨D, 6, none⟩ = some d.mv := hold14.cell 6
        have hmf : ∃ ma mc, d.mv = .slice ma m.mark.length mc := by
          obtain ⟨ma, mc, h, -⟩ := hm14.form
          exact ⟨_, _, h⟩
        obtain ⟨ma, mc, hmv⟩ := hmf
        have hml := HW.out.mark
        have hcl20 := clone6 w14 _ _ hm14 (by omega)
        have hfin := H14.out.setMark m.mark (by omega)
        rw [hmv] at g6 hcl20
        obtain ⟨mn, hmn⟩ : ∃ mn, m.mark.length = mn := ⟨_, rfl⟩
        rw [hmn] at g6 hcl20 hfin
        obtain ⟨w15, hw15⟩ : ∃ w15, w14.alloc (bobj m.mark) = w15 := ⟨_, rfl⟩
        rw [hw15] at hcl20 hfin
        have hb15 : Below w14.heap.size w14 w15 := by rw [← hw15]; exact (Below.refl _ _).alloc (Nat.le_refl _) _
        have hcr15 := H14.out.grow hb15
        have n6 : w15.cell? ⟨D2, 6, none⟩ = some d8.mv := hcr15.rep.cell 6
        have f6 : w15.frozen? ⟨D2, 6, none⟩ = false := hcr15.rep.frozen 6
        have HFN := Lib.hid hfin
        have HWF := Lib.hid (DM.crash_wf HW.out c)
        clear hcr15 hb15 hw15 hmn hfin hml hmv hold14 hm14
        go_wp2_with fail
        refine hcl20.mono ?_
        rintro e W ⟨rfl, rfl⟩
        clear hcl20 g6 n4 n5 f5 hw14
        go_wp2
        go_ret
        rw [← hD2] at HFN ⊢
        refine ⟨rfl, _, ⟨_, rfl, HFN.out.hE, ?_, HWF.out⟩, HFN.out.below, HFN.out.own⟩
        have := HFN.out.rep
        have e : ({ ({ ({ crM m (m.crashPages c) with log := m.crashLog c }) with certain := on }) with mark := m.mark } : DM) = m.crash c := by
          rw [← HON.out]
          rfl
        rw [← e]
        exact this
end Mun
