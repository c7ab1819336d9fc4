/- Texts of mine, one behind the other: DiskE, DiskF, DiskG. -/
import Derived.Test.YtjfepmohoijalaaGreatMgI
import Derived.Deep.QuietTactic
import Derived.BigQuiet
import Derived.Deep.AppendLies
import Derived.Deep.RegionLaw
section
/- Contract of a device's Append. -/
set_option maxRecDepth 100000
set_option linter.unusedVariables false
namespace Mun
open Go Go.RowKit
open Go.Proofs

theorem DRep.drewN {w : World} {D : Nat} {m : DM} {d : DV} (h : DRep w D (dfootE D d) m d) (k : Nat) : DRep (w.drewN k) D (dfootE D d) m d := h.keep (fun _ _ => rfl)
theorem chg_drewN {F : Foot} (w : World) (k : Nat) : Chg F F w (w.drewN k) := ⟨rfl, rfl, rfl, Nat.le_refl _, fun _ _ _ => rfl, fun _ h => .inl h⟩
theorem DiskAt.drewN {w : World} {D : Nat} {E F : Foot} {m : DM} (h : DiskAt w D E F m) (k : Nat) : DiskAt (w.drewN k) D E F m := h.keep (fun _ _ => rfl)
theorem DPost.drewN {w w' : World} {D : Nat} {E F : Foot} {r : DM × Int} {e : Ending} {k : Nat} (h : DPost (w.drewN k) D E F r e w') : DPost w D E F r e w' := by
  obtain ⟨h1, F', h2, h3⟩ := h
  exact ⟨h1, F', h2, (chg_drewN w k).trans h3⟩

section
variable (w : World) (D : Nat) (F : Foot) {E : Foot} (m : DM)

theorem d_append (h : DiskAt w D E F m) (ho : m.ops < 4398046511104) (v : Value) (b : Bytes) (hv : RdB F w v b) : Calls Tryz.prog 54 #[.pointer (some ⟨D, 0, none⟩), v] w (DPost w D E F (m.append b)) := by
  have h0 := h
  obtain ⟨d, rfl, rfl, h, hwf⟩ := h
  have c9 := h.cell 9
  have c4 := h.cell 4
  have c0 := h.cell 0
  simp only [dcells] at c9 c4 c0
  have hrd : RdB NoF w d.lv m.log := h.log.rd (fun _ _ => noF _)
  have hlr0 := hwf.room
  have hlr : m.log.length ≤ m.room := by omega
  clear hlr0
  have hr24 := hwf.room24
  obtain ⟨a, n, c, hlv, HN, hlc, hcm⟩ := hrd.formN
  rw [hlv] at c4
  have HLV := Lib.hid hlv
  obtain ⟨a0, n0, c0', rfl, HN0, hlc0, hcm0⟩ := hv.formN
  cases hd : m.dead with
  | true =>
    rw [hd] at c9
    have HR : Hid (m.append b = (m, 9)) := by show _ = _; simp [DM.append, hd]
    have HO := Lib.hid h0
    clear h0 h hd hwf hrd hlv hv
    go_enter Tryz.func54, Tryz.ntmps54
    go_wp2
    go_ret
    exact DPost.same HO.out HR.out
  | false =>
    rw [hd] at c9
    rw [← HN.out] at hlr
    obtain ⟨R, hRr⟩ : ∃ R, m.room = R := ⟨_, rfl⟩
    have HRR := Lib.hid hRr
    rw [hRr] at c0 hlr hr24
    by_cases hfull : R < n + n0
    · have HR : Hid (m.append b = (m, 7)) := by show _ = _; rw [HN.out, HN0.out, ← hRr] at hfull; simp [DM.append, hd, hfull]
      have HO := Lib.hid h0
      have ht : (n0 : Int) > (R : Int) - (n : Int) := by omega
      clear h0 h hd hwf hrd hlv hv hRr hfull
      go_enter Tryz.func54, Tryz.ntmps54
      go_wp2
      go_quiet (fail)
      go_wp2
      go_ret
      exact DPost.drewN (DPost.same (HO.out.drewN _) HR.out)
    · have hnot : ¬ m.room < m.log.length + b.length := by rw [HN.out, HN0.out, ← hRr] at hfull; exact hfull
      have ht : ¬ (n0 : Int) > (R : Int) - (n : Int) := by omega
      have HS : Hid (m.log.length + b.length ≤ 16777216) := by show _ ≤ _; rw [← HN.out, ← HN0.out]; omega
      have hct := fun k => d_counts_rep (w.drewN k) D m d (h.drewN k) hwf ho
      by_cases hf : m.fuse = 0
      · have HR : Hid (m.append b = ({ m.spend with tail := b }, 9)) := by show _ = _; unfold DM.append; rw [hd, if_neg (by simp), if_neg hnot, if_pos hf]
        rw [show decide (m.fuse ≠ 0) = false by simp [hf]] at hct
        have HW := Lib.hid (DM.spend_wf hwf)
        have HV := Lib.hid hv
        have HSD := Lib.hid (spend_dead hf)
        have HNR : Hid (m.log.length + b.length ≤ m.room) := by show _ ≤ _; omega
        clear h0 h hd hf hwf hrd hlv hv hRr hfull hnot
        go_enter Tryz.func54, Tryz.ntmps54
        go_wp2
        go_quiet (fail)
        go_wp2_with fail
        refine (hct _).mono ?_
        rintro e w1 ⟨rfl, hr1, hc1⟩
        have HD := Lib.hid hr1
        have HC := Lib.hid hc1
        clear hr1 hc1 hct
        go_wp2_with fail
        refine (clone6 w1 _ b ((HV.out.drewN _).chg HC.out) (by have := HS.out; omega)).mono ?_
        rintro e w2 ⟨rfl, hw2⟩
        have hr2 : DRep w2 D (dfootE D d) m.spend d := by rw [← hw2]; exact HD.out.alloc _
        have k6 := hr2.cell 11
        have f6 := hr2.frozen 11
        simp only [dcells] at k6
        have HW2 := Lib.hid hw2
        clear hr2 hw2
        go_wp2
        go_ret
        rw [← HW2.out]
        refine DPost.drewN (DPost.of HR.out (HD.out.setTail b (by have := HS.out; omega)) rfl ⟨HW.out.certain, ?_, HW.out.room24, HW.out.pages, HW.out.npages, HW.out.waiting, HW.out.nwait, HW.out.mark, HW.out.fuse1, HW.out.fuse2, HW.out.torn, fun h => by rw [show m.spend.dead = true from HSD.out] at h; cases h⟩ (HC.out.trans (chg_allocSet _ _ _ _ _ _)))
        show m.spend.log.length + b.length ≤ m.spend.room
        rw [spend_log, spend_room]
        exact HNR.out
      · have HR : Hid (m.append b = ({ m.spend with log := m.log ++ b }, 0)) := by show _ = _; unfold DM.append; rw [hd, if_neg (by simp), if_neg hnot, if_neg hf]
        have HNR : Hid (m.log.length + b.length ≤ m.room) := by show _ ≤ _; omega
        have HTL : Hid (m.spend.tail = []) := by show _ = _; rw [spend_tail]; exact (hwf.alive hd).1
        rw [show decide (m.fuse ≠ 0) = true by simp [hf]] at hct
        have HW := Lib.hid (DM.spend_wf hwf)
        have HV := Lib.hid hv
        clear h0 h hd hf hwf hrd hlv hv hRr hfull hnot
        go_enter Tryz.func54, Tryz.ntmps54
        go_wp2
        go_quiet (fail)
        go_wp2_with fail
        refine (hct _).mono ?_
        rintro e w1 ⟨rfl, hr1, hc1⟩
        have HD := Lib.hid hr1
        have HC := Lib.hid hc1
        have k4 := hr1.cell 4
        simp only [dcells] at k4
        have hL := hr1.log
        rw [spend_log] at hL
        obtain ⟨lv2, w2, hrun, hL2, hgr, hwh, -⟩ := append_bytes (ty := 41) hL ((HV.out.drewN _).chg HC.out) (by have := HS.out; omega) (Nat.zero_le _)
        obtain ⟨a2, n2, c2, hlv2, HN2, -, -⟩ := (OwnB.rd (F := NoF) hL2 (fun _ _ => noF _)).formN
        subst hlv2
        have HRUN := Lib.hid hrun
        have k4' : w2.cell? ⟨D, 4, none⟩ = some d.lv := by
          have := cell_of_row w2 D 4 _ _ _ ((hgr.block D hr1.D_lt (Ne.symm hr1.neL)).trans hr1.blk)
          exact this
        have f4 : w2.frozen? ⟨D, 4, none⟩ = false := by
          have : w2.heap[D]? = _ := (hgr.block D hr1.D_lt (Ne.symm hr1.neL)).trans hr1.blk
          simp [World.frozen?, this]
        have HH := Lib.hid hgr
        have HL2 := Lib.hid hL2
        have HWH := Lib.hid hwh
        clear hr1 hc1 hct hrun hgr hL hL2 hwh
        go_wp2_with (at_builtin; refine wpList_append_eq rfl rfl HRUN.out rfl rfl ?_; clear HRUN)
        go_ret
        have hsame : ∀ k, k < w1.heap.size → k ≠ D → d.lv.ownBlock ≠ some k → (w2.setCell ⟨D, 4, none⟩ (.slice a2 n2 c2)).heap[k]? = w1.heap[k]? := fun k h1 h2 h3 => (setCell_heap w2 _ (.slice a2 n2 c2) k h2).trans (HH.out.block k h1 (Ne.symm h3))
        have hLv : ∀ k, (Value.slice a2 n2 c2).ownBlock = some k → d.lv.ownBlock = some k ∨ w1.heap.size ≤ k := by
          intro k hk
          rcases HWH.out with e | e
          · exact .inl (e ▸ hk)
          · rw [e] at hk
            injection hk with hk
            exact .inr (by omega)
        have hLw : ∀ k, (Value.slice a2 n2 c2).ownBlock = some k → k < w2.heap.size := fun k hk => (HL2.out.lt k hk).2
        have hne : (Value.slice a2 n2 c2).ownBlock ≠ some D := by
          intro e
          rcases hLv D e with h | h
          · exact HD.out.neL h
          · have := HD.out.D_lt; omega
        refine DPost.drewN (DPost.of HR.out (HD.out.upd (.slice a2 n2 c2) d.mv d.tv d.tl hsame ?_ rfl rfl hLv (OwnB.setOther HL2.out _ _ hne) (.inl ⟨rfl, rfl⟩) (.inl ⟨rfl, rfl⟩) (.inl ⟨rfl, rfl⟩)) rfl ⟨?_, ?_, HW.out.room24, HW.out.pages, HW.out.npages, HW.out.waiting, HW.out.nwait, HW.out.mark, HW.out.fuse1, HW.out.fuse2, HW.out.torn, HW.out.alive⟩ (HC.out.trans ⟨HH.out.os, HH.out.tape, HH.out.output, ?_, ?_, ?_⟩))
        · rw [setCell_blk ((HH.out.block D HD.out.D_lt (Ne.symm HD.out.neL)).trans HD.out.blk)]
          simp [dcells]
        · show m.spend.certain ≤ (m.log ++ b).length
          have := HW.out.certain
          rw [spend_log] at this
          rw [List.length_append]
          omega
        · show (m.log ++ b).length + m.spend.tail.length ≤ m.spend.room
          rw [HTL.out, spend_room, List.length_append]
          exact HNR.out
        · rw [setCell_size]; exact HH.out.size
        · intro k hk hn
          exact hsame k hk (fun e => hn (.inl e)) (fun e => hn (.inr (.inr (.inr (.inr e)))))
        · intro k hk
          rcases hk with h | h | h | h | h
          · exact .inl (.inl h)
          · exact .inl (.inr (.inl h))
          · exact .inl (.inr (.inr (.inl h)))
          · exact .inl (.inr (.inr (.inr (.inl h))))
          · rcases hLv k h with h' | h'
            · exact .inl (.inr (.inr (.inr (.inr h'))))
            · refine .inr ⟨h', ?_⟩
              rw [setCell_size]
              exact hLw k h
end
end Mun
end

section
/- Contract of a device's Write. -/
set_option maxRecDepth 100000
set_option linter.unusedVariables false
namespace Mun
open Go Go.RowKit
open Go.Proofs

theorem info_write : (Tryz.prog.info? 116).map (fun i => (i.zero, i.size, i.bytes)) = some (some (.agg #[.int .i64 0, .slice none 0 0]), 2, 32) := by kernel_rfl

section
variable {w w' : World} {D : Nat} {m m' : DM} {d : DV}

/-- a write has come to those that wait -/
theorem DRep.written (h : DRep w D (dfootE D d) m d) (n : Nat) (b : Bytes) (sv wv : Value) (es : List (Int × Value))
    (hsame : ∀ k, k < w.heap.size → k ≠ D → d.wv.ownBlock ≠ some k → k ≠ d.M → w'.heap[k]? = w.heap[k]?)
    (hblk : w'.heap[D]? = some (.cells (dcells m' m'.base.length { d with wv := wv, ws := d.ws ++ [(n, (b, sv))], es := es }) 95 (0, 0)))
    (hrow : w'.ownsRow 0 116 2 wv (d.ws.length + 1) (wcells d.ws ++ [.int .i64 n, sv]))
    (hW : ∀ k, wv.ownBlock = some k → d.wv.ownBlock = some k ∨ w.heap.size ≤ k)
    (hmp : IMap w' d.M es) (hes : ∀ q, alook es q = if q = (n : Int) then some sv else alook d.es q) (hrd : RdB (dfootE D d) w sv b)
    (hb : m'.base = m.base) (hw : m'.waiting = m.waiting ++ [(n, b)]) (hl : m'.log = m.log) (hm : m'.mark = m.mark) (ht : m'.torn = m.torn) (htl : m'.tail = m.tail) :
    DRep w' D (dfootE D { d with wv := wv, ws := d.ws ++ [(n, (b, sv))], es := es }) m' { d with wv := wv, ws := d.ws ++ [(n, (b, sv))], es := es } := by
  have ko : ∀ k, k < w.heap.size → ¬ dfootE D d k → w'.heap[k]? = w.heap[k]? := fun k h1 h2 => hsame k h1 (fun e => h2 (.inl (.inl e))) (fun e => h2 (.inl (.inr (.inr (.inr (.inl e)))))) (fun e => h2 (.inl (.inr (.inr (.inl e)))))
  have hF0 : ∀ k, k < w.heap.size → dfoot D { d with wv := wv, ws := d.ws ++ [(n, (b, sv))], es := es } k → dfoot D d k := by
    intro k hk h
    rcases h with h | h | h | h | h
    · exact .inl h
    · exact .inr (.inl h)
    · exact .inr (.inr (.inl h))
    · rcases hW k h with h | h
      · exact .inr (.inr (.inr (.inl h)))
      · omega
    · exact .inr (.inr (.inr (.inr h)))
  have hF : ∀ k, k < w.heap.size → dfootE D { d with wv := wv, ws := d.ws ++ [(n, (b, sv))], es := es } k → dfootE D d k := fun k hk h => h.imp (hF0 k hk) id
  refine ⟨hblk, (hsame _ (Array.getElem?_eq_some_iff.1 h.pgs).1 (Ne.symm h.neP) h.nePW h.nePM).trans h.pgs, by rw [hb]; exact h.pgn, fun i hi => ?_, ?_, ?_, ?_, hmp, ?_, fun q hq => ?_, ?_, ?_, ?_, ?_,
    fun k hE => lt_of_same (h.elt k hE) (hsame k (h.elt k hE) (fun e => h.eown k hE (.inl e)) (fun e => h.eown k hE (.inr (.inr (.inr (.inl e))))) (fun e => h.eown k hE (.inr (.inr (.inl e))))), fun k hE hd => h.eown k hE (hF0 k (h.elt k hE) hd)⟩
  · obtain ⟨v, h1, h2⟩ := h.pgv i (by rw [hb] at hi; exact hi)
    refine ⟨v, h1, ?_⟩
    have : m'.base[i] = m.base[i]'(by rw [hb] at hi; exact hi) := by congr 1
    rw [this]
    exact h2.keep ko hF
  · simpa [wcells] using hrow
  · rw [hw, h.wws]; simp
  · intro p hp
    rcases List.mem_append.1 hp with hp | hp
    · exact RdV.keep (h.wrd p hp) ko hF
    · obtain rfl : p = (n, (b, sv)) := by simpa using hp
      exact RdV.keep hrd ko hF
  · intro q
    rw [hes, lastW_snoc, h.mpe q]
    by_cases hq : n = q
    · subst hq; simp
    · have : ¬ (q : Int) = (n : Int) := by omega
      simp [this, hq]
  · rw [hes, if_neg (by omega)]
    exact h.mpk q hq
  · rw [hl]
    exact ownsRow_keep h.log (fun k h' => hsame k (h.log.lt k h').2 (fun e => h.neL (e ▸ h')) (fun e => h.neWL k e h') (fun e => h.neML (e ▸ h')))
  · rw [hm]; exact RdV.keep h.mark ko hF
  · rw [htl]; exact RdV.keep h.tail ko hF
  · rw [ht]; exact h.torn.keep ko hF
end

section
variable (w : World) (D : Nat) (F : Foot) {E : Foot} (m : DM)

theorem spend_waiting (m : DM) : m.spend.waiting = m.waiting := by unfold DM.spend; split <;> rfl
theorem spend_ops {m : DM} (h : m.fuse ≠ 0) : m.spend.ops = m.ops + 1 := by unfold DM.spend; rw [if_neg h]

theorem d_write_no (h : DiskAt w D E F m) (n : Int) (v : Value) (b : Bytes) (hv : RdB F w v b) (hno : m.dead = true ∨ ¬ (0 ≤ n ∧ n < m.base.length) ∨ b.length ≠ 512) : Calls Tryz.prog 82 #[.pointer (some ⟨D, 0, none⟩), .int .i64 n, v] w (DPost w D E F (m.write n b)) := by
  have h0 := h
  have hh := d_has w D F m h n
  obtain ⟨d, rfl, rfl, h, hwf⟩ := h
  have c9 := h.cell 9
  simp only [dcells] at c9
  obtain ⟨a0, n0, c0, rfl, HN0, hlc0, hcm0⟩ := hv.formN
  cases hd : m.dead with
  | true =>
    rw [hd] at c9
    have HR : Hid (m.write n b = (m, 9)) := by show _ = _; simp [DM.write, hd]
    have HO := Lib.hid h0
    clear h0 h hd hwf hv hno hh
    go_enter Tryz.func82, Tryz.ntmps82
    go_wp2
    go_ret
    exact DPost.same HO.out HR.out
  | false =>
    rw [hd] at c9
    rw [hd] at hno
    have hno : ¬ (0 ≤ n ∧ n < m.base.length) ∨ b.length ≠ 512 := by simpa using hno
    have HR : Hid (m.write n b = (m, 1)) := by show _ = _; unfold DM.write; rw [hd, if_neg (by simp), if_pos hno]
    have HO := Lib.hid h0
    by_cases hb : 0 ≤ n ∧ n < m.base.length
    · rw [show hasB m.base.length n = true by unfold hasB; exact decide_eq_true hb] at hh
      have hl : b.length ≠ 512 := by rcases hno with h | h; exact absurd hb h; exact h
      have hl2 : ((n0 : Int) != 512) = true := by have := HN0.out; simp; omega
      clear h0 h hd hwf hv hno hb hl
      go_enter Tryz.func82, Tryz.ntmps82
      go_wp2_with fail
      refine hh.mono ?_
      rintro e w' ⟨rfl, rfl⟩
      go_wp2
      go_ret
      exact DPost.same HO.out HR.out
    · rw [show hasB m.base.length n = false by unfold hasB; exact decide_eq_false hb] at hh
      clear h0 h hd hwf hv hno hb
      go_enter Tryz.func82, Tryz.ntmps82
      go_wp2_with fail
      refine hh.mono ?_
      rintro e w' ⟨rfl, rfl⟩
      go_wp2
      go_ret
      exact DPost.same HO.out HR.out

theorem d_write_ok (h : DiskAt w D E F m) (ho : m.ops < 4398046511104) (n : Nat) (v : Value) (b : Bytes) (hv : RdB F w v b) (hd : m.dead = false) (hn : n < m.base.length) (hb : b.length = 512) : Calls Tryz.prog 82 #[.pointer (some ⟨D, 0, none⟩), .int .i64 n, v] w (DPost w D E F (m.write n b)) := by
  have h0 := h
  have hh := d_has w D F m h n
  rw [show hasB m.base.length n = true by unfold hasB; exact decide_eq_true (by omega)] at hh
  obtain ⟨d, rfl, rfl, h, hwf⟩ := h
  have c9 := h.cell 9
  simp only [dcells, hd] at c9
  obtain ⟨a0, n0, c0, rfl, HN0, hlc0, hcm0⟩ := hv.formN
  have hn0 : n0 = 512 := by rw [HN0.out]; exact hb
  subst hn0
  have hcl := clone6 w _ b hv (by omega)
  rw [hb] at hcl
  have HO := Lib.hid h0
  have HB := Lib.hid hb
  have HD := Lib.hid h
  clear h0 h hb
  go_enter Tryz.func82, Tryz.ntmps82
  go_wp2_with fail
  refine hh.mono ?_
  rintro e w' ⟨rfl, rfl⟩
  go_wp2_with fail
  refine hcl.mono ?_
  rintro e w1 ⟨rfl, hw1⟩
  go_wp2_with fail
  obtain ⟨w2, hw2⟩ : ∃ w2, w1.alloc (.cells #[.int .i64 n, .slice (some ⟨w.heap.size, 0, none⟩) 512 512] 116) = w2 := ⟨_, rfl⟩
  rw [hw2]
  have hs1 : w1.heap.size = w.heap.size + 1 := by rw [← hw1, World.size_alloc]
  have hr2 : DRep w2 D (dfootE D d) m d := by rw [← hw2, ← hw1]; exact (HD.out.alloc _).alloc _
  have hc2 : Chg (dfoot D d) (dfoot D d) w w2 := by rw [← hw2, ← hw1]; exact (chg_alloc _ _).trans (chg_alloc _ _)
  have ht2 : w2.heap[w1.heap.size]? = some (.cells #[.int .i64 n, .slice (some ⟨w.heap.size, 0, none⟩) 512 512] 116 (0, 0)) := by rw [← hw2]; exact heap_alloc_new w1 _
  have hb2 : RdB (dfootE D d) w2 (.slice (some ⟨w.heap.size, 0, none⟩) 512 512) b := by
    rw [← hw2, ← hw1]
    have := bobj_rd (F := dfootE D d) w b b.length rfl (maxLen_ge (by have := HB.out; omega)) (fun hk => absurd (HD.out.foot_lt _ hk) (Nat.lt_irrefl _))
    rw [HB.out] at this
    exact this.alloc _
  have htF : ¬ dfootE D d w1.heap.size := fun hk => by have := HD.out.foot_lt _ hk; omega
  have hct := d_counts_rep w2 D m d hr2 hwf ho
  have hts2 : w1.heap.size < w2.heap.size := (Array.getElem?_eq_some_iff.1 ht2).1
  have HC2 := Lib.hid hc2
  have HB2 := Lib.hid hb2
  have HT2 := Lib.hid ht2
  have HTF := Lib.hid htF
  have HS1 := Lib.hid hs1
  have HTS := Lib.hid hts2
  clear hc2 hb2 ht2 htF hr2 hw2 hw1 hh hcl hs1 hts2
  obtain ⟨t, ht⟩ : ∃ t, w1.heap.size = t := ⟨_, rfl⟩
  rw [ht] at HTF HT2 HTS HS1 ⊢
  clear ht
  by_cases hf : m.fuse = 0
  · have HR : Hid (m.write n b = ({ m.spend with torn := some (n, b) }, 9)) := by
      show _ = _
      unfold DM.write
      rw [hd, if_neg (by simp), if_neg (by have := HB.out; omega), if_pos hf, Int.toNat_natCast]
    rw [show decide (m.fuse ≠ 0) = false by simp [hf]] at hct
    refine hct.mono ?_
    rintro e w3 ⟨rfl, hr3, hc3⟩
    have k10 := hr3.cell 10
    have f10 := hr3.frozen 10
    simp only [dcells] at k10
    have HD3 := Lib.hid hr3
    have HC3 := Lib.hid hc3
    have HN := Lib.hid hn
    have HW := Lib.hid (DM.spend_wf hwf)
    have HSD := Lib.hid (spend_dead hf)
    clear hr3 hc3 hct hn hwf ho hd hf
    go_wp2
    go_ret
    refine DPost.of HR.out (HD3.out.upd d.lv d.mv (.pointer (some ⟨t, 0, none⟩)) d.tl (fun k _ hD _ => setCell_heap w3 _ _ k hD) ?_ rfl rfl (fun k hk => .inl hk) ?_ (.inl ⟨rfl, rfl⟩) (.inl ⟨rfl, rfl⟩) (.inr ?_)) rfl ⟨HW.out.certain, HW.out.room, HW.out.room24, HW.out.pages, HW.out.npages, HW.out.waiting, HW.out.nwait, HW.out.mark, HW.out.fuse1, HW.out.fuse2, ?_, fun h => by rw [show m.spend.dead = true from HSD.out] at h; cases h⟩ ((HC2.out.trans HC3.out).trans (chg_setCell _ _ _ (.inl rfl)))
    · rw [setCell_blk HD3.out.blk]
      simp [dcells]
    · exact OwnB.setOther HD3.out.log _ _ HD3.out.neL
    · refine ⟨t, _, rfl, HTF.out, ?_, RdB.set (rdE_chg HB2.out HC3.out) _ _ (.inl (.inl rfl))⟩
      rw [setCell_heap _ _ _ _ (fun e => HTF.out (.inl (.inl e))), HC3.out.block t HTS.out (fun e => HTF.out (.inl e))]
      exact HT2.out
    · intro p hp
      injection hp with hp
      subst hp
      refine ⟨?_, HB.out⟩
      show n < m.spend.base.length
      rw [spend_base]
      exact HN.out
  · have HR : Hid (m.write n b = ({ m.spend with waiting := m.waiting ++ [(n, b)] }, 0)) := by
      show _ = _
      unfold DM.write
      rw [hd, if_neg (by simp), if_neg (by have := HB.out; omega), if_neg hf, Int.toNat_natCast]
    rw [show decide (m.fuse ≠ 0) = true by simp [hf]] at hct
    refine hct.mono ?_
    rintro e w3 ⟨rfl, hr3, hc3⟩
    have k2 := hr3.cell 2
    have f2 := hr3.frozen 2
    have k3 := hr3.cell 3
    simp only [dcells] at k2 k3
    have HT3 : Hid (w3.heap[t]? = some (.cells #[.int .i64 n, .slice (some ⟨w.heap.size, 0, none⟩) 512 512] 116 (0, 0))) := by
      show _ = _
      rw [hc3.block t HTS.out (fun e => HTF.out (.inl e))]
      exact HT2.out
    have kt0 : w3.cell? ⟨t, 0, none⟩ = some (.int .i64 n) := cell_of_row w3 t 0 _ _ _ HT3.out
    have kt1 : w3.cell? ⟨t, 1, none⟩ = some (.slice (some ⟨w.heap.size, 0, none⟩) 512 512) := cell_of_row w3 t 1 _ _ _ HT3.out
    have HD3 := Lib.hid hr3
    have HC3 := Lib.hid hc3
    have HN := Lib.hid hn
    have HW := Lib.hid (DM.spend_wf hwf)
    obtain ⟨i, hi, hz, hi1, hi2⟩ := info_of info_write
    have HOW : Hid ((w3.drew.alloc (.cells #[.int .i64 n, .slice (some ⟨w.heap.size, 0, none⟩) 512 512] 116)).ownsRow 0 116 2 d.wv d.ws.length (wcells d.ws)) :=
      ownsRow_keep hr3.wrow (fun k hk => alloc_get w3.drew _ k (hr3.wrow.lt k hk).2)
    have HWN : Hid (m.waiting.length + 1 ≤ m.spend.ops) := by
      show _ ≤ _
      rw [spend_ops hf]
      exact Nat.succ_le_succ hwf.nwait
    have HLW : Hid (d.ws.length < 4398046511104) := by
      show _ < _
      have := hwf.nwait
      rw [HD.out.wws, List.length_map] at this
      omega
    have HDl := Lib.hid hr3.D_lt
    have HNW := Lib.hid hr3.neW
    have k2a : (w3.alloc (.cells #[.int .i64 n, .slice (some ⟨w.heap.size, 0, none⟩) 512 512] 116)).cell? ⟨D, 2, none⟩ = some d.wv :=
      cell_of_row _ D 2 _ _ _ ((alloc_get w3 _ D HDl.out).trans HD3.out.blk)
    clear hr3 hc3 hct hn hwf ho hd hf
    go_wp2
    go_region_law (
      refine step_append_lies _ rfl (.tmp 37) (.tmp 39) 91 rfl 0 116 i _ 2 32 Tryz.underlying91 hi hz hi1 hi2 rfl (by decide) d.wv d.ws.length (wcells d.ws) (by simp [Act.eval]) HOW.out ⟨w3.heap.size, 0, none⟩ 1 1 [.int .i64 n, .slice (some ⟨w.heap.size, 0, none⟩) 512 512] (by simp [Act.eval]) rfl (World.news_of_block (heap_alloc_new w3.drew _)) (by simp [Value.oneCell']) (by decide) (by have := HLW.out; unfold maxLen; omega) (by have := HLW.out; omega) (Nat.zero_le _) _ rfl ?_
      intro g cap w4 hown4 hgr4 hat4 hlt4
      have e4 : w4.heap[D]? = some (.cells (dcells m.spend m.spend.base.length d) 95 (0, 0)) := (hgr4.block D (Nat.lt_of_lt_of_le HDl.out (chg_alloc (F := NoF) w3.drew _).size) (Ne.symm HNW.out)).trans ((alloc_get w3.drew _ D HDl.out).trans HD3.out.blk)
      have k42 : w4.cell? ⟨D, 2, none⟩ = some d.wv := cell_of_row w4 D 2 _ _ _ e4
      have f42 : w4.frozen? ⟨D, 2, none⟩ = false := by simp [World.frozen?, e4]
      have HO4 := Lib.hid hown4
      have HG4 := Lib.hid hgr4
      have HA4 := Lib.hid hat4
      have HE4 := Lib.hid e4
      clear hown4 hgr4 hat4 e4)
    all_goals
      obtain ⟨w5, hw5⟩ : ∃ w5, w4.setCell ⟨D, 2, none⟩ (.slice (some ⟨g, 0, none⟩) (d.ws.length + 1) cap) = w5 := ⟨_, rfl⟩
      rw [hw5]
      have s45 : w5.heap.size = w4.heap.size := by rw [← hw5, setCell_size]
      have s34 : w3.heap.size < w4.heap.size := by
        have h : (w3.alloc (.cells #[.int .i64 n, .slice (some ⟨w.heap.size, 0, none⟩) 512 512] 116)).heap.size ≤ w4.heap.size := HG4.out.size
        rw [World.size_alloc] at h
        omega
      have same5 : ∀ k, k < w3.heap.size → k ≠ D → d.wv.ownBlock ≠ some k → w5.heap[k]? = w3.heap[k]? := by
        intro k h1 h2 h3
        rw [← hw5, setCell_heap _ _ _ _ h2]
        exact (HG4.out.block k (Nat.lt_of_lt_of_le h1 (chg_alloc (F := NoF) w3.drew _).size) (Ne.symm h3)).trans (alloc_get w3.drew _ k h1)
      have blk5 : w5.heap[D]? = some (.cells ((dcells m.spend m.spend.base.length d).setIfInBounds 2 (.slice (some ⟨g, 0, none⟩) (d.ws.length + 1) cap)) 95 (0, 0)) := by
        rw [← hw5]
        exact setCell_blk HE4.out _
      have k53 : w5.cell? ⟨D, 3, none⟩ = some (.map (some d.M)) := cell_of_row w5 D 3 _ _ _ blk5
      have htlt : t < w3.heap.size := (Array.getElem?_eq_some_iff.1 HT3.out).1
      have ht5 : w5.heap[t]? = some (.cells #[.int .i64 n, .slice (some ⟨w.heap.size, 0, none⟩) 512 512] 116 (0, 0)) :=
        (same5 t htlt (fun e => HTF.out (.inl (.inl e))) (fun e => HTF.out (.inl (.inr (.inr (.inr (.inl e))))))).trans HT3.out
      have k5t : w5.cell? ⟨t, 1, none⟩ = some (.slice (some ⟨w.heap.size, 0, none⟩) 512 512) := cell_of_row w5 t 1 _ _ _ ht5
      have hmp5 : IMap w5.drew d.M d.es := HD3.out.mp.keep (same5 _ HD3.out.mp.lt (Ne.symm HD3.out.neM) HD3.out.neMW)
      obtain ⟨o, es, hup, hmp6, hes⟩ := imap_update (P := Tryz.prog) Tryz.underlying92 Tryz.underlying3 hmp5 n (.slice (some ⟨w.heap.size, 0, none⟩) 512 512)
      have H5 := Lib.hid (And.intro s45 (And.intro s34 (And.intro same5 (And.intro blk5 (And.intro hmp6 hes)))))
      have HO5 := Lib.hid hw5
      clear s45 s34 same5 blk5 hmp6 hes hmp5 ht5 htlt hw5
      go_wp2
      go_region
      obtain ⟨w6, hw6⟩ : ∃ w6, setObjW w5.drew d.M o = w6 := ⟨_, rfl⟩
      rw [hw6]
      have H6 := Lib.hid hw6
      clear hw6 hup
      go_wp2
      go_ret
      obtain ⟨s45, s34, same5, blk5, hmp6, hes⟩ := H5.out
      have hgs : g = w3.heap.size + 1 ∨ d.wv.ownBlock = some g := by
        rcases HA4.out with h | h
        · exact .inr h
        · refine .inl (h.trans ?_)
          exact World.size_alloc _ _
      have hgD : g ≠ D := by
        rintro rfl
        rcases hgs with h | h
        · have := HDl.out; omega
        · exact HNW.out h
      have hgM : g ≠ d.M := by
        rintro rfl
        rcases hgs with h | h
        · have := HD3.out.mp.lt; omega
        · exact HD3.out.neMW h
      have hgW : ∀ k, (Value.slice (some ⟨g, 0, none⟩) (d.ws.length + 1) cap).ownBlock = some k → d.wv.ownBlock = some k ∨ w3.heap.size ≤ k := by
        intro k hk
        simp only [Value.ownBlock, Option.some.injEq] at hk
        subst hk
        rcases hgs with h | h
        · exact .inr (by omega)
        · exact .inl h
      have s6 : w6.heap.size = w4.heap.size := by rw [← H6.out, setObjW_size]; exact s45
      have same6 : ∀ k, k < w3.heap.size → k ≠ D → d.wv.ownBlock ≠ some k → k ≠ d.M → w6.heap[k]? = w3.heap[k]? := fun k h1 h2 h3 h4 => by
        rw [← H6.out, setObjW_other _ _ _ _ h4]
        exact same5 k h1 h2 h3
      have hrow6 : w6.ownsRow 0 116 2 (.slice (some ⟨g, 0, none⟩) (d.ws.length + 1) cap) (d.ws.length + 1) (wcells d.ws ++ [.int .i64 n, .slice (some ⟨w.heap.size, 0, none⟩) 512 512]) := by
        refine ownsRow_keep HO4.out (fun k hk => ?_)
        simp only [Value.ownBlock, Option.some.injEq] at hk
        subst hk
        rw [← H6.out, setObjW_other _ _ _ _ hgM, ← HO5.out]
        exact setCell_heap _ _ _ _ hgD
      rw [H6.out] at hmp6
      have hfin := HD3.out.written (m' := { m.spend with waiting := m.waiting ++ [(n, b)] }) n b (.slice (some ⟨w.heap.size, 0, none⟩) 512 512) (.slice (some ⟨g, 0, none⟩) (d.ws.length + 1) cap) es same6 (by
        rw [← H6.out, setObjW_other _ _ _ _ HD3.out.neM]
        refine blk5.trans ?_
        simp [dcells]) hrow6 hgW hmp6 hes (rdE_chg HB2.out HC3.out) rfl (by rw [spend_waiting]) rfl rfl rfl rfl
      refine DPost.of HR.out hfin rfl ⟨HW.out.certain, HW.out.room, HW.out.room24, HW.out.pages, HW.out.npages, ?_, ?_, HW.out.mark, HW.out.fuse1, HW.out.fuse2, HW.out.torn, HW.out.alive⟩ ((HC2.out.trans HC3.out).trans ⟨?_, ?_, ?_, ?_, ?_, ?_⟩)
      · intro p hp
        rcases List.mem_append.1 hp with hp | hp
        · exact HW.out.waiting p (by rw [spend_waiting]; exact hp)
        · obtain rfl : p = (n, b) := by simpa using hp
          refine ⟨?_, HB.out⟩
          show n < m.spend.base.length
          rw [spend_base]
          exact HN.out
      · show (m.waiting ++ [(n, b)]).length ≤ _
        rw [List.length_append]
        exact HWN.out
      · rw [← H6.out, ← HO5.out]; exact HG4.out.os
      · rw [← H6.out, ← HO5.out]; exact HG4.out.tape
      · rw [← H6.out, ← HO5.out]; exact HG4.out.output
      · omega
      · intro k hk hn
        exact same6 k hk (fun e => hn (.inl e)) (fun e => hn (.inr (.inr (.inr (.inl e))))) (fun e => hn (.inr (.inr (.inl e))))
      · intro k hk
        rcases hk with h | h | h | h | h
        · exact .inl (.inl h)
        · exact .inl (.inr (.inl h))
        · exact .inl (.inr (.inr (.inl h)))
        · rcases hgW k h with h' | h'
          · exact .inl (.inr (.inr (.inr (.inl h'))))
          · refine .inr ⟨h', ?_⟩
            have := (hrow6.lt k h).2
            exact this
        · exact .inl (.inr (.inr (.inr (.inr h))))

theorem d_write (h : DiskAt w D E F m) (ho : m.ops < 4398046511104) (n : Int) (v : Value) (b : Bytes) (hv : RdB F w v b) : Calls Tryz.prog 82 #[.pointer (some ⟨D, 0, none⟩), .int .i64 n, v] w (DPost w D E F (m.write n b)) := by
  by_cases hno : m.dead = true ∨ ¬ (0 ≤ n ∧ n < m.base.length) ∨ b.length ≠ 512
  · exact d_write_no w D F m h n v b hv hno
  · obtain ⟨k, rfl⟩ : ∃ k : Nat, n = k := ⟨n.toNat, by omega⟩
    refine d_write_ok w D F m h ho k v b hv ?_ (by omega) (by omega)
    cases hd : m.dead with
    | true => exact absurd (.inl hd) hno
    | false => rfl
end
end Mun
end

section
/- Contract of a device's Sync. -/
set_option maxRecDepth 100000
set_option linter.unusedVariables false
namespace Mun
open Go Go.RowKit
open Go.Proofs

theorem nodup_inj {α β : Type} {f : α → β} : ∀ {l : List α}, (l.map f).Nodup → ∀ {x y : α}, x ∈ l → y ∈ l → f x = f y → x = y
  | [], _, x, y, hx, _, _ => by simp at hx
  | a :: l, h, x, y, hx, hy, e => by
    simp only [List.map_cons, List.nodup_cons] at h
    rcases List.mem_cons.1 hx with rfl | hx' <;> rcases List.mem_cons.1 hy with rfl | hy'
    · rfl
    · exact absurd (e ▸ List.mem_map_of_mem hy') h.1
    · exact absurd (e ▸ List.mem_map_of_mem hx') h.1
    · exact nodup_inj h.2 hx' hy' e

theorem filter_lt {α : Type} (f g : α → Bool) : ∀ (l : List α), (∀ x ∈ l, g x = true → f x = true) → (∃ x ∈ l, f x = true ∧ g x = false) → (l.filter g).length < (l.filter f).length
  | [], _, ⟨x, hx, _⟩ => by simp at hx
  | a :: l, hs, hex => by
    have hle : (l.filter g).length ≤ (l.filter f).length := by
      clear hex
      induction l with
      | nil => simp
      | cons b l ih =>
        have ih' := ih (fun x hx => hs x (by rcases List.mem_cons.1 hx with h | h <;> simp [h]))
        have hb := hs b (by simp)
        simp only [List.filter_cons]
        cases hg : g b with
        | true => simp [hb hg]; exact ih'
        | false => cases f b <;> simp <;> omega
    obtain ⟨x, hx, hf, hg⟩ := hex
    simp only [List.filter_cons]
    rcases List.mem_cons.1 hx with rfl | hx
    · simp [hf, hg]; omega
    · have ih := filter_lt f g l (fun y hy => hs y (by simp [hy])) ⟨x, hx, hf, hg⟩
      have ha := hs a (by simp)
      cases hga : g a with
      | true => simp [ha hga]; exact ih
      | false => cases f a <;> simp <;> omega

/-- a round of Sync's loop -/
structure SyncR (w3 : World) (D : Nat) (m : DM) (d : DV) (l : List ((Int × Value) × Nat)) (c : Nat) (seen : Array Nat) (pg : Array Value) (wr : World) : Prop where
  it : wr.heap[w3.heap.size]? = some (.mapIter (some d.M) c seen c)
  size : wr.heap.size = w3.heap.size + 1
  same : ∀ k, k < w3.heap.size → k ≠ d.P → wr.heap[k]? = w3.heap[k]?
  pgs : wr.heap[d.P]? = some (.cells pg 41 (0, 0))
  pgn : pg.size = m.base.length
  pg1 : ∀ p ∈ l, seen.contains p.2 = true → ∀ i : Nat, p.1.1 = i → pg[i]? = some p.1.2
  pg2 : ∀ i : Nat, (∀ p ∈ l, p.1.1 = i → seen.contains p.2 = false) → pg[i]? = d.pg[i]?
  os : wr.os = w3.os
  tape : wr.tape = w3.tape
  output : wr.output = w3.output

def unseen (l : List ((Int × Value) × Nat)) (r : Nat) (w : World) : Nat :=
  match w.heap[r]? with
  | some (.mapIter _ _ seen _) => (l.filter fun p => !seen.contains p.2).length
  | _ => 0

section
variable {w3 wr : World} {D : Nat} {m : DM} {d : DV} {l : List ((Int × Value) × Nat)} {c : Nat} {seen : Array Nat} {pg : Array Value}

theorem SyncR.start (h : DRep w3 D (dfootE D d) m d) (hl : IMapC w3 d.M l c) : SyncR w3 D m d l c #[] d.pg (w3.alloc (.mapIter (some d.M) c #[] c)) :=
  ⟨heap_alloc_new w3 _, World.size_alloc _ _, fun k hk _ => alloc_get w3 _ k hk, (alloc_get w3 _ _ (Array.getElem?_eq_some_iff.1 h.pgs).1).trans h.pgs, h.pgn, fun p _ hs => by simp at hs, fun _ _ => rfl, rfl, rfl, rfl⟩

theorem SyncR.drew (h : SyncR w3 D m d l c seen pg wr) : SyncR w3 D m d l c seen pg wr.drew := ⟨h.it, h.size, h.same, h.pgs, h.pgn, h.pg1, h.pg2, h.os, h.tape, h.output⟩

/-- one page more -/
theorem SyncR.step (h : SyncR w3 D m d l c seen pg wr) (hd : DRep w3 D (dfootE D d) m d) (hl : IMapC w3 d.M l c) {p : (Int × Value) × Nat} (hp : p ∈ l) (q : Nat) (hq : p.1.1 = q) (hn : q < m.base.length) :
    SyncR w3 D m d l c (seen.push p.2) (pg.setIfInBounds q p.1.2) ((setObjW wr w3.heap.size (.mapIter (some d.M) c (seen.push p.2) c)).setCell ⟨d.P, q, none⟩ p.1.2) := by
  have hPr : d.P ≠ w3.heap.size := by have := (Array.getElem?_eq_some_iff.1 hd.pgs).1; omega
  refine ⟨?_, by rw [setCell_size, setObjW_size]; exact h.size, ?_, ?_, by simp [h.pgn], ?_, ?_, h.os, h.tape, h.output⟩
  · rw [setCell_heap _ _ _ _ (Ne.symm hPr), setObjW_same h.it]
  · intro k hk hkP
    rw [setCell_heap _ _ _ _ hkP, setObjW_other _ _ _ _ (by omega)]
    exact h.same k hk hkP
  · rw [setCell_blk (e := 41) (c := pg)]
    rw [setObjW_other _ _ _ _ hPr]
    exact h.pgs
  · intro p' hp' hs i hi
    have hk := hl.1
    by_cases e : p'.1.1 = p.1.1
    · have hpp : p' = p := by
        exact nodup_inj hk hp' hp e
      subst hpp
      obtain rfl : i = q := by omega
      rw [Array.getElem?_setIfInBounds]
      simp [h.pgn, hn]
    · have hiq : ¬ q = i := by omega
      rw [Array.getElem?_setIfInBounds, if_neg hiq]
      refine h.pg1 p' hp' ?_ i hi
      have hb := hl.2.1
      have hne : p'.2 ≠ p.2 := fun e' => e (by rw [nodup_inj hb hp' hp e'])
      simpa [hne] using hs
  · intro i hi
    have hiq : ¬ q = i := by
      rintro rfl
      have := hi p hp hq
      simp at this
    rw [Array.getElem?_setIfInBounds, if_neg hiq]
    refine h.pg2 i (fun p' hp' hpi => ?_)
    have := hi p' hp' hpi
    simp at this ⊢
    exact this.1

theorem alook_mem (es : List (Int × Value)) (h : (es.map (·.1)).Nodup) {p : Int × Value} (hp : p ∈ es) : alook es p.1 = some p.2 := by
  unfold alook
  have : es.find? (·.1 == p.1) = some p := by
    induction es with
    | nil => simp at hp
    | cons a es ih =>
      simp only [List.map_cons, List.nodup_cons] at h
      simp only [List.find?_cons]
      rcases List.mem_cons.1 hp with rfl | hp
      · simp
      · have : (a.1 == p.1) = false := by
          simp only [beq_eq_false_iff_ne]
          intro e
          exact h.1 (e ▸ List.mem_map_of_mem hp)
        rw [this]
        exact ih h.2 hp
  rw [this]; rfl

/-- a key of the map is a page -/
theorem DRep.keyIn (h : DRep w3 D (dfootE D d) m d) (hwf : m.Wf) (hl : IMapC w3 d.M l c) (hes : l.map (·.1) = d.es) {p : (Int × Value) × Nat} (hp : p ∈ l) : ∃ q : Nat, p.1.1 = q ∧ q < m.base.length := by
  have hmem : p.1 ∈ d.es := by rw [← hes]; exact List.mem_map_of_mem hp
  have hnd : (d.es.map (·.1)).Nodup := by rw [← hes, List.map_map]; exact hl.1
  have ha := alook_mem d.es hnd hmem
  have h0 : 0 ≤ p.1.1 := by
    rcases Int.lt_or_le p.1.1 0 with hlt | hge
    · rw [h.mpk _ hlt] at ha; cases ha
    · exact hge
  obtain ⟨q, hq⟩ : ∃ q : Nat, p.1.1 = q := ⟨p.1.1.toNat, by omega⟩
  refine ⟨q, hq, ?_⟩
  rw [hq, h.mpe] at ha
  cases hw : lastW d.ws q with
  | none => rw [hw] at ha; cases ha
  | some x =>
    have hm := lastW_mem hw
    exact (hwf.waiting (q, x.1) (by rw [h.wws]; exact List.mem_map.2 ⟨_, hm, rfl⟩)).1

/-- what Sync has laid: all pages as they were written last -/
theorem SyncR.done (h : SyncR w3 D m d l c seen pg wr) (hd : DRep w3 D (dfootE D d) m d) (hl : IMapC w3 d.M l c) (hes : l.map (·.1) = d.es) (hall : ∀ p ∈ l, seen.contains p.2 = true) (i : Nat) (hi : i < m.base.length) :
    ∃ v, pg[i]? = some v ∧ PgV (dfootE D d) w3 v (m.page i) := by
  obtain ⟨v, h1, h2⟩ := hd.pageV i hi
  have hnd : (d.es.map (·.1)).Nodup := by rw [← hes, List.map_map]; exact hl.1
  cases ha : alook d.es i with
  | none =>
    rw [ha] at h2
    refine ⟨v, ?_, h2⟩
    rw [h.pg2 i ?_, h1]
    intro p hp hpi
    have := alook_mem d.es hnd (p := p.1) (by rw [← hes]; exact List.mem_map_of_mem hp)
    rw [hpi, ha] at this
    cases this
  | some u =>
    rw [ha] at h2
    refine ⟨u, ?_, h2⟩
    obtain ⟨p, hp, hpe⟩ : ∃ p ∈ l, p.1 = ((i : Int), u) := by
      unfold alook at ha
      obtain ⟨y, hy, hyu⟩ := Option.map_eq_some_iff.1 ha
      have e1 := List.find?_some hy
      have e2 := List.mem_of_find?_eq_some hy
      rw [← hes] at e2
      obtain ⟨p, hp, rfl⟩ := List.mem_map.1 e2
      simp only [beq_iff_eq] at e1
      exact ⟨p, hp, by rw [← e1, ← hyu]⟩
    have := h.pg1 p hp (hall p hp) i (by rw [hpe])
    rw [this, hpe]

theorem settled_length (m : DM) : m.settled.length = m.base.length := by simp [DM.settled]
theorem settled_get (m : DM) (i : Nat) (h : i < m.settled.length) : m.settled[i] = m.page i := by simp [DM.settled]
theorem page_spend (m : DM) (i : Nat) : m.spend.page i = m.page i := by unfold DM.page; rw [spend_waiting, spend_base]

/-- the device behind a Sync -/
theorem DRep.synced {m' : DM} (hd : DRep w3 D (dfootE D d) m d) (hpn : pg.size = m.base.length) (hpv : ∀ i, i < m.base.length → ∃ v, pg[i]? = some v ∧ PgV (dfootE D d) w3 v (m.page i))
    (hsame : ∀ k, k < w3.heap.size → k ≠ D → k ≠ d.P → k ≠ d.M → wr.heap[k]? = w3.heap[k]?)
    (hblk : wr.heap[D]? = some (.cells (dcells m' m'.base.length { d with wv := .slice none 0 0, ws := [], es := [], pg := pg }) 95 (0, 0)))
    (hpg : wr.heap[d.P]? = some (.cells pg 41 (0, 0))) (hmp : IMap wr d.M [])
    (hb : m'.base = m.settled) (hw : m'.waiting = []) (hl : m'.log = m.log) (hm : m'.mark = m.mark) (ht : m'.torn = m.torn) (htl : m'.tail = m.tail) :
    DRep wr D (dfootE D { d with wv := .slice none 0 0, ws := [], es := [], pg := pg }) m' { d with wv := .slice none 0 0, ws := [], es := [], pg := pg } := by
  have ko : ∀ k, k < w3.heap.size → ¬ dfootE D d k → wr.heap[k]? = w3.heap[k]? := fun k h1 h2 => hsame k h1 (fun e => h2 (.inl (.inl e))) (fun e => h2 (.inl (.inr (.inl e)))) (fun e => h2 (.inl (.inr (.inr (.inl e)))))
  have hF0 : ∀ k, k < w3.heap.size → dfoot D { d with wv := .slice none 0 0, ws := [], es := [], pg := pg } k → dfoot D d k := by
    intro k hk h
    rcases h with h | h | h | h | h
    · exact .inl h
    · exact .inr (.inl h)
    · exact .inr (.inr (.inl h))
    · simp [Value.ownBlock] at h
    · exact .inr (.inr (.inr (.inr h)))
  have hF : ∀ k, k < w3.heap.size → dfootE D { d with wv := .slice none 0 0, ws := [], es := [], pg := pg } k → dfootE D d k := fun k hk h => h.imp (hF0 k hk) id
  refine ⟨hblk, hpg, by rw [hb, settled_length]; exact hpn, fun i hi => ?_, World.ownsRow_nil _ _ _ _, hw, by simp, hmp, fun _ => rfl, fun _ _ => rfl, ?_, ?_, ?_, ?_,
    fun k hE => lt_of_same (hd.elt k hE) (hsame k (hd.elt k hE) (fun e => hd.eown k hE (.inl e)) (fun e => hd.eown k hE (.inr (.inl e))) (fun e => hd.eown k hE (.inr (.inr (.inl e))))), fun k hE h => hd.eown k hE (hF0 k (hd.elt k hE) h)⟩
  · have hi' : i < m.base.length := by rw [hb, settled_length] at hi; exact hi
    obtain ⟨v, h1, h2⟩ := hpv i hi'
    refine ⟨v, h1, ?_⟩
    have : m'.base[i] = m.page i := by
      rw [← settled_get m i (by rw [settled_length]; exact hi')]
      congr 1
    rw [this]
    exact h2.keep ko hF
  · rw [hl]
    exact ownsRow_keep hd.log (fun k h' => hsame k (hd.log.lt k h').2 (fun e => hd.neL (e ▸ h')) (fun e => hd.nePL (e ▸ h')) (fun e => hd.neML (e ▸ h')))
  · rw [hm]; exact RdV.keep hd.mark ko hF
  · rw [htl]; exact RdV.keep hd.tail ko hF
  · rw [ht]; exact hd.torn.keep ko hF
end

section
variable (w : World) (D : Nat) (F : Foot) {E : Foot} (m : DM)

set_option maxHeartbeats 1000000 in
theorem d_sync (h : DiskAt w D E F m) (ho : m.ops < 4398046511104) : Calls Tryz.prog 46 #[.pointer (some ⟨D, 0, none⟩)] w (DPost w D E F m.sync) := by
  have h0 := h
  obtain ⟨d, rfl, rfl, h, hwf⟩ := h
  have c9 := h.cell 9
  simp only [dcells] at c9
  cases hd : m.dead with
  | true =>
    rw [hd] at c9
    have HR : Hid (m.sync = (m, 9)) := by show _ = _; simp [DM.sync, hd]
    have HO := Lib.hid h0
    clear h0 h hd hwf
    go_enter Tryz.func46, Tryz.ntmps46
    go_wp2
    go_ret
    exact DPost.same HO.out HR.out
  | false =>
    rw [hd] at c9
    have hct := d_counts_rep w D m d h hwf ho
    by_cases hf : m.fuse = 0
    · have HR : Hid (m.sync = (m.spend, 9)) := by show _ = _; simp [DM.sync, hd, hf]
      rw [show decide (m.fuse ≠ 0) = false by simp [hf]] at hct
      have HW := Lib.hid (DM.spend_wf hwf)
      clear h0 h hd hf hwf
      go_enter Tryz.func46, Tryz.ntmps46
      go_wp2_with fail
      refine hct.mono ?_
      rintro e w1 ⟨rfl, hr1, hc1⟩
      have HD := Lib.hid hr1
      have HC := Lib.hid hc1
      clear hr1 hc1 hct
      go_wp2
      go_ret
      exact DPost.of HR.out HD.out rfl HW.out HC.out
    · have HR : Hid (m.sync = ({ m.spend with base := m.settled, waiting := [] }, 0)) := by show _ = _; simp [DM.sync, hd, hf]
      rw [show decide (m.fuse ≠ 0) = true by simp [hf]] at hct
      have HW := Lib.hid (DM.spend_wf hwf)
      clear h0 h hd hf hwf
      go_enter Tryz.func46, Tryz.ntmps46
      go_wp2_with fail
      refine hct.mono ?_
      rintro e w3 ⟨rfl, hr3, hc3⟩
      have k3 := hr3.cell 3
      simp only [dcells] at k3
      obtain ⟨l, c, hl, hes⟩ := hr3.mp
      have hrg := imap_range (P := Tryz.prog) Tryz.underlying92 hl
      have hstart := SyncR.start hr3 hl
      have HD := Lib.hid hr3
      have HC := Lib.hid hc3
      have HL := Lib.hid hl
      have HE := Lib.hid hes
      have HST := Lib.hid hstart
      clear hr3 hc3 hct hl hes hstart
      go_wp2
      go_loopw [] (fun wr => ∃ seen pg, SyncR w3 D m.spend d l c seen pg wr) (fun wr => unseen l w3.heap.size wr)
      case atStart => exact ⟨_, _, HST.out⟩
      case round =>
        obtain ⟨seen, pg, hR⟩ := hrel
        have hMr : d.M ≠ w3.heap.size := by have := HD.out.mp.lt; omega
        have hlr : IMapC wr d.M l c := HL.out.keep (hR.same _ HD.out.mp.lt (Ne.symm HD.out.nePM))
        obtain ⟨v, w0, w', hrun, hw0, hcase⟩ := imap_next (P := Tryz.prog) (ty := 0) hlr hR.it
        have hnx : ∀ ty, (Instr.next (.pointer (some ⟨w3.heap.size, 0, none⟩)) false ty).run Tryz.prog wr = _ := fun _ => hrun
        have hR0 : SyncR w3 D m.spend d l c seen pg w0 := by rcases hw0 with rfl | rfl; exact hR; exact hR.drew
        have hu0 : unseen l w3.heap.size wr = (l.filter fun p => !seen.contains p.2).length := by unfold unseen; rw [hR.it]
        rcases hcase with ⟨hall, rfl, rfl⟩ | ⟨p, hp, hns, rfl, rfl⟩
        · have hblk : w'.heap[D]? = _ := (hR0.same D HD.out.D_lt HD.out.neP).trans HD.out.blk
          have k2 : w'.cell? ⟨D, 2, none⟩ = some d.wv := cell_of_row w' D 2 _ _ _ hblk
          have f2 : w'.frozen? ⟨D, 2, none⟩ = false := by simp [World.frozen?, hblk]
          have k3' : w'.cell? ⟨D, 3, none⟩ = some (.map (some d.M)) := cell_of_row w' D 3 _ _ _ hblk
          have hmp : IMap (w'.setCell ⟨D, 2, none⟩ (.slice none 0 0)) d.M (l.map (·.1)) := by
            refine IMap.keep (w := w') ⟨l, c, HL.out.keep (hR0.same _ HD.out.mp.lt (Ne.symm HD.out.nePM)), rfl⟩ ?_
            exact setCell_heap _ _ _ _ (Ne.symm HD.out.neM)
          obtain ⟨o, hcl, hmp2⟩ := imap_clear (P := Tryz.prog) (ty := 0) Tryz.underlying92 hmp
          have HB := Lib.hid hblk
          have HALL := Lib.hid hall
          have HM2 := Lib.hid hmp2
          have HR0 := Lib.hid hR0
          clear hmp hmp2 hblk hR0 hall hw0 hR hlr hrun hu0 hMr
          go_wp2
          go_ret
          have hsame : ∀ k, k < w3.heap.size → k ≠ D → k ≠ d.P → k ≠ d.M → (setObjW (w'.setCell ⟨D, 2, none⟩ (.slice none 0 0)) d.M o).heap[k]? = w3.heap[k]? := by
            intro k h1 h2 h3 h4
            rw [setObjW_other _ _ _ _ h4, setCell_heap _ _ _ _ h2]
            exact HR0.out.same k h1 h3
          refine DPost.of HR.out (HD.out.synced (m' := { m.spend with base := m.settled, waiting := [] }) (pg := pg) HR0.out.pgn (HR0.out.done HD.out HL.out HE.out HALL.out) hsame ?_ ?_ HM2.out ?_ rfl rfl rfl rfl rfl) rfl ⟨HW.out.certain, HW.out.room, HW.out.room24, ?_, ?_, ?_, Nat.zero_le _, HW.out.mark, HW.out.fuse1, HW.out.fuse2, ?_, HW.out.alive⟩ (HC.out.trans ⟨HR0.out.os, HR0.out.tape, HR0.out.output, ?_, ?_, ?_⟩)
          · rw [setObjW_other _ _ _ _ HD.out.neM, setCell_blk HB.out]
            have : m.settled.length = m.spend.base.length := by rw [settled_length, spend_base]
            simp [dcells, this]
          · rw [setObjW_other _ _ _ _ HD.out.nePM, setCell_heap _ _ _ _ (Ne.symm HD.out.neP)]
            exact HR0.out.pgs
          · unfold DM.settled
            rw [spend_base]
            exact List.map_congr_left (fun i _ => (page_spend m i).symm)
          · intro b hb
            obtain ⟨i, hi, rfl⟩ := List.mem_map.1 hb
            rw [← page_spend]
            exact DM.page_length HW.out i (by rw [spend_base]; exact List.mem_range.1 hi)
          · show m.settled.length ≤ _
            rw [settled_length, ← spend_base]
            exact HW.out.npages
          · intro p hp; simp at hp
          · intro p hp
            have := HW.out.torn p hp
            refine ⟨?_, this.2⟩
            show p.1 < m.settled.length
            rw [settled_length, ← spend_base]
            exact this.1
          · rw [setObjW_size, setCell_size, HR0.out.size]; omega
          · intro k hk hn
            exact hsame k hk (fun e => hn (.inl e)) (fun e => hn (.inr (.inl e))) (fun e => hn (.inr (.inr (.inl e))))
          · intro k hk
            rcases hk with h | h | h | h | h
            · exact .inl (.inl h)
            · exact .inl (.inr (.inl h))
            · exact .inl (.inr (.inr (.inl h)))
            · simp [Value.ownBlock] at h
            · exact .inl (.inr (.inr (.inr (.inr h))))
        · obtain ⟨q, hq, hqn⟩ := HD.out.keyIn HW.out HL.out HE.out hp
          rw [hq] at hnx
          have hblk0 : w0.heap[D]? = _ := (hR0.same D HD.out.D_lt HD.out.neP).trans HD.out.blk
          obtain ⟨w1, hw1⟩ : ∃ w1, setObjW w0 w3.heap.size (.mapIter (some d.M) c (seen.push p.2) c) = w1 := ⟨_, rfl⟩
          have hDr : D ≠ w3.heap.size := by have := HD.out.D_lt; omega
          have hPr : d.P ≠ w3.heap.size := by have := (Array.getElem?_eq_some_iff.1 HD.out.pgs).1; omega
          have hblk1 : w1.heap[D]? = some (.cells (dcells m.spend m.spend.base.length d) 95 (0, 0)) := by rw [← hw1, setObjW_other _ _ _ _ hDr]; exact hblk0
          have hpg1 : w1.heap[d.P]? = some (.cells pg 41 (0, 0)) := by rw [← hw1, setObjW_other _ _ _ _ hPr]; exact hR0.pgs
          have hl1 : IMapC w1 d.M l c := HL.out.keep (by rw [← hw1, setObjW_other _ _ _ _ hMr]; exact hR0.same _ HD.out.mp.lt (Ne.symm HD.out.nePM))
          have hit1 : w1.heap[w3.heap.size]? = some (.mapIter (some d.M) c (seen.push p.2) c) := by rw [← hw1]; exact setObjW_same hR0.it
          have hen := imap_entry (P := Tryz.prog) hl1 hp hit1
          have k1 : w1.cell? ⟨D, 1, none⟩ = some (.slice (some ⟨d.P, 0, none⟩) m.base.length m.base.length) := by
            have := cell_of_row w1 D 1 _ _ _ hblk1
            rw [this]
            simp [dcells, spend_base]
          have kq : ∃ u, w1.cell? ⟨d.P, q, none⟩ = some u := by
            rw [cell_of_row w1 d.P q _ _ _ hpg1, Array.getElem?_eq_getElem (by rw [hR0.pgn]; exact hqn)]
            exact ⟨_, rfl⟩
          obtain ⟨uq, kq⟩ := kq
          have fq : w1.frozen? ⟨d.P, q, none⟩ = false := by simp [World.frozen?, hpg1]
          have hval : ∃ a n c, p.1.2 = .slice a n c := by
            have hmem : p.1 ∈ d.es := by rw [← HE.out]; exact List.mem_map_of_mem hp
            have hnd : (d.es.map (·.1)).Nodup := by rw [← HE.out, List.map_map]; exact HL.out.1
            have ha := alook_mem d.es hnd hmem
            rw [hq, HD.out.mpe] at ha
            cases hw : lastW d.ws q with
            | none => rw [hw] at ha; cases ha
            | some x =>
              rw [hw] at ha
              injection ha with ha
              obtain ⟨a, c, hv, -⟩ := (HD.out.wrd _ (lastW_mem hw)).form
              exact ⟨a, _, c, by rw [← ha]; exact hv⟩
          obtain ⟨va, vn, vc, hval⟩ := hval
          have hstep := hR0.step HD.out HL.out hp q hq hqn
          rw [hw1, hval] at hstep
          rw [hw1, hval] at hnx
          rw [hq, hval] at hen
          have hqb : (q : Int) < (m.base.length : Int) := by
            have := hqn
            rw [spend_base] at this
            omega
          have HST := Lib.hid hstep
          have HU := Lib.hid hu0
          have HNS := Lib.hid hns
          have HP := Lib.hid hp
          clear hstep hu0 hns hblk0 hblk1 hpg1 hl1 hit1 hR0 hR hlr hrun hw0 hw1 hqn hDr hPr hMr hval
          go_wp2
          go_roundw
          case rel => exact ⟨_, _, HST.out⟩
          case measure =>
            rw [HU.out]
            unfold unseen
            rw [HST.out.it]
            refine filter_lt _ _ l (fun x _ hx => ?_) ⟨p, HP.out, by simpa using HNS.out, by simp⟩
            simp at hx ⊢
            exact hx.1
end
end Mun
end
