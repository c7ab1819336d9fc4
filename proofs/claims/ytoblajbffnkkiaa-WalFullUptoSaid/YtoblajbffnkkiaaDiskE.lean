/- Contract of a device's Append. -/
import Derived.Test.YtoblajbffnkkiaaDiskC
import Derived.Deep.QuietTactic
import Derived.BigQuiet
set_option maxRecDepth 100000
set_option linter.unusedVariables false
namespace Mun
open Go Go.RowKit
open Go.Proofs

theorem DRep.drewN {w : World} {D : Nat} {m : DM} {d : DV} (h : DRep w D (dfootE D d) m d) (k : Nat) : DRep (w.drewN k) D (dfootE D d) m d := h.keep (fun _ _ => rfl)
theorem chg_drewN {F : Foot} (w : World) (k : Nat) : Chg F F w (w.drewN k) := ⟨rfl, rfl, rfl, Nat.le_refl _, fun _ _ _ => rfl, fun _ h => .inl h⟩
theorem DiskAt.drewN {w : World} {D : Nat} {E F : Foot} {m : DM} (h : DiskAt w D E F m) (k : Nat) : DiskAt (w.drewN k) D E F m := h.keep (fun _ _ => rfl)
theorem DPost.drewN {w w' : World} {D : Nat} {E F : Foot} {r : DM × Int} {e : Ending} {k : Nat} (h : DPost (w.drewN k) D E F r e w') : DPost w D E F r e w' := by
  obtain ⟨h1, F', h2, h3⟩ := h
  exact ⟨h1, F', h2, (chg_drewN w k).trans h3⟩

section
variable (w : World) (D : Nat) (F : Foot) {E : Foot} (m : DM)

theorem d_append (h : DiskAt w D E F m) (ho : m.ops < 4398046511104) (v : Value) (b : Bytes) (hv : RdB F w v b) : Calls Try.prog 40 #[.pointer (some ⟨D, 0, none⟩), v] w (DPost w D E F (m.append b)) := by
  have h0 := h
  obtain ⟨d, rfl, rfl, h, hwf⟩ := h
  have c9 := h.cell 9
  have c4 := h.cell 4
  have c0 := h.cell 0
  simp only [dcells] at c9 c4 c0
  have hrd : RdB NoF w d.lv m.log := h.log.rd (fun _ _ => noF _)
  have hlr0 := hwf.room
  have hlr : m.log.length ≤ m.room := by omega
  clear hlr0
  have hr24 := hwf.room24
  obtain ⟨a, n, c, hlv, HN, hlc, hcm⟩ := hrd.formN
  rw [hlv] at c4
  have HLV := Lib.hid hlv
  obtain ⟨a0, n0, c0', rfl, HN0, hlc0, hcm0⟩ := hv.formN
  cases hd : m.dead with
  | true =>
    rw [hd] at c9
    have HR : Hid (m.append b = (m, 9)) := by show _ = _; simp [DM.append, hd]
    have HO := Lib.hid h0
    clear h0 h hd hwf hrd hlv hv
    go_enter Try.func40, Try.ntmps40
    go_wp2
    go_ret
    exact DPost.same HO.out HR.out
  | false =>
    rw [hd] at c9
    rw [← HN.out] at hlr
    obtain ⟨R, hRr⟩ : ∃ R, m.room = R := ⟨_, rfl⟩
    have HRR := Lib.hid hRr
    rw [hRr] at c0 hlr hr24
    by_cases hfull : R < n + n0
    · have HR : Hid (m.append b = (m, 7)) := by show _ = _; rw [HN.out, HN0.out, ← hRr] at hfull; simp [DM.append, hd, hfull]
      have HO := Lib.hid h0
      have ht : (n0 : Int) > (R : Int) - (n : Int) := by omega
      clear h0 h hd hwf hrd hlv hv hRr hfull
      go_enter Try.func40, Try.ntmps40
      go_wp2
      go_quiet (fail)
      go_wp2
      go_ret
      exact DPost.drewN (DPost.same (HO.out.drewN _) HR.out)
    · have hnot : ¬ m.room < m.log.length + b.length := by rw [HN.out, HN0.out, ← hRr] at hfull; exact hfull
      have ht : ¬ (n0 : Int) > (R : Int) - (n : Int) := by omega
      have HS : Hid (m.log.length + b.length ≤ 16777216) := by show _ ≤ _; rw [← HN.out, ← HN0.out]; omega
      have hct := fun k => d_counts_rep (w.drewN k) D m d (h.drewN k) hwf ho
      by_cases hf : m.fuse = 0
      · have HR : Hid (m.append b = ({ m.spend with tail := b }, 9)) := by show _ = _; unfold DM.append; rw [hd, if_neg (by simp), if_neg hnot, if_pos hf]
        rw [show decide (m.fuse ≠ 0) = false by simp [hf]] at hct
        have HW := Lib.hid (DM.spend_wf hwf)
        have HV := Lib.hid hv
        have HSD := Lib.hid (spend_dead hf)
        have HNR : Hid (m.log.length + b.length ≤ m.room) := by show _ ≤ _; omega
        clear h0 h hd hf hwf hrd hlv hv hRr hfull hnot
        go_enter Try.func40, Try.ntmps40
        go_wp2
        go_quiet (fail)
        go_wp2_with fail
        refine (hct _).mono ?_
        rintro e w1 ⟨rfl, hr1, hc1⟩
        have HD := Lib.hid hr1
        have HC := Lib.hid hc1
        clear hr1 hc1 hct
        go_wp2_with fail
        refine (clone6 w1 _ b ((HV.out.drewN _).chg HC.out) (by have := HS.out; omega)).mono ?_
        rintro e w2 ⟨rfl, hw2⟩
        have hr2 : DRep w2 D (dfootE D d) m.spend d := by rw [← hw2]; exact HD.out.alloc _
        have k6 := hr2.cell 11
        have f6 := hr2.frozen 11
        simp only [dcells] at k6
        have HW2 := Lib.hid hw2
        clear hr2 hw2
        go_wp2
        go_ret
        rw [← HW2.out]
        refine DPost.drewN (DPost.of HR.out (HD.out.setTail b (by have := HS.out; omega)) rfl ⟨HW.out.certain, ?_, HW.out.room24, HW.out.pages, HW.out.npages, HW.out.waiting, HW.out.nwait, HW.out.mark, HW.out.fuse1, HW.out.fuse2, HW.out.torn, fun h => by rw [show m.spend.dead = true from HSD.out] at h; cases h⟩ (HC.out.trans (chg_allocSet _ _ _ _ _ _)))
        show m.spend.log.length + b.length ≤ m.spend.room
        rw [spend_log, spend_room]
        exact HNR.out
      · have HR : Hid (m.append b = ({ m.spend with log := m.log ++ b }, 0)) := by show _ = _; unfold DM.append; rw [hd, if_neg (by simp), if_neg hnot, if_neg hf]
        have HNR : Hid (m.log.length + b.length ≤ m.room) := by show _ ≤ _; omega
        have HTL : Hid (m.spend.tail = []) := by show _ = _; rw [spend_tail]; exact (hwf.alive hd).1
        rw [show decide (m.fuse ≠ 0) = true by simp [hf]] at hct
        have HW := Lib.hid (DM.spend_wf hwf)
        have HV := Lib.hid hv
        clear h0 h hd hf hwf hrd hlv hv hRr hfull hnot
        go_enter Try.func40, Try.ntmps40
        go_wp2
        go_quiet (fail)
        go_wp2_with fail
        refine (hct _).mono ?_
        rintro e w1 ⟨rfl, hr1, hc1⟩
        have HD := Lib.hid hr1
        have HC := Lib.hid hc1
        have k4 := hr1.cell 4
        simp only [dcells] at k4
        have hL := hr1.log
        rw [spend_log] at hL
        obtain ⟨lv2, w2, hrun, hL2, hgr, hwh, -⟩ := append_bytes (ty := 23) hL ((HV.out.drewN _).chg HC.out) (by have := HS.out; omega) (Nat.zero_le _)
        obtain ⟨a2, n2, c2, hlv2, HN2, -, -⟩ := (OwnB.rd (F := NoF) hL2 (fun _ _ => noF _)).formN
        subst hlv2
        have HRUN := Lib.hid hrun
        have k4' : w2.cell? ⟨D, 4, none⟩ = some d.lv := by
          have := cell_of_row w2 D 4 _ _ _ ((hgr.block D hr1.D_lt (Ne.symm hr1.neL)).trans hr1.blk)
          exact this
        have f4 : w2.frozen? ⟨D, 4, none⟩ = false := by
          have : w2.heap[D]? = _ := (hgr.block D hr1.D_lt (Ne.symm hr1.neL)).trans hr1.blk
          simp [World.frozen?, this]
        have HH := Lib.hid hgr
        have HL2 := Lib.hid hL2
        have HWH := Lib.hid hwh
        clear hr1 hc1 hct hrun hgr hL hL2 hwh
        go_wp2_with (at_builtin; refine wpList_append_eq rfl rfl HRUN.out rfl rfl ?_; clear HRUN)
        go_ret
        have hsame : ∀ k, k < w1.heap.size → k ≠ D → d.lv.ownBlock ≠ some k → (w2.setCell ⟨D, 4, none⟩ (.slice a2 n2 c2)).heap[k]? = w1.heap[k]? := fun k h1 h2 h3 => (setCell_heap w2 _ (.slice a2 n2 c2) k h2).trans (HH.out.block k h1 (Ne.symm h3))
        have hLv : ∀ k, (Value.slice a2 n2 c2).ownBlock = some k → d.lv.ownBlock = some k ∨ w1.heap.size ≤ k := by
          intro k hk
          rcases HWH.out with e | e
          · exact .inl (e ▸ hk)
          · rw [e] at hk
            injection hk with hk
            exact .inr (by omega)
        have hLw : ∀ k, (Value.slice a2 n2 c2).ownBlock = some k → k < w2.heap.size := fun k hk => (HL2.out.lt k hk).2
        have hne : (Value.slice a2 n2 c2).ownBlock ≠ some D := by
          intro e
          rcases hLv D e with h | h
          · exact HD.out.neL h
          · have := HD.out.D_lt; omega
        refine DPost.drewN (DPost.of HR.out (HD.out.upd (.slice a2 n2 c2) d.mv d.tv d.tl hsame ?_ rfl rfl hLv (OwnB.setOther HL2.out _ _ hne) (.inl ⟨rfl, rfl⟩) (.inl ⟨rfl, rfl⟩) (.inl ⟨rfl, rfl⟩)) rfl ⟨?_, ?_, HW.out.room24, HW.out.pages, HW.out.npages, HW.out.waiting, HW.out.nwait, HW.out.mark, HW.out.fuse1, HW.out.fuse2, HW.out.torn, HW.out.alive⟩ (HC.out.trans ⟨HH.out.os, HH.out.tape, HH.out.output, ?_, ?_, ?_⟩))
        · rw [setCell_blk ((HH.out.block D HD.out.D_lt (Ne.symm HD.out.neL)).trans HD.out.blk)]
          simp [dcells]
        · show m.spend.certain ≤ (m.log ++ b).length
          have := HW.out.certain
          rw [spend_log] at this
          rw [List.length_append]
          omega
        · show (m.log ++ b).length + m.spend.tail.length ≤ m.spend.room
          rw [HTL.out, spend_room, List.length_append]
          exact HNR.out
        · rw [setCell_size]; exact HH.out.size
        · intro k hk hn
          exact hsame k hk (fun e => hn (.inl e)) (fun e => hn (.inr (.inr (.inr (.inr e)))))
        · intro k hk
          rcases hk with h | h | h | h | h
          · exact .inl (.inl h)
          · exact .inl (.inr (.inl h))
          · exact .inl (.inr (.inr (.inl h)))
          · exact .inl (.inr (.inr (.inr (.inl h))))
          · rcases hLv k h with h' | h'
            · exact .inl (.inr (.inr (.inr (.inr h'))))
            · refine .inr ⟨h', ?_⟩
              rw [setCell_size]
              exact hLw k h
end
end Mun
