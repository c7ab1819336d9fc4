/- Contract of a device's Write. -/
import Derived.Test.YtmlggofojdhmmaaDiskE
import Derived.Deep.AppendLies
import Derived.Deep.RegionLaw
set_option maxRecDepth 100000
set_option linter.unusedVariables false
namespace Mun
open Go Go.RowKit
open Go.Proofs

theorem info_write : (Try.prog.info? 70).map (fun i => (i.zero, i.size, i.bytes)) = some (some (.agg #[.int .i64 0, .slice none 0 0]), 2, 32) := by kernel_rfl

section
variable {w w' : World} {D : Nat} {m m' : DM} {d : DV}

/-- a write has come to those that wait -/
theorem DRep.written (h : DRep w D (dfootE D d) m d) (n : Nat) (b : Bytes) (sv wv : Value) (es : List (Int × Value))
    (hsame : ∀ k, k < w.heap.size → k ≠ D → d.wv.ownBlock ≠ some k → k ≠ d.M → w'.heap[k]? = w.heap[k]?)
    (hblk : w'.heap[D]? = some (.cells (dcells m' m'.base.length { d with wv := wv, ws := d.ws ++ [(n, (b, sv))], es := es }) 66 (0, 0)))
    (hrow : w'.ownsRow 0 70 2 wv (d.ws.length + 1) (wcells d.ws ++ [.int .i64 n, sv]))
    (hW : ∀ k, wv.ownBlock = some k → d.wv.ownBlock = some k ∨ w.heap.size ≤ k)
    (hmp : IMap w' d.M es) (hes : ∀ q, alook es q = if q = (n : Int) then some sv else alook d.es q) (hrd : RdB (dfootE D d) w sv b)
    (hb : m'.base = m.base) (hw : m'.waiting = m.waiting ++ [(n, b)]) (hl : m'.log = m.log) (hm : m'.mark = m.mark) (ht : m'.torn = m.torn) (htl : m'.tail = m.tail) :
    DRep w' D (dfootE D { d with wv := wv, ws := d.ws ++ [(n, (b, sv))], es := es }) m' { d with wv := wv, ws := d.ws ++ [(n, (b, sv))], es := es } := by
  have ko : ∀ k, k < w.heap.size → ¬ dfootE D d k → w'.heap[k]? = w.heap[k]? := fun k h1 h2 => hsame k h1 (fun e => h2 (.inl (.inl e))) (fun e => h2 (.inl (.inr (.inr (.inr (.inl e)))))) (fun e => h2 (.inl (.inr (.inr (.inl e)))))
  have hF0 : ∀ k, k < w.heap.size → dfoot D { d with wv := wv, ws := d.ws ++ [(n, (b, sv))], es := es } k → dfoot D d k := by
    intro k hk h
    rcases h with h | h | h | h | h
    · exact .inl h
    · exact .inr (.inl h)
    · exact .inr (.inr (.inl h))
    · rcases hW k h with h | h
      · exact .inr (.inr (.inr (.inl h)))
      · omega
    · exact .inr (.inr (.inr (.inr h)))
  have hF : ∀ k, k < w.heap.size → dfootE D { d with wv := wv, ws := d.ws ++ [(n, (b, sv))], es := es } k → dfootE D d k := fun k hk h => h.imp (hF0 k hk) id
  refine ⟨hblk, (hsame _ (Array.getElem?_eq_some_iff.1 h.pgs).1 (Ne.symm h.neP) h.nePW h.nePM).trans h.pgs, by rw [hb]; exact h.pgn, fun i hi => ?_, ?_, ?_, ?_, hmp, ?_, fun q hq => ?_, ?_, ?_, ?_, ?_,
    fun k hE => lt_of_same (h.elt k hE) (hsame k (h.elt k hE) (fun e => h.eown k hE (.inl e)) (fun e => h.eown k hE (.inr (.inr (.inr (.inl e))))) (fun e => h.eown k hE (.inr (.inr (.inl e))))), fun k hE hd => h.eown k hE (hF0 k (h.elt k hE) hd)⟩
  · obtain ⟨v, h1, h2⟩ := h.pgv i (by rw [hb] at hi; exact hi)
    refine ⟨v, h1, ?_⟩
    have : m'.base[i] = m.base[i]'(by rw [hb] at hi; exact hi) := by congr 1
    rw [this]
    exact h2.keep ko hF
  · simpa [wcells] using hrow
  · rw [hw, h.wws]; simp
  · intro p hp
    rcases List.mem_append.1 hp with hp | hp
    · exact RdV.keep (h.wrd p hp) ko hF
    · obtain rfl : p = (n, (b, sv)) := by simpa using hp
      exact RdV.keep hrd ko hF
  · intro q
    rw [hes, lastW_snoc, h.mpe q]
    by_cases hq : n = q
    · subst hq; simp
    · have : ¬ (q : Int) = (n : Int) := by omega
      simp [this, hq]
  · rw [hes, if_neg (by omega)]
    exact h.mpk q hq
  · rw [hl]
    exact ownsRow_keep h.log (fun k h' => hsame k (h.log.lt k h').2 (fun e => h.neL (e ▸ h')) (fun e => h.neWL k e h') (fun e => h.neML (e ▸ h')))
  · rw [hm]; exact RdV.keep h.mark ko hF
  · rw [htl]; exact RdV.keep h.tail ko hF
  · rw [ht]; exact h.torn.keep ko hF
end

section
variable (w : World) (D : Nat) (F : Foot) {E : Foot} (m : DM)

theorem spend_waiting (m : DM) : m.spend.waiting = m.waiting := by unfold DM.spend; split <;> rfl
theorem spend_ops {m : DM} (h : m.fuse ≠ 0) : m.spend.ops = m.ops + 1 := by unfold DM.spend; rw [if_neg h]

theorem d_write_no (h : DiskAt w D E F m) (n : Int) (v : Value) (b : Bytes) (hv : RdB F w v b) (hno : m.dead = true ∨ ¬ (0 ≤ n ∧ n < m.base.length) ∨ b.length ≠ 512) : Calls Try.prog 12 #[.pointer (some ⟨D, 0, none⟩), .int .i64 n, v] w (DPost w D E F (m.write n b)) := by
  have h0 := h
  have hh := d_has w D F m h n
  obtain ⟨d, rfl, rfl, h, hwf⟩ := h
  have c9 := h.cell 9
  simp only [dcells] at c9
  obtain ⟨a0, n0, c0, rfl, HN0, hlc0, hcm0⟩ := hv.formN
  cases hd : m.dead with
  | true =>
    rw [hd] at c9
    have HR : Hid (m.write n b = (m, 9)) := by show _ = _; simp [DM.write, hd]
    have HO := Lib.hid h0
    clear h0 h hd hwf hv hno hh
    go_enter Try.func12, Try.ntmps12
    go_wp2
    go_ret
    exact DPost.same HO.out HR.out
  | false =>
    rw [hd] at c9
    rw [hd] at hno
    have hno : ¬ (0 ≤ n ∧ n < m.base.length) ∨ b.length ≠ 512 := by simpa using hno
    have HR : Hid (m.write n b = (m, 1)) := by show _ = _; unfold DM.write; rw [hd, if_neg (by simp), if_pos hno]
    have HO := Lib.hid h0
    by_cases hb : 0 ≤ n ∧ n < m.base.length
    · rw [show hasB m.base.length n = true by unfold hasB; exact decide_eq_true hb] at hh
      have hl : b.length ≠ 512 := by rcases hno with h | h; exact absurd hb h; exact h
      have hl2 : ((n0 : Int) != 512) = true := by have := HN0.out; simp; omega
      clear h0 h hd hwf hv hno hb hl
      go_enter Try.func12, Try.ntmps12
      go_wp2_with fail
      refine hh.mono ?_
      rintro e w' ⟨rfl, rfl⟩
      go_wp2
      go_ret
      exact DPost.same HO.out HR.out
    · rw [show hasB m.base.length n = false by unfold hasB; exact decide_eq_false hb] at hh
      clear h0 h hd hwf hv hno hb
      go_enter Try.func12, Try.ntmps12
      go_wp2_with fail
      refine hh.mono ?_
      rintro e w' ⟨rfl, rfl⟩
      go_wp2
      go_ret
      exact DPost.same HO.out HR.out

theorem d_write_ok (h : DiskAt w D E F m) (ho : m.ops < 4398046511104) (n : Nat) (v : Value) (b : Bytes) (hv : RdB F w v b) (hd : m.dead = false) (hn : n < m.base.length) (hb : b.length = 512) : Calls Try.prog 12 #[.pointer (some ⟨D, 0, none⟩), .int .i64 n, v] w (DPost w D E F (m.write n b)) := by
  have h0 := h
  have hh := d_has w D F m h n
  rw [show hasB m.base.length n = true by unfold hasB; exact decide_eq_true (by omega)] at hh
  obtain ⟨d, rfl, rfl, h, hwf⟩ := h
  have c9 := h.cell 9
  simp only [dcells, hd] at c9
  obtain ⟨a0, n0, c0, rfl, HN0, hlc0, hcm0⟩ := hv.formN
  have hn0 : n0 = 512 := by rw [HN0.out]; exact hb
  subst hn0
  have hcl := clone6 w _ b hv (by omega)
  rw [hb] at hcl
  have HO := Lib.hid h0
  have HB := Lib.hid hb
  have HD := Lib.hid h
  clear h0 h hb
  go_enter Try.func12, Try.ntmps12
  go_wp2_with fail
  refine hh.mono ?_
  rintro e w' ⟨rfl, rfl⟩
  go_wp2_with fail
  refine hcl.mono ?_
  rintro e w1 ⟨rfl, hw1⟩
  go_wp2_with fail
  obtain ⟨w2, hw2⟩ : ∃ w2, w1.alloc (.cells #[.int .i64 n, .slice (some ⟨w.heap.size, 0, none⟩) 512 512] 70) = w2 := ⟨_, rfl⟩
  rw [hw2]
  have hs1 : w1.heap.size = w.heap.size + 1 := by rw [← hw1, World.size_alloc]
  have hr2 : DRep w2 D (dfootE D d) m d := by rw [← hw2, ← hw1]; exact (HD.out.alloc _).alloc _
  have hc2 : Chg (dfoot D d) (dfoot D d) w w2 := by rw [← hw2, ← hw1]; exact (chg_alloc _ _).trans (chg_alloc _ _)
  have ht2 : w2.heap[w1.heap.size]? = some (.cells #[.int .i64 n, .slice (some ⟨w.heap.size, 0, none⟩) 512 512] 70 (0, 0)) := by rw [← hw2]; exact heap_alloc_new w1 _
  have hb2 : RdB (dfootE D d) w2 (.slice (some ⟨w.heap.size, 0, none⟩) 512 512) b := by
    rw [← hw2, ← hw1]
    have := bobj_rd (F := dfootE D d) w b b.length rfl (maxLen_ge (by have := HB.out; omega)) (fun hk => absurd (HD.out.foot_lt _ hk) (Nat.lt_irrefl _))
    rw [HB.out] at this
    exact this.alloc _
  have htF : ¬ dfootE D d w1.heap.size := fun hk => by have := HD.out.foot_lt _ hk; omega
  have hct := d_counts_rep w2 D m d hr2 hwf ho
  have hts2 : w1.heap.size < w2.heap.size := (Array.getElem?_eq_some_iff.1 ht2).1
  have HC2 := Lib.hid hc2
  have HB2 := Lib.hid hb2
  have HT2 := Lib.hid ht2
  have HTF := Lib.hid htF
  have HS1 := Lib.hid hs1
  have HTS := Lib.hid hts2
  clear hc2 hb2 ht2 htF hr2 hw2 hw1 hh hcl hs1 hts2
  obtain ⟨t, ht⟩ : ∃ t, w1.heap.size = t := ⟨_, rfl⟩
  rw [ht] at HTF HT2 HTS HS1 ⊢
  clear ht
  by_cases hf : m.fuse = 0
  · have HR : Hid (m.write n b = ({ m.spend with torn := some (n, b) }, 9)) := by
      show _ = _
      unfold DM.write
      rw [hd, if_neg (by simp), if_neg (by have := HB.out; omega), if_pos hf, Int.toNat_natCast]
    rw [show decide (m.fuse ≠ 0) = false by simp [hf]] at hct
    refine hct.mono ?_
    rintro e w3 ⟨rfl, hr3, hc3⟩
    have k10 := hr3.cell 10
    have f10 := hr3.frozen 10
    simp only [dcells] at k10
    have HD3 := Lib.hid hr3
    have HC3 := Lib.hid hc3
    have HN := Lib.hid hn
    have HW := Lib.hid (DM.spend_wf hwf)
    have HSD := Lib.hid (spend_dead hf)
    clear hr3 hc3 hct hn hwf ho hd hf
    go_wp2
    go_ret
    refine DPost.of HR.out (HD3.out.upd d.lv d.mv (.pointer (some ⟨t, 0, none⟩)) d.tl (fun k _ hD _ => setCell_heap w3 _ _ k hD) ?_ rfl rfl (fun k hk => .inl hk) ?_ (.inl ⟨rfl, rfl⟩) (.inl ⟨rfl, rfl⟩) (.inr ?_)) rfl ⟨HW.out.certain, HW.out.room, HW.out.room24, HW.out.pages, HW.out.npages, HW.out.waiting, HW.out.nwait, HW.out.mark, HW.out.fuse1, HW.out.fuse2, ?_, fun h => by rw [show m.spend.dead = true from HSD.out] at h; cases h⟩ ((HC2.out.trans HC3.out).trans (chg_setCell _ _ _ (.inl rfl)))
    · rw [setCell_blk HD3.out.blk]
      simp [dcells]
    · exact OwnB.setOther HD3.out.log _ _ HD3.out.neL
    · refine ⟨t, _, rfl, HTF.out, ?_, RdB.set (rdE_chg HB2.out HC3.out) _ _ (.inl (.inl rfl))⟩
      rw [setCell_heap _ _ _ _ (fun e => HTF.out (.inl (.inl e))), HC3.out.block t HTS.out (fun e => HTF.out (.inl e))]
      exact HT2.out
    · intro p hp
      injection hp with hp
      subst hp
      refine ⟨?_, HB.out⟩
      show n < m.spend.base.length
      rw [spend_base]
      exact HN.out
  · have HR : Hid (m.write n b = ({ m.spend with waiting := m.waiting ++ [(n, b)] }, 0)) := by
      show _ = _
      unfold DM.write
      rw [hd, if_neg (by simp), if_neg (by have := HB.out; omega), if_neg hf, Int.toNat_natCast]
    rw [show decide (m.fuse ≠ 0) = true by simp [hf]] at hct
    refine hct.mono ?_
    rintro e w3 ⟨rfl, hr3, hc3⟩
    have k2 := hr3.cell 2
    have f2 := hr3.frozen 2
    have k3 := hr3.cell 3
    simp only [dcells] at k2 k3
    have HT3 : Hid (w3.heap[t]? = some (.cells #[.int .i64 n, .slice (some ⟨w.heap.size, 0, none⟩) 512 512] 70 (0, 0))) := by
      show _ = _
      rw [hc3.block t HTS.out (fun e => HTF.out (.inl e))]
      exact HT2.out
    have kt0 : w3.cell? ⟨t, 0, none⟩ = some (.int .i64 n) := cell_of_row w3 t 0 _ _ _ HT3.out
    have kt1 : w3.cell? ⟨t, 1, none⟩ = some (.slice (some ⟨w.heap.size, 0, none⟩) 512 512) := cell_of_row w3 t 1 _ _ _ HT3.out
    have HD3 := Lib.hid hr3
    have HC3 := Lib.hid hc3
    have HN := Lib.hid hn
    have HW := Lib.hid (DM.spend_wf hwf)
    obtain ⟨i, hi, hz, hi1, hi2⟩ := info_of info_write
    have HOW : Hid ((w3.drew.alloc (.cells #[.int .i64 n, .slice (some ⟨w.heap.size, 0, none⟩) 512 512] 70)).ownsRow 0 70 2 d.wv d.ws.length (wcells d.ws)) :=
      ownsRow_keep hr3.wrow (fun k hk => alloc_get w3.drew _ k (hr3.wrow.lt k hk).2)
    have HWN : Hid (m.waiting.length + 1 ≤ m.spend.ops) := by
      show _ ≤ _
      rw [spend_ops hf]
      exact Nat.succ_le_succ hwf.nwait
    have HLW : Hid (d.ws.length < 4398046511104) := by
      show _ < _
      have := hwf.nwait
      rw [HD.out.wws, List.length_map] at this
      omega
    have HDl := Lib.hid hr3.D_lt
    have HNW := Lib.hid hr3.neW
    have k2a : (w3.alloc (.cells #[.int .i64 n, .slice (some ⟨w.heap.size, 0, none⟩) 512 512] 70)).cell? ⟨D, 2, none⟩ = some d.wv :=
      cell_of_row _ D 2 _ _ _ ((alloc_get w3 _ D HDl.out).trans HD3.out.blk)
    clear hr3 hc3 hct hn hwf ho hd hf
    go_wp2
    go_region_law (
      refine step_append_lies _ rfl (.tmp 37) (.tmp 39) 62 rfl 0 70 i _ 2 32 Try.underlying62 hi hz hi1 hi2 rfl (by decide) d.wv d.ws.length (wcells d.ws) (by simp [Act.eval]) HOW.out ⟨w3.heap.size, 0, none⟩ 1 1 [.int .i64 n, .slice (some ⟨w.heap.size, 0, none⟩) 512 512] (by simp [Act.eval]) rfl (World.news_of_block (heap_alloc_new w3.drew _)) (by simp [Value.oneCell']) (by decide) (by have := HLW.out; unfold maxLen; omega) (by have := HLW.out; omega) (Nat.zero_le _) _ rfl ?_
      intro g cap w4 hown4 hgr4 hat4 hlt4
      have e4 : w4.heap[D]? = some (.cells (dcells m.spend m.spend.base.length d) 66 (0, 0)) := (hgr4.block D (Nat.lt_of_lt_of_le HDl.out (chg_alloc (F := NoF) w3.drew _).size) (Ne.symm HNW.out)).trans ((alloc_get w3.drew _ D HDl.out).trans HD3.out.blk)
      have k42 : w4.cell? ⟨D, 2, none⟩ = some d.wv := cell_of_row w4 D 2 _ _ _ e4
      have f42 : w4.frozen? ⟨D, 2, none⟩ = false := by simp [World.frozen?, e4]
      have HO4 := Lib.hid hown4
      have HG4 := Lib.hid hgr4
      have HA4 := Lib.hid hat4
      have HE4 := Lib.hid e4
      clear hown4 hgr4 hat4 e4)
    all_goals
      obtain ⟨w5, hw5⟩ : ∃ w5, w4.setCell ⟨D, 2, none⟩ (.slice (some ⟨g, 0, none⟩) (d.ws.length + 1) cap) = w5 := ⟨_, rfl⟩
      rw [hw5]
      have s45 : w5.heap.size = w4.heap.size := by rw [← hw5, setCell_size]
      have s34 : w3.heap.size < w4.heap.size := by
        have h : (w3.alloc (.cells #[.int .i64 n, .slice (some ⟨w.heap.size, 0, none⟩) 512 512] 70)).heap.size ≤ w4.heap.size := HG4.out.size
        rw [World.size_alloc] at h
        omega
      have same5 : ∀ k, k < w3.heap.size → k ≠ D → d.wv.ownBlock ≠ some k → w5.heap[k]? = w3.heap[k]? := by
        intro k h1 h2 h3
        rw [← hw5, setCell_heap _ _ _ _ h2]
        exact (HG4.out.block k (Nat.lt_of_lt_of_le h1 (chg_alloc (F := NoF) w3.drew _).size) (Ne.symm h3)).trans (alloc_get w3.drew _ k h1)
      have blk5 : w5.heap[D]? = some (.cells ((dcells m.spend m.spend.base.length d).setIfInBounds 2 (.slice (some ⟨g, 0, none⟩) (d.ws.length + 1) cap)) 66 (0, 0)) := by
        rw [← hw5]
        exact setCell_blk HE4.out _
      have k53 : w5.cell? ⟨D, 3, none⟩ = some (.map (some d.M)) := cell_of_row w5 D 3 _ _ _ blk5
      have htlt : t < w3.heap.size := (Array.getElem?_eq_some_iff.1 HT3.out).1
      have ht5 : w5.heap[t]? = some (.cells #[.int .i64 n, .slice (some ⟨w.heap.size, 0, none⟩) 512 512] 70 (0, 0)) :=
        (same5 t htlt (fun e => HTF.out (.inl (.inl e))) (fun e => HTF.out (.inl (.inr (.inr (.inr (.inl e))))))).trans HT3.out
      have k5t : w5.cell? ⟨t, 1, none⟩ = some (.slice (some ⟨w.heap.size, 0, none⟩) 512 512) := cell_of_row w5 t 1 _ _ _ ht5
      have hmp5 : IMap w5.drew d.M d.es := HD3.out.mp.keep (same5 _ HD3.out.mp.lt (Ne.symm HD3.out.neM) HD3.out.neMW)
      obtain ⟨o, es, hup, hmp6, hes⟩ := imap_update (P := Try.prog) Try.underlying63 Try.underlying3 hmp5 n (.slice (some ⟨w.heap.size, 0, none⟩) 512 512)
      have H5 := Lib.hid (And.intro s45 (And.intro s34 (And.intro same5 (And.intro blk5 (And.intro hmp6 hes)))))
      have HO5 := Lib.hid hw5
      clear s45 s34 same5 blk5 hmp6 hes hmp5 ht5 htlt hw5
      go_wp2
      go_region
      obtain ⟨w6, hw6⟩ : ∃ w6, setObjW w5.drew d.M o = w6 := ⟨_, rfl⟩
      rw [hw6]
      have H6 := Lib.hid hw6
      clear hw6 hup
      go_wp2
      go_ret
      obtain ⟨s45, s34, same5, blk5, hmp6, hes⟩ := H5.out
      have hgs : g = w3.heap.size + 1 ∨ d.wv.ownBlock = some g := by
        rcases HA4.out with h | h
        · exact .inr h
        · refine .inl (h.trans ?_)
          exact World.size_alloc _ _
      have hgD : g ≠ D := by
        rintro rfl
        rcases hgs with h | h
        · have := HDl.out; omega
        · exact HNW.out h
      have hgM : g ≠ d.M := by
        rintro rfl
        rcases hgs with h | h
        · have := HD3.out.mp.lt; omega
        · exact HD3.out.neMW h
      have hgW : ∀ k, (Value.slice (some ⟨g, 0, none⟩) (d.ws.length + 1) cap).ownBlock = some k → d.wv.ownBlock = some k ∨ w3.heap.size ≤ k := by
        intro k hk
        simp only [Value.ownBlock, Option.some.injEq] at hk
        subst hk
        rcases hgs with h | h
        · exact .inr (by omega)
        · exact .inl h
      have s6 : w6.heap.size = w4.heap.size := by rw [← H6.out, setObjW_size]; exact s45
      have same6 : ∀ k, k < w3.heap.size → k ≠ D → d.wv.ownBlock ≠ some k → k ≠ d.M → w6.heap[k]? = w3.heap[k]? := fun k h1 h2 h3 h4 => by
        rw [← H6.out, setObjW_other _ _ _ _ h4]
        exact same5 k h1 h2 h3
      have hrow6 : w6.ownsRow 0 70 2 (.slice (some ⟨g, 0, none⟩) (d.ws.length + 1) cap) (d.ws.length + 1) (wcells d.ws ++ [.int .i64 n, .slice (some ⟨w.heap.size, 0, none⟩) 512 512]) := by
        refine ownsRow_keep HO4.out (fun k hk => ?_)
        simp only [Value.ownBlock, Option.some.injEq] at hk
        subst hk
        rw [← H6.out, setObjW_other _ _ _ _ hgM, ← HO5.out]
        exact setCell_heap _ _ _ _ hgD
      rw [H6.out] at hmp6
      have hfin := HD3.out.written (m' := { m.spend with waiting := m.waiting ++ [(n, b)] }) n b (.slice (some ⟨w.heap.size, 0, none⟩) 512 512) (.slice (some ⟨g, 0, none⟩) (d.ws.length + 1) cap) es same6 (by
        rw [← H6.out, setObjW_other _ _ _ _ HD3.out.neM]
        refine blk5.trans ?_
        simp [dcells]) hrow6 hgW hmp6 hes (rdE_chg HB2.out HC3.out) rfl (by rw [spend_waiting]) rfl rfl rfl rfl
      refine DPost.of HR.out hfin rfl ⟨HW.out.certain, HW.out.room, HW.out.room24, HW.out.pages, HW.out.npages, ?_, ?_, HW.out.mark, HW.out.fuse1, HW.out.fuse2, HW.out.torn, HW.out.alive⟩ ((HC2.out.trans HC3.out).trans ⟨?_, ?_, ?_, ?_, ?_, ?_⟩)
      · intro p hp
        rcases List.mem_append.1 hp with hp | hp
        · exact HW.out.waiting p (by rw [spend_waiting]; exact hp)
        · obtain rfl : p = (n, b) := by simpa using hp
          refine ⟨?_, HB.out⟩
          show n < m.spend.base.length
          rw [spend_base]
          exact HN.out
      · show (m.waiting ++ [(n, b)]).length ≤ _
        rw [List.length_append]
        exact HWN.out
      · rw [← H6.out, ← HO5.out]; exact HG4.out.os
      · rw [← H6.out, ← HO5.out]; exact HG4.out.tape
      · rw [← H6.out, ← HO5.out]; exact HG4.out.output
      · omega
      · intro k hk hn
        exact same6 k hk (fun e => hn (.inl e)) (fun e => hn (.inr (.inr (.inr (.inl e))))) (fun e => hn (.inr (.inr (.inl e))))
      · intro k hk
        rcases hk with h | h | h | h | h
        · exact .inl (.inl h)
        · exact .inl (.inr (.inl h))
        · exact .inl (.inr (.inr (.inl h)))
        · rcases hgW k h with h' | h'
          · exact .inl (.inr (.inr (.inr (.inl h'))))
          · refine .inr ⟨h', ?_⟩
            have := (hrow6.lt k h).2
            exact this
        · exact .inl (.inr (.inr (.inr (.inr h))))

theorem d_write (h : DiskAt w D E F m) (ho : m.ops < 4398046511104) (n : Int) (v : Value) (b : Bytes) (hv : RdB F w v b) : Calls Try.prog 12 #[.pointer (some ⟨D, 0, none⟩), .int .i64 n, v] w (DPost w D E F (m.write n b)) := by
  by_cases hno : m.dead = true ∨ ¬ (0 ≤ n ∧ n < m.base.length) ∨ b.length ≠ 512
  · exact d_write_no w D F m h n v b hv hno
  · obtain ⟨k, rfl⟩ : ∃ k : Nat, n = k := ⟨n.toNat, by omega⟩
    refine d_write_ok w D F m h ho k v b hv ?_ (by omega) (by omega)
    cases hd : m.dead with
    | true => exact absurd (.inl hd) hno
    | false => rfl
end
end Mun
