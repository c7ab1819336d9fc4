/- Contracts of a device's operations on the log and the mark. -/
import Derived.Test.YtoblajbffnkkiaaDiskB
set_option maxRecDepth 100000
set_option linter.unusedVariables false
namespace Mun
open Go Go.RowKit
open Go.Proofs

theorem slice_bytes_to {F : Foot} {w : World} {a : Option Addr} {n c : Nat} {l : List UInt8} (h : RdB F w (.slice a n c) l) (hi : Nat) (h2 : hi ≤ l.length) :
    ∃ a1 c1, (∀ W, (Instr.sliceAt 23 (.slice a n c) none (some (.int .i64 hi)) none).run Try.prog W = .ok (.slice a1 hi c1) W) ∧
      RdB F w (.slice a1 hi c1) (l.take hi) := by
  have hp := h.part 0 hi (Nat.zero_le _) h2
  obtain ⟨a', c', hv, hc1, hc2⟩ := h.form
  injection hv with e1 e2 e3
  subst e1 e2 e3
  rw [Nat.sub_zero, List.drop_zero] at hp
  refine ⟨_, _, fun W => ?_, hp⟩
  obtain ⟨i, hi', hz, hs1, hs2⟩ := info_of info_u8
  have he : Try.prog.elem 23 = 5 := by kernel_rfl
  have ht : Try.prog.underlying 23 = some (.slice (Try.prog.elem 23)) := by rw [he]; exact Try.underlying23
  rw [run_sliceAt_slice _ _ _ _ _ _ ht, run_slice_h _ _ _ _ _ ht _ _ (by omega) (by omega), he]
  simp [Go.sizeOf, typeInfo, hi', hs1, sliced]

theorem slice_bytes_from {F : Foot} {w : World} {a : Option Addr} {n c : Nat} {l : List UInt8} (h : RdB F w (.slice a n c) l) (lo : Nat) (h2 : lo ≤ l.length) :
    ∃ a1 c1, (∀ W, (Instr.sliceAt 23 (.slice a n c) (some (.int .i64 lo)) none none).run Try.prog W = .ok (.slice a1 (n - lo) c1) W) ∧
      RdB F w (.slice a1 (n - lo) c1) (l.drop lo) := by
  obtain ⟨a', c', hv, hc1, hc2⟩ := h.form
  have hp := h.part lo l.length h2 (Nat.le_refl _)
  injection hv with e1 e2 e3
  subst e1 e2 e3
  rw [List.take_of_length_le (by rw [List.length_drop]; exact Nat.le_refl _)] at hp
  refine ⟨_, _, fun W => ?_, hp⟩
  obtain ⟨i, hi', hz, hs1, hs2⟩ := info_of info_u8
  have he : Try.prog.elem 23 = 5 := by kernel_rfl
  have ht : Try.prog.underlying 23 = some (.slice (Try.prog.elem 23)) := by rw [he]; exact Try.underlying23
  rw [run_sliceAt_slice _ _ _ _ _ _ ht, run_slice_l _ _ _ _ _ ht _ _ (by omega) (by omega), he]
  simp [Go.sizeOf, typeInfo, hi', hs1, sliced]

section
variable {w w' : World} {D : Nat} {m m' : DM} {d : DV}

theorem dfoot_sub (d : DV) (lv mv tv tl : Value) (n : Nat) (hL : ∀ k, lv.ownBlock = some k → d.lv.ownBlock = some k ∨ n ≤ k) : ∀ k, k < n → dfoot D { d with lv := lv, mv := mv, tv := tv, tl := tl } k → dfoot D d k := by
  intro k hk h
  rcases h with h | h | h | h | h
  · exact .inl h
  · exact .inr (.inl h)
  · exact .inr (.inr (.inl h))
  · exact .inr (.inr (.inr (.inl h)))
  · rcases hL k h with h | h
    · exact .inr (.inr (.inr (.inr h)))
    · omega

theorem dfootE_sub (d : DV) (lv mv tv tl : Value) (n : Nat) (hL : ∀ k, lv.ownBlock = some k → d.lv.ownBlock = some k ∨ n ≤ k) : ∀ k, k < n → dfootE D { d with lv := lv, mv := mv, tv := tv, tl := tl } k → dfootE D d k := by
  intro k hk h
  rcases h with h | h
  · exact .inl (dfoot_sub d lv mv tv tl n hL k hk h)
  · exact .inr h

/-- the log, the mark, the torn write, the tail, the numbers have turned: no page has -/
theorem DRep.upd (h : DRep w D (dfootE D d) m d) (lv mv tv tl : Value)
    (hsame : ∀ k, k < w.heap.size → k ≠ D → d.lv.ownBlock ≠ some k → w'.heap[k]? = w.heap[k]?)
    (hblk : w'.heap[D]? = some (.cells (dcells m' m'.base.length { d with lv := lv, mv := mv, tv := tv, tl := tl }) 95 (0, 0)))
    (hb : m'.base = m.base) (hw : m'.waiting = m.waiting) (hL : ∀ k, lv.ownBlock = some k → d.lv.ownBlock = some k ∨ w.heap.size ≤ k)
    (hlog : OwnB w' 0 5 lv m'.log)
    (hmark : (mv = d.mv ∧ m'.mark = m.mark) ∨ RdB (dfootE D { d with lv := lv, mv := mv, tv := tv, tl := tl }) w' mv m'.mark)
    (htail : (tl = d.tl ∧ m'.tail = m.tail) ∨ RdB (dfootE D { d with lv := lv, mv := mv, tv := tv, tl := tl }) w' tl m'.tail)
    (htorn : (tv = d.tv ∧ m'.torn = m.torn) ∨ TornV (dfootE D { d with lv := lv, mv := mv, tv := tv, tl := tl }) w' tv m'.torn) :
    DRep w' D (dfootE D { d with lv := lv, mv := mv, tv := tv, tl := tl }) m' { d with lv := lv, mv := mv, tv := tv, tl := tl } := by
  have ko : ∀ k, k < w.heap.size → ¬ dfootE D d k → w'.heap[k]? = w.heap[k]? := fun k h1 h2 => hsame k h1 (fun e => h2 (.inl (.inl e))) (fun e => h2 (.inl (.inr (.inr (.inr (.inr e))))))
  have hF := dfootE_sub (D := D) d lv mv tv tl w.heap.size hL
  refine ⟨hblk, (hsame _ (Array.getElem?_eq_some_iff.1 h.pgs).1 (Ne.symm h.neP) h.nePL).trans h.pgs, by rw [hb]; exact h.pgn, fun i hi => ?_,
    ownsRow_keep h.wrow (fun k h' => hsame k (h.wrow.lt k h').2 (fun e => h.neW (e ▸ h')) (fun e => h.neWL k h' e)), by rw [hw]; exact h.wws,
    fun p hp => RdV.keep (h.wrd p hp) ko hF, h.mp.keep (hsame _ h.mp.lt (Ne.symm h.neM) h.neML), h.mpe, h.mpk, hlog, ?_, ?_, ?_,
    fun k hE => lt_of_same (h.elt k hE) (hsame k (h.elt k hE) (fun e => h.eown k hE (.inl e)) (fun e => h.eown k hE (.inr (.inr (.inr (.inr e)))))),
    fun k hE hd => h.eown k hE (dfoot_sub d lv mv tv tl w.heap.size hL k (h.elt k hE) hd)⟩
  · obtain ⟨v, h1, h2⟩ := h.pgv i (by rw [hb] at hi; exact hi)
    refine ⟨v, h1, ?_⟩
    have : m'.base[i] = m.base[i]'(by rw [hb] at hi; exact hi) := by congr 1
    rw [this]
    exact h2.keep ko hF
  · rcases hmark with ⟨h1, h2⟩ | h1
    · show RdB _ w' mv m'.mark
      rw [h1, h2]; subst h1; exact RdV.keep h.mark ko hF
    · exact h1
  · rcases htail with ⟨h1, h2⟩ | h1
    · show RdB _ w' tl m'.tail
      rw [h1, h2]; subst h1; exact RdV.keep h.tail ko hF
    · exact h1
  · rcases htorn with ⟨h1, h2⟩ | h1
    · show TornV _ w' tv m'.torn
      rw [h1, h2]; subst h1; exact h.torn.keep ko hF
    · exact h1

theorem chg_alloc {F : Foot} (w : World) (o : Obj) : Chg F F w (w.alloc o) := Chg.of_below ((Below.refl _ _).alloc (Nat.le_refl _) o) F

/-- a field of the device's block is set to bytes just made -/
theorem same_allocSet (w : World) (o : Obj) (D i : Nat) (v : Value) (k : Nat) (hk : k < w.heap.size) (hD : k ≠ D) : ((w.alloc o).setCell ⟨D, i, none⟩ v).heap[k]? = w.heap[k]? :=
  (setCell_heap _ _ v k hD).trans (alloc_get w o k hk)

theorem blk_allocSet {w : World} (o : Obj) {D i : Nat} {c : Array Value} {e : TypeId} (h : w.heap[D]? = some (.cells c e (0, 0))) (v : Value) :
    ((w.alloc o).setCell ⟨D, i, none⟩ v).heap[D]? = some (.cells (c.setIfInBounds i v) e (0, 0)) :=
  setCell_blk ((alloc_get w o D (Array.getElem?_eq_some_iff.1 h).1).trans h) v

theorem RdB.set {F : Foot} {w : World} {v : Value} {l : List UInt8} (h : RdB F w v l) (a : Addr) (u : Value) (hF : F a.block) : RdB F (w.setCell a u) v l := h.chg (chg_setCell w a u hF)

theorem OwnB.setOther {w : World} {base : Nat} {e : TypeId} {v : Value} {l : List UInt8} (h : OwnB w base e v l) (a : Addr) (u : Value) (hne : v.ownBlock ≠ some a.block) : OwnB (w.setCell a u) base e v l :=
  ownsRow_keep h (fun k hk => setCell_heap w a u k (fun e => hne (e ▸ hk)))

theorem maxLen_ge {n : Nat} (h : n ≤ 140737488355328) : n ≤ maxLen := by unfold maxLen; omega

theorem DRep.setLog (h : DRep w D (dfootE D d) m d) (l : List UInt8) (hl : l.length ≤ 140737488355328) :
    DRep ((w.alloc (bobj l)).setCell ⟨D, 4, none⟩ (.slice (some ⟨w.heap.size, 0, none⟩) l.length l.length)) D (dfootE D { d with lv := .slice (some ⟨w.heap.size, 0, none⟩) l.length l.length }) { m with log := l } { d with lv := .slice (some ⟨w.heap.size, 0, none⟩) l.length l.length } := by
  refine h.upd (.slice (some ⟨w.heap.size, 0, none⟩) l.length l.length) d.mv d.tv d.tl (fun k hk hD _ => same_allocSet w _ D 4 _ k hk hD) ?_ rfl rfl ?_ ?_ (.inl ⟨rfl, rfl⟩) (.inl ⟨rfl, rfl⟩) (.inl ⟨rfl, rfl⟩)
  · rw [blk_allocSet _ h.blk]
    simp [dcells]
  · intro k hk
    simp only [Value.ownBlock, Option.some.injEq] at hk
    exact .inr (by omega)
  · refine OwnB.setOther (bobj_own w l _ 0 rfl (maxLen_ge hl) (Nat.zero_le _)) _ _ ?_
    simp only [Value.ownBlock, ne_eq, Option.some.injEq]
    have := h.D_lt
    omega

theorem chg_setLog (h : DRep w D (dfootE D d) m d) (l : List UInt8) :
    Chg (dfoot D d) (dfoot D { d with lv := .slice (some ⟨w.heap.size, 0, none⟩) l.length l.length }) w ((w.alloc (bobj l)).setCell ⟨D, 4, none⟩ (.slice (some ⟨w.heap.size, 0, none⟩) l.length l.length)) := by
  refine ⟨rfl, rfl, rfl, ?_, fun k hk hn => same_allocSet w _ D 4 _ k hk (fun e => hn (.inl e)), ?_⟩
  · rw [setCell_size, World.size_alloc]; omega
  · intro k hk
    rcases hk with h | h | h | h | h
    · exact .inl (.inl h)
    · exact .inl (.inr (.inl h))
    · exact .inl (.inr (.inr (.inl h)))
    · exact .inl (.inr (.inr (.inr (.inl h))))
    · simp only [Value.ownBlock, Option.some.injEq] at h
      refine .inr ?_
      rw [setCell_size, World.size_alloc]; omega

theorem new_rd (h : DRep w D (dfootE D d) m d) (l : List UInt8) (hl : l.length ≤ 140737488355328) (i : Nat) (u : Value) : RdB (dfootE D d) ((w.alloc (bobj l)).setCell ⟨D, i, none⟩ u) (.slice (some ⟨w.heap.size, 0, none⟩) l.length l.length) l :=
  (bobj_rd w l _ rfl (maxLen_ge hl) (fun hk => absurd (h.foot_lt _ hk) (Nat.lt_irrefl _))).set _ u (.inl (.inl rfl))

theorem DRep.setMark (h : DRep w D (dfootE D d) m d) (l : List UInt8) (hl : l.length ≤ 140737488355328) :
    DRep ((w.alloc (bobj l)).setCell ⟨D, 6, none⟩ (.slice (some ⟨w.heap.size, 0, none⟩) l.length l.length)) D (dfootE D d) { m with mark := l } { d with mv := .slice (some ⟨w.heap.size, 0, none⟩) l.length l.length } := by
  refine h.upd d.lv (.slice (some ⟨w.heap.size, 0, none⟩) l.length l.length) d.tv d.tl (fun k hk hD _ => same_allocSet w _ D 6 _ k hk hD) ?_ rfl rfl (fun k hk => .inl hk) ?_ (.inr ?_) (.inl ⟨rfl, rfl⟩) (.inl ⟨rfl, rfl⟩)
  · rw [blk_allocSet _ h.blk]
    simp [dcells]
  · exact OwnB.setOther (OwnB.below h.log ((Below.refl _ _).alloc (Nat.le_refl _) _)) _ _ h.neL
  · exact new_rd h l hl 6 _

theorem DRep.setTail (h : DRep w D (dfootE D d) m d) (l : List UInt8) (hl : l.length ≤ 140737488355328) :
    DRep ((w.alloc (bobj l)).setCell ⟨D, 11, none⟩ (.slice (some ⟨w.heap.size, 0, none⟩) l.length l.length)) D (dfootE D d) { m with tail := l } { d with tl := .slice (some ⟨w.heap.size, 0, none⟩) l.length l.length } := by
  refine h.upd d.lv d.mv d.tv (.slice (some ⟨w.heap.size, 0, none⟩) l.length l.length) (fun k hk hD _ => same_allocSet w _ D 11 _ k hk hD) ?_ rfl rfl (fun k hk => .inl hk) ?_ (.inl ⟨rfl, rfl⟩) (.inr ?_) (.inl ⟨rfl, rfl⟩)
  · rw [blk_allocSet _ h.blk]
    simp [dcells]
  · exact OwnB.setOther (OwnB.below h.log ((Below.refl _ _).alloc (Nat.le_refl _) _)) _ _ h.neL
  · exact new_rd h l hl 11 _

theorem chg_allocSet (w : World) (o : Obj) (D i : Nat) (v : Value) (d : DV) : Chg (dfoot D d) (dfoot D d) w ((w.alloc o).setCell ⟨D, i, none⟩ v) := (chg_alloc w o).trans (chg_setCell _ _ _ (.inl rfl))

/-- the answer of an operation -/
def DPost (w : World) (D : Nat) (E F : Foot) (r : DM × Int) : Ending → World → Prop := fun e w' => e = .returned (.int .i64 r.2) ∧ ∃ F', DiskAt w' D E F' r.1 ∧ Chg F F' w w'

theorem DPost.same {E F : Foot} {r : DM × Int} {k : Int} (h : DiskAt w D E F m) (hr : r = (m, k)) : DPost w D E F r (.returned (.int .i64 k)) w := by
  subst hr
  exact ⟨rfl, F, h, Chg.refl _ _⟩
theorem DPost.of {d' : DV} {E F F' G : Foot} {r : DM × Int} {k : Int} (hr : r = (m', k)) (h : DRep w' D G m' d') (hF : F' = dfoot D d') (hwf : m'.Wf) (hc : Chg F F' w w') (hG : G = dfootE D d' := by rfl) (hE : d'.E = E := by rfl) : DPost w D E F r (.returned (.int .i64 k)) w' := by
  subst hr
  subst hF
  subst hG
  exact ⟨rfl, _, ⟨d', rfl, hE, h, hwf⟩, hc⟩
end

section
variable (w : World) (D : Nat) (F : Foot) {E : Foot} (m : DM)

theorem spend_base (m : DM) : m.spend.base = m.base := by unfold DM.spend; split <;> rfl
theorem spend_log (m : DM) : m.spend.log = m.log := by unfold DM.spend; split <;> rfl
theorem spend_room (m : DM) : m.spend.room = m.room := by unfold DM.spend; split <;> rfl
theorem spend_tail (m : DM) : m.spend.tail = m.tail := by unfold DM.spend; split <;> rfl
theorem spend_dead {m : DM} (h : m.fuse = 0) : m.spend.dead = true := by unfold DM.spend; rw [if_pos h]
theorem spend_certain (m : DM) : m.spend.certain = m.certain := by unfold DM.spend; split <;> rfl

theorem d_force (h : DiskAt w D E F m) (ho : m.ops < 4398046511104) : Calls Try.prog 41 #[.pointer (some ⟨D, 0, none⟩)] w (DPost w D E F m.force) := by
  have h0 := h
  obtain ⟨d, rfl, rfl, h, hwf⟩ := h
  have c9 := h.cell 9
  simp only [dcells] at c9
  cases hd : m.dead with
  | true =>
    rw [hd] at c9
    have HR : Hid (m.force = (m, 9)) := by show _ = _; simp [DM.force, hd]
    have HO := Lib.hid h0
    clear h0 h hd hwf
    go_enter Try.func41, Try.ntmps41
    go_wp2
    go_ret
    exact DPost.same HO.out HR.out
  | false =>
    rw [hd] at c9
    have hct := d_counts_rep w D m d h hwf ho
    by_cases hf : m.fuse = 0
    · have HR : Hid (m.force = (m.spend, 9)) := by show _ = _; simp [DM.force, hd, hf]
      rw [show decide (m.fuse ≠ 0) = false by simp [hf]] at hct
      clear h0 h hd hf
      have HW := Lib.hid (DM.spend_wf hwf)
      clear hwf
      go_enter Try.func41, Try.ntmps41
      go_wp2_with fail
      refine hct.mono ?_
      rintro e w1 ⟨rfl, hr1, hc1⟩
      have HD := Lib.hid hr1
      have HC := Lib.hid hc1
      clear hr1 hc1 hct
      go_wp2
      go_ret
      exact DPost.of HR.out HD.out rfl HW.out HC.out
    · have HR : Hid (m.force = ({ m.spend with certain := m.log.length }, 0)) := by show _ = _; simp [DM.force, hd, hf]
      rw [show decide (m.fuse ≠ 0) = true by simp [hf]] at hct
      have HW := Lib.hid (DM.spend_wf hwf)
      clear h0 h hd hf hwf
      go_enter Try.func41, Try.ntmps41
      go_wp2_with fail
      refine hct.mono ?_
      rintro e w1 ⟨rfl, hr1, hc1⟩
      have HD := Lib.hid hr1
      have HC := Lib.hid hc1
      have k4 := hr1.cell 4
      have k5 := hr1.cell 5
      have f5 := hr1.frozen 5
      simp only [dcells] at k4 k5
      have hrd : RdB NoF w1 d.lv m.log := by
        have := hr1.log.rd (F := NoF) (fun _ _ => noF _)
        rwa [spend_log] at this
      obtain ⟨a, n, c, hlv, HN, hlc, hcm⟩ := hrd.formN
      rw [hlv] at k4
      clear hr1 hc1 hct hrd
      go_wp2
      go_ret
      rw [HN.out]
      refine DPost.of HR.out (HD.out.set1 5 _ _ ?_ rfl rfl rfl rfl rfl rfl) rfl ⟨by rw [spend_log]; exact Nat.le_refl _, HW.out.room, HW.out.room24, HW.out.pages, HW.out.npages, HW.out.waiting, HW.out.nwait, HW.out.mark, HW.out.fuse1, HW.out.fuse2, HW.out.torn, HW.out.alive⟩ (HC.out.trans (chg_setCell _ _ _ (.inl rfl)))
      simp [dcells]

theorem d_mark (h : DiskAt w D E F m) (ho : m.ops < 4398046511104) (v : Value) (b : Bytes) (hv : RdB F w v b) : Calls Try.prog 59 #[.pointer (some ⟨D, 0, none⟩), v] w (DPost w D E F (m.setMark b)) := by
  have h0 := h
  obtain ⟨d, rfl, rfl, h, hwf⟩ := h
  have c9 := h.cell 9
  simp only [dcells] at c9
  obtain ⟨a, n, c, rfl, HN, hlc, hcm⟩ := hv.formN
  cases hd : m.dead with
  | true =>
    rw [hd] at c9
    have HR : Hid (m.setMark b = (m, 9)) := by show _ = _; simp [DM.setMark, hd]
    have HO := Lib.hid h0
    clear h0 h hd hwf hv
    go_enter Try.func59, Try.ntmps59
    go_wp2
    go_ret
    exact DPost.same HO.out HR.out
  | false =>
    rw [hd] at c9
    by_cases hlen : 64 < n
    · have HR : Hid (m.setMark b = (m, 1)) := by show _ = _; rw [HN.out] at hlen; simp [DM.setMark, hd, hlen]
      have HO := Lib.hid h0
      clear h0 h hd hwf hv
      go_enter Try.func59, Try.ntmps59
      go_wp2
      go_ret
      exact DPost.same HO.out HR.out
    · have hct := d_counts_rep w D m d h hwf ho
      by_cases hf : m.fuse = 0
      · have HR : Hid (m.setMark b = (m.spend, 9)) := by show _ = _; rw [HN.out] at hlen; simp [DM.setMark, hd, hf, hlen]
        rw [show decide (m.fuse ≠ 0) = false by simp [hf]] at hct
        have HW := Lib.hid (DM.spend_wf hwf)
        clear h0 h hd hf hwf hv
        go_enter Try.func59, Try.ntmps59
        go_wp2_with fail
        refine hct.mono ?_
        rintro e w1 ⟨rfl, hr1, hc1⟩
        have HD := Lib.hid hr1
        have HC := Lib.hid hc1
        clear hr1 hc1 hct
        go_wp2
        go_ret
        exact DPost.of HR.out HD.out rfl HW.out HC.out
      · have HR : Hid (m.setMark b = ({ m.spend with mark := b }, 0)) := by show _ = _; rw [HN.out] at hlen; simp [DM.setMark, hd, hf, hlen]
        have HB : Hid (b.length ≤ 64) := by show _ ≤ _; rw [← HN.out]; omega
        rw [show decide (m.fuse ≠ 0) = true by simp [hf]] at hct
        have HW := Lib.hid (DM.spend_wf hwf)
        have HV := Lib.hid hv
        clear h0 h hd hf hwf hv
        go_enter Try.func59, Try.ntmps59
        go_wp2_with fail
        refine hct.mono ?_
        rintro e w1 ⟨rfl, hr1, hc1⟩
        have HD := Lib.hid hr1
        have HC := Lib.hid hc1
        clear hr1 hc1 hct
        go_wp2_with fail
        refine (clone6 w1 _ b (HV.out.chg HC.out) (by have := HB.out; omega)).mono ?_
        rintro e w2 ⟨rfl, hw2⟩
        have hr2 : DRep w2 D (dfootE D d) m.spend d := by rw [← hw2]; exact HD.out.alloc _
        have k6 := hr2.cell 6
        have f6 := hr2.frozen 6
        simp only [dcells] at k6
        have HW2 := Lib.hid hw2
        clear hr2 hw2
        go_wp2
        go_ret
        rw [← HW2.out]
        exact DPost.of HR.out (HD.out.setMark b (by have := HB.out; omega)) rfl ⟨HW.out.certain, HW.out.room, HW.out.room24, HW.out.pages, HW.out.npages, HW.out.waiting, HW.out.nwait, HB.out, HW.out.fuse1, HW.out.fuse2, HW.out.torn, HW.out.alive⟩ (HC.out.trans (chg_allocSet _ _ _ _ _ _))

theorem d_trim (h : DiskAt w D E F m) (ho : m.ops < 4398046511104) (q : Int) : Calls Try.prog 47 #[.pointer (some ⟨D, 0, none⟩), .int .i64 q] w (DPost w D E F (m.trim q)) := by
  have h0 := h
  obtain ⟨d, rfl, rfl, h, hwf⟩ := h
  have c9 := h.cell 9
  have c4 := h.cell 4
  simp only [dcells] at c9 c4
  have hrd : RdB NoF w d.lv m.log := h.log.rd (fun _ _ => noF _)
  have hlm : m.log.length ≤ 140737488355328 := by have := hwf.room; have := hwf.room24; omega
  obtain ⟨a, n, c, hlv, HN, hlc, hcm⟩ := hrd.formN
  rw [hlv] at c4
  have HLV := Lib.hid hlv
  cases hd : m.dead with
  | true =>
    rw [hd] at c9
    have HR : Hid (m.trim q = (m, 9)) := by show _ = _; simp [DM.trim, hd]
    have HO := Lib.hid h0
    clear h0 h hd hwf hrd hlm hlv
    go_enter Try.func47, Try.ntmps47
    go_wp2
    go_ret
    exact DPost.same HO.out HR.out
  | false =>
    rw [hd] at c9
    by_cases hq0 : q < 0
    · have HR : Hid (m.trim q = (m, 1)) := by show _ = _; simp [DM.trim, hd, hq0]
      have HO := Lib.hid h0
      clear h0 h hd hwf hrd hlm hlv
      go_enter Try.func47, Try.ntmps47
      go_wp2
      go_ret
      exact DPost.same HO.out HR.out
    · by_cases hqn : q > n
      · have HR : Hid (m.trim q = (m, 1)) := by show _ = _; rw [HN.out] at hqn; simp [DM.trim, hd]; omega
        have HO := Lib.hid h0
        clear h0 h hd hwf hrd hlm hlv
        go_enter Try.func47, Try.ntmps47
        go_wp2
        go_ret
        exact DPost.same HO.out HR.out
      · have hct := d_counts_rep w D m d h hwf ho
        have hnot : ¬ (q < 0 ∨ (m.log.length : Int) < q) := by rw [HN.out] at hqn; omega
        by_cases hf : m.fuse = 0
        · have HR : Hid (m.trim q = (m.spend, 9)) := by show _ = _; unfold DM.trim; rw [hd, if_neg (by simp), if_neg hnot, if_pos hf]
          rw [show decide (m.fuse ≠ 0) = false by simp [hf]] at hct
          have HW := Lib.hid (DM.spend_wf hwf)
          clear h0 h hd hf hwf hrd hlm hlv hnot
          go_enter Try.func47, Try.ntmps47
          go_wp2_with fail
          refine hct.mono ?_
          rintro e w1 ⟨rfl, hr1, hc1⟩
          have HD := Lib.hid hr1
          have HC := Lib.hid hc1
          clear hr1 hc1 hct
          go_wp2
          go_ret
          exact DPost.of HR.out HD.out rfl HW.out HC.out
        · have HR : Hid (m.trim q = ({ m.spend with log := m.log.take q.toNat, certain := q.toNat }, 0)) := by show _ = _; unfold DM.trim; rw [hd, if_neg (by simp), if_neg hnot, if_neg hf]
          rw [show decide (m.fuse ≠ 0) = true by simp [hf]] at hct
          have HW := Lib.hid (DM.spend_wf hwf)
          obtain ⟨p, rfl⟩ : ∃ p : Nat, q = p := ⟨q.toNat, by omega⟩
          have hpn : p ≤ n := by omega
          have HP : Hid (p ≤ m.log.length) := by show _ ≤ _; rw [← HN.out]; exact hpn
          have HL := Lib.hid hlm
          rw [Int.toNat_natCast] at HR
          obtain ⟨L, hLg⟩ : ∃ L, m.log.take p = L := ⟨_, rfl⟩
          rw [hLg] at HR
          have HLP : Hid (L.length = p) := by show _ = _; rw [← hLg, List.length_take]; exact Nat.min_eq_left HP.out
          have HG := Lib.hid hLg
          have HLL : Hid (L.length ≤ 140737488355328) := by show _ ≤ _; rw [HLP.out]; exact Nat.le_trans HP.out hlm
          clear h0 h hd hf hwf hrd hlm hlv hnot hqn hq0 hLg
          go_enter Try.func47, Try.ntmps47
          go_wp2_with fail
          refine hct.mono ?_
          rintro e w1 ⟨rfl, hr1, hc1⟩
          have HD := Lib.hid hr1
          have HC := Lib.hid hc1
          have k4 := hr1.cell 4
          have k5 := hr1.cell 5
          simp only [dcells] at k4 k5
          rw [HLV.out] at k4
          have hrd1 : RdB NoF w1 d.lv m.log := by
            have := hr1.log.rd (F := NoF) (fun _ _ => noF _)
            rwa [spend_log] at this
          rw [HLV.out] at hrd1
          obtain ⟨a1, c1, hsl, hrd2⟩ := slice_bytes_to hrd1 p HP.out
          rw [HG.out] at hrd2
          have HV := Lib.hid hrd2
          clear hr1 hc1 hct hrd1 hrd2
          go_wp2_with fail
          refine (clone6 w1 _ L HV.out HLL.out).mono ?_
          rintro e w2 ⟨rfl, hw2⟩
          have hr2 : DRep w2 D (dfootE D d) m.spend d := by rw [← hw2]; exact HD.out.alloc _
          have q4 := hr2.cell 4
          have q5 := hr2.cell 5
          have g4 := hr2.frozen 4
          have g5 := hr2.frozen 5
          simp only [dcells] at q4 q5
          have HW2 := Lib.hid hw2
          clear hr2 hw2
          go_wp2
          go_ret
          rw [← HW2.out]
          have hA := HD.out.setLog L HLL.out
          refine DPost.of HR.out (hA.set1 5 _ _ ?_ rfl rfl rfl rfl rfl rfl) rfl ⟨?_, ?_, HW.out.room24, HW.out.pages, HW.out.npages, HW.out.waiting, HW.out.nwait, HW.out.mark, HW.out.fuse1, HW.out.fuse2, HW.out.torn, HW.out.alive⟩ ((HC.out.trans (chg_setLog HD.out _)).trans (chg_setCell _ _ _ (by exact .inl rfl)))
          · rw [HLP.out]; simp [dcells]
          · show p ≤ L.length
            rw [HLP.out]
            exact Nat.le_refl _
          · show L.length + m.spend.tail.length ≤ m.spend.room
            have := HW.out.room
            have hp := HP.out
            rw [spend_log] at this
            rw [HLP.out]
            omega

theorem d_cut (h : DiskAt w D E F m) (ho : m.ops < 4398046511104) (q : Int) (v : Value) (b : Bytes) (hv : RdB F w v b) : Calls Try.prog 53 #[.pointer (some ⟨D, 0, none⟩), .int .i64 q, v] w (DPost w D E F (m.cut q b)) := by
  have h0 := h
  obtain ⟨d, rfl, rfl, h, hwf⟩ := h
  have c9 := h.cell 9
  have c5 := h.cell 5
  simp only [dcells] at c9 c5
  have hlm : m.log.length ≤ 140737488355328 := by have := hwf.room; have := hwf.room24; omega
  have hce := hwf.certain
  obtain ⟨a0, n0, c0, rfl, HN0, hlc0, hcm0⟩ := hv.formN
  obtain ⟨ce, hce'⟩ : ∃ ce, m.certain = ce := ⟨_, rfl⟩
  have HCE := Lib.hid hce'
  rw [hce'] at c5 hce
  clear hce'
  cases hd : m.dead with
  | true =>
    rw [hd] at c9
    have HR : Hid (m.cut q b = (m, 9)) := by show _ = _; simp [DM.cut, hd]
    have HO := Lib.hid h0
    clear h0 h hd hwf hv hlm hce
    go_enter Try.func53, Try.ntmps53
    go_wp2
    go_ret
    exact DPost.same HO.out HR.out
  | false =>
    rw [hd] at c9
    by_cases hbad : q < 0 ∨ ce < q ∨ 64 < n0
    · have HR : Hid (m.cut q b = (m, 1)) := by show _ = _; rw [HN0.out, ← HCE.out] at hbad; unfold DM.cut; rw [hd, if_neg (by simp), if_pos hbad]
      have HO := Lib.hid h0
      clear h0 h hd hwf hv hlm hce
      rcases hbad with hb | hb | hb
      · go_enter Try.func53, Try.ntmps53
        go_wp2
        go_ret
        exact DPost.same HO.out HR.out
      · by_cases hq : q < 0
        · omega
        · go_enter Try.func53, Try.ntmps53
          go_wp2
          go_ret
          exact DPost.same HO.out HR.out
      · by_cases hq : q < 0
        · go_enter Try.func53, Try.ntmps53
          go_wp2
          go_ret
          exact DPost.same HO.out HR.out
        · by_cases hq2 : ce < q
          · go_enter Try.func53, Try.ntmps53
            go_wp2
            go_ret
            exact DPost.same HO.out HR.out
          · go_enter Try.func53, Try.ntmps53
            go_wp2
            go_ret
            exact DPost.same HO.out HR.out
    · have hnot : ¬ (q < 0 ∨ (m.certain : Int) < q ∨ 64 < b.length) := by rw [HN0.out, ← HCE.out] at hbad; exact hbad
      have b1 : ¬ q < 0 := by omega
      have b2 : ¬ (ce : Int) < q := by omega
      have b3 : ¬ 64 < n0 := by omega
      clear hbad
      have hct := d_counts_rep w D m d h hwf ho
      by_cases hf : m.fuse = 0
      · have HR : Hid (m.cut q b = (m.spend, 9)) := by show _ = _; unfold DM.cut; rw [hd, if_neg (by simp), if_neg hnot, if_pos hf]
        rw [show decide (m.fuse ≠ 0) = false by simp [hf]] at hct
        have HW := Lib.hid (DM.spend_wf hwf)
        clear h0 h hd hf hwf hlm hnot hv hce
        go_enter Try.func53, Try.ntmps53
        go_wp2_with fail
        refine hct.mono ?_
        rintro e w1 ⟨rfl, hr1, hc1⟩
        have HD := Lib.hid hr1
        have HC := Lib.hid hc1
        clear hr1 hc1 hct
        go_wp2
        go_ret
        exact DPost.of HR.out HD.out rfl HW.out HC.out
      · have HR : Hid (m.cut q b = ({ m.spend with log := m.log.drop q.toNat, certain := m.certain - q.toNat, mark := b }, 0)) := by show _ = _; unfold DM.cut; rw [hd, if_neg (by simp), if_neg hnot, if_neg hf]
        rw [show decide (m.fuse ≠ 0) = true by simp [hf]] at hct
        have HW := Lib.hid (DM.spend_wf hwf)
        obtain ⟨p, rfl⟩ : ∃ p : Nat, q = p := ⟨q.toNat, by omega⟩
        have HP : Hid (p ≤ m.log.length) := by show _ ≤ _; omega
        have HPC : Hid (p ≤ m.certain) := by show _ ≤ _; rw [HCE.out]; omega
        have HL := Lib.hid hlm
        have HV0 := Lib.hid hv
        have HB : Hid (b.length ≤ 64) := by show _ ≤ _; rw [← HN0.out]; omega
        rw [Int.toNat_natCast] at HR
        have hpc : p ≤ ce := by omega
        have hc24 : (ce : Int) ≤ 16777216 := by have := hwf.room; have := hwf.room24; omega
        obtain ⟨L, hLg⟩ : ∃ L, m.log.drop p = L := ⟨_, rfl⟩
        rw [hLg] at HR
        have HLP : Hid (L.length = m.log.length - p) := by show _ = _; rw [← hLg, List.length_drop]
        have HG := Lib.hid hLg
        have HLL : Hid (L.length ≤ 140737488355328) := by show _ ≤ _; rw [HLP.out]; omega
        clear h0 h hd hf hwf hlm hnot hv hce hLg
        go_enter Try.func53, Try.ntmps53
        go_wp2_with fail
        refine hct.mono ?_
        rintro e w1 ⟨rfl, hr1, hc1⟩
        have HD := Lib.hid hr1
        have HC := Lib.hid hc1
        have k4 := hr1.cell 4
        simp only [dcells] at k4
        have hrd1 : RdB (dfootE D d) w1 d.lv m.log ∨ True := .inr trivial
        have hrd1 : RdB NoF w1 d.lv m.log := by
          have := hr1.log.rd (F := NoF) (fun _ _ => noF _)
          rwa [spend_log] at this
        obtain ⟨a, n, c, hlv, HN, hlc, hcm⟩ := hrd1.formN
        rw [hlv] at k4 hrd1
        have hpn : p ≤ n := by rw [HN.out]; exact HP.out
        obtain ⟨a1, c1, hsl, hrd2⟩ := slice_bytes_from hrd1 p HP.out
        rw [HG.out] at hrd2
        have HV := Lib.hid hrd2
        have HLV := Lib.hid hlv
        clear hr1 hc1 hct hrd1 hrd2 hlv
        go_wp2_with fail
        refine (clone6 w1 _ L HV.out HLL.out).mono ?_
        rintro e w2 ⟨rfl, hw2⟩
        have hr2 : DRep w2 D (dfootE D d) m.spend d := by rw [← hw2]; exact HD.out.alloc _
        have q4 := hr2.cell 4
        have q5 := hr2.cell 5
        have g4 := hr2.frozen 4
        have g5 := hr2.frozen 5
        simp only [dcells, spend_certain] at q4 q5
        rw [HCE.out] at q5
        have HW2 := Lib.hid hw2
        clear hr2 hw2
        go_wp2_with fail
        refine (clone6 _ _ b (RdB.set (RdB.set (F := dfoot D d) ?_ _ _ (.inl rfl)) _ _ (.inl rfl)) (by have := HB.out; omega)).mono ?_
        · rw [← HW2.out]
          exact (HV0.out.chg HC.out).alloc _
        rintro e w3 ⟨rfl, hw3⟩
        have hA := HD.out.setLog L HLL.out
        have hB := hA.set1 5 (.int .i64 (ce - p)) { m.spend with log := L, certain := m.certain - p } (by
          show _ = dcells _ _ _
          simp [dcells, HCE.out, Int.ofNat_sub hpc]) rfl rfl rfl rfl rfl rfl
        have hC := hB.setMark b (by have := HB.out; omega)
        have r3 := hB.alloc (bobj b)
        rw [HW2.out, hw3] at r3
        have g6 := r3.frozen 6
        have q6 := r3.cell 6
        simp only [dcells] at q6
        rw [HW2.out, hw3] at hC
        have HC3 := Lib.hid hC
        have hwc := ((HC.out.trans (chg_setLog HD.out L)).trans (chg_setCell _ ⟨D, 5, none⟩ (.int .i64 (ce - p)) (.inl rfl))).trans (chg_alloc _ (bobj b))
        rw [HW2.out, hw3] at hwc
        have HCC := Lib.hid (hwc.trans (chg_setCell w3 ⟨D, 6, none⟩ (.slice (some ⟨w2.heap.size, 0, none⟩) b.length b.length) (.inl rfl)))
        clear hwc hC r3 hB hA hw3
        simp only [World.size_setCell] at HC3 ⊢
        go_wp2
        go_ret
        refine DPost.of HR.out HC3.out rfl ⟨?_, ?_, HW.out.room24, HW.out.pages, HW.out.npages, HW.out.waiting, HW.out.nwait, HB.out, HW.out.fuse1, HW.out.fuse2, HW.out.torn, HW.out.alive⟩ HCC.out
        · show m.certain - p ≤ L.length
          have := HW.out.certain
          rw [spend_certain, spend_log] at this
          rw [HLP.out]
          omega
        · show L.length + m.spend.tail.length ≤ m.spend.room
          have := HW.out.room
          rw [spend_log] at this
          rw [HLP.out]
          omega
end
end Mun
