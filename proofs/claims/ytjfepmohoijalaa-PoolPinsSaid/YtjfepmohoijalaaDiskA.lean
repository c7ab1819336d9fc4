/- Contracts of a device's methods: those that read, and those that turn its numbers alone. -/
import Derived.Test.YtjfepmohoijalaaDiskR
set_option maxRecDepth 100000
set_option linter.unusedVariables false
namespace Mun
open Go Go.RowKit
open Go.Proofs

theorem clone6 {F : Foot} (w : World) (v : Value) (l : List UInt8) (hv : RdB F w v l) (hl : l.length ≤ 140737488355328) :
    Calls Try.prog 40 #[v] w fun e w' => e = .returned (.slice (some ⟨w.heap.size, 0, none⟩) l.length l.length) ∧ w.alloc (bobj l) = w' := by
  obtain ⟨a, n, c, rfl, HN, hlc, hcm⟩ := hv.formN
  have hmk := make_bytes0 l.length hl
  have hcp := copied_bytes (ty := 31) hv hl
  rw [← HN.out] at hmk hcp ⊢
  have HR := Lib.hid hcp
  clear hcp hv
  go_enter Try.func40, Try.ntmps40
  go_wp2_with (at_builtin; refine wpList_append_eq rfl rfl HR.out rfl rfl ?_; clear HR)
  go_ret
  exact ⟨rfl, rfl⟩

section
variable (w : World) (D : Nat) (F : Foot) {E : Foot} (m : DM)

theorem d_pages (h : DiskAt w D E F m) : Calls Try.prog 17 #[.pointer (some ⟨D, 0, none⟩)] w fun e w' => e = .returned (.int .i64 m.base.length) ∧ w = w' := by
  obtain ⟨d, rfl, rfl, h, hwf⟩ := h
  have c1 := h.cell 1
  simp only [dcells] at c1
  clear h
  go_enter Try.func17, Try.ntmps17
  go_wp2
  go_ret
  exact ⟨rfl, rfl⟩

theorem d_certain (h : DiskAt w D E F m) : Calls Try.prog 32 #[.pointer (some ⟨D, 0, none⟩)] w fun e w' => e = .returned (.int .i64 m.certain) ∧ w = w' := by
  obtain ⟨d, rfl, rfl, h, hwf⟩ := h
  have c1 := h.cell 5
  simp only [dcells] at c1
  clear h
  go_enter Try.func32, Try.ntmps32
  go_wp2
  go_ret
  exact ⟨rfl, rfl⟩

/-- is n a page? -/
def hasB (k : Nat) (n : Int) : Bool := decide (0 ≤ n ∧ n < k)

theorem d_has (h : DiskAt w D E F m) (n : Int) : Calls Try.prog 39 #[.pointer (some ⟨D, 0, none⟩), .int .i64 n] w fun e w' => e = .returned (.bool (hasB m.base.length n)) ∧ w = w' := by
  obtain ⟨d, rfl, rfl, h, hwf⟩ := h
  have c1 := h.cell 1
  simp only [dcells] at c1
  clear h
  generalize m.base.length = k at c1
  by_cases h0 : 0 ≤ n
  · by_cases h1 : n < k
    · have H : Hid (hasB k n = true) := by show _ = _; exact decide_eq_true ⟨h0, h1⟩
      go_enter Try.func39, Try.ntmps39
      go_wp2
      go_ret
      exact ⟨congrArg (fun b => Ending.returned (.bool b)) H.out.symm, rfl⟩
    · have H : Hid (hasB k n = false) := by show _ = _; exact decide_eq_false (fun h => h1 h.2)
      go_enter Try.func39, Try.ntmps39
      go_wp2
      go_ret
      exact ⟨congrArg (fun b => Ending.returned (.bool b)) H.out.symm, rfl⟩
  · have H : Hid (hasB k n = false) := by show _ = _; exact decide_eq_false (fun h => h0 h.1)
    go_enter Try.func39, Try.ntmps39
    go_wp2
    go_ret
    exact ⟨congrArg (fun b => Ending.returned (.bool b)) H.out.symm, rfl⟩

theorem setCell_heap (w : World) (a : Addr) (v : Value) (k : Nat) (h : k ≠ a.block) : (w.setCell a v).heap[k]? = w.heap[k]? := Below.heap_setCell w a v k h

theorem setCell_blk {w : World} {D i : Nat} {c : Array Value} {e : TypeId} (h : w.heap[D]? = some (.cells c e (0, 0))) (v : Value) : (w.setCell ⟨D, i, none⟩ v).heap[D]? = some (.cells (c.setIfInBounds i v) e (0, 0)) := by
  simp [World.setCell, Array.getElem?_modify, h]

theorem setCell_size (w : World) (a : Addr) (v : Value) : (w.setCell a v).heap.size = w.heap.size := by simp [World.setCell]

theorem chg_setCell {F : Foot} (w : World) (a : Addr) (v : Value) (hF : F a.block) : Chg F F w (w.setCell a v) :=
  ⟨rfl, rfl, rfl, by rw [setCell_size]; exact Nat.le_refl _, fun k _ hn => setCell_heap w a v k (fun e => hn (e ▸ hF)), fun _ h => .inl h⟩

theorem DRep.set1 {w : World} {D : Nat} {m : DM} {d : DV} (h : DRep w D (dfootE D d) m d) (i : Nat) (v : Value) (m' : DM) (hc : (dcells m m.base.length d).setIfInBounds i v = dcells m' m.base.length d)
    (hb : m'.base = m.base) (hw : m'.waiting = m.waiting) (hl : m'.log = m.log) (hm : m'.mark = m.mark) (ht : m'.torn = m.torn) (htl : m'.tail = m.tail) : DRep (w.setCell ⟨D, i, none⟩ v) D (dfootE D d) m' d :=
  h.scal (fun k _ hk => setCell_heap w _ v k hk) (by rw [setCell_blk h.blk, hc, hb]) hb hw hl hm ht htl

theorem DRep.set2 {w : World} {D : Nat} {m : DM} {d : DV} (h : DRep w D (dfootE D d) m d) (i j : Nat) (v u : Value) (m' : DM) (hc : ((dcells m m.base.length d).setIfInBounds i v).setIfInBounds j u = dcells m' m.base.length d)
    (hb : m'.base = m.base) (hw : m'.waiting = m.waiting) (hl : m'.log = m.log) (hm : m'.mark = m.mark) (ht : m'.torn = m.torn) (htl : m'.tail = m.tail) : DRep ((w.setCell ⟨D, i, none⟩ v).setCell ⟨D, j, none⟩ u) D (dfootE D d) m' d :=
  h.scal (fun k _ hk => (setCell_heap _ _ u k hk).trans (setCell_heap w _ v k hk)) (by rw [setCell_blk (setCell_blk h.blk v), hc, hb]) hb hw hl hm ht htl

theorem fuse_cases (m : DM) (h : m.Wf) : m.fuse = 0 ∨ 0 < m.fuse ∨ m.fuse < 0 := by omega

/-- counts: with the device's parts at hand -/
theorem d_counts_rep (d : DV) (h : DRep w D (dfootE D d) m d) (hwf : m.Wf) (ho : m.ops < 4398046511104) : Calls Try.prog 49 #[.pointer (some ⟨D, 0, none⟩)] w fun e w' => e = .returned (.bool (decide (m.fuse ≠ 0))) ∧ DRep w' D (dfootE D d) m.spend d ∧ Chg (dfoot D d) (dfoot D d) w w' := by
  have c7 := h.cell 7
  have c8 := h.cell 8
  have c9 := h.cell 9
  have f7 := h.frozen 7
  have f8 := h.frozen 8
  have f9 := h.frozen 9
  simp only [dcells] at c7 c8 c9
  have HD := Lib.hid h
  have hf1 := hwf.fuse1
  have hf2 := hwf.fuse2
  have ho' : (m.ops : Int) < 4398046511104 := by omega
  clear h
  obtain ⟨f, hf⟩ : ∃ f, m.fuse = f := ⟨_, rfl⟩
  have HF := Lib.hid hf
  rw [hf] at c7 hf1 hf2 ⊢
  obtain ⟨o, ho2⟩ : ∃ o, m.ops = o := ⟨_, rfl⟩
  have HO := Lib.hid ho2
  rw [ho2] at c8 ho'
  clear hf ho2 ho
  have HF2 := Lib.hid hf2
  rcases (by omega : f = 0 ∨ 0 < f ∨ f < 0) with h0 | h0 | h0
  · subst h0
    have HS : Hid (m.spend = { m with dead := true }) := by show _ = _; unfold DM.spend; rw [if_pos HF.out]
    go_enter Try.func49, Try.ntmps49
    go_wp2
    go_ret
    refine ⟨rfl, ?_, chg_setCell _ _ _ (.inl rfl)⟩
    rw [HS.out]
    refine HD.out.set1 9 _ _ ?_ rfl rfl rfl rfl rfl rfl
    simp [dcells]
  · have hne : (f == 0) = false := by simp; omega
    have HS : Hid (m.spend = { m with fuse := f - 1, ops := o + 1 }) := by
      show _ = _
      unfold DM.spend
      rw [if_neg (by rw [HF.out]; omega), if_pos (by rw [HF.out]; exact h0), HF.out, HO.out]
    go_enter Try.func49, Try.ntmps49
    go_wp2
    go_ret
    refine ⟨?_, ?_, (chg_setCell _ _ _ (.inl rfl)).trans (chg_setCell _ _ _ (.inl rfl))⟩
    · have : ¬ f = 0 := by omega
      simp [this]
    · rw [HS.out]
      refine HD.out.set2 7 8 _ _ _ ?_ rfl rfl rfl rfl rfl rfl
      simp [dcells]
  · have hf3 : f = -1 := by omega
    subst hf3
    clear hf1 hf2 h0
    have HS : Hid (m.spend = { m with fuse := -1, ops := o + 1 }) := by
      show _ = _
      unfold DM.spend
      rw [if_neg (by rw [HF.out]; omega), if_neg (by rw [HF.out]; omega), HF.out, HO.out]
    go_enter Try.func49, Try.ntmps49
    go_wp2
    go_ret
    refine ⟨rfl, ?_, chg_setCell _ _ _ (.inl rfl)⟩
    rw [HS.out]
    refine HD.out.set1 8 _ _ ?_ rfl rfl rfl rfl rfl rfl
    simp [dcells, HF.out]
end
end Mun
