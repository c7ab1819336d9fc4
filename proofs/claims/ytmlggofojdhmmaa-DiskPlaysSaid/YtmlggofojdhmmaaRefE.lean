/- Contract of munimentref6.settle. -/
import Derived.Test.YtmlggofojdhmmaaRefC
import Derived.Test.YtmlggofojdhmmaaRowL
set_option maxRecDepth 100000
set_option linter.unusedVariables false
set_option linter.unusedSimpArgs false
namespace Mun
open Go Go.RowKit
open Go.Proofs

abbrev Z13 : Array Value := #[.slice none 0 0, .slice none 0 0, .int .i64 0, .slice none 0 0, .int .i64 0, .slice none 0 0, .int .i64 0, .int .i64 0, .bool false, .int .i64 0, .slice none 0 0, .slice none 0 0, .bool false]
theorem info13 : (Try.prog.info? 52).map (·.size) = some 13 := by kernel_rfl
def BoxAt (w : World) (b : Nat) (cs : Array Value) : Prop := w.heap[b]? = some (.cells cs 52 (0, 0))
theorem BoxAt.below {w w' : World} {b B : Nat} {cs : Array Value} (h : BoxAt w b cs) (hb : Below B w w') (hB : b < B) : BoxAt w' b cs := (hb.block b hB).trans h
theorem BoxAt.lt {w : World} {b : Nat} {cs : Array Value} (h : BoxAt w b cs) : b < w.heap.size := (Array.getElem?_eq_some_iff.1 h).1
theorem BoxAt.cell {w : World} {b : Nat} {cs : Array Value} (h : BoxAt w b cs) (i : Nat) {v : Value} (hv : cs[i]? = some v) : w.cell? ⟨b, i, none⟩ = some v := (cell_of_row w b i _ _ _ h).trans hv
theorem BoxAt.frozen {w : World} {b : Nat} {cs : Array Value} (h : BoxAt w b cs) (i : Nat) : w.frozen? ⟨b, i, none⟩ = false := by unfold BoxAt at h; simp [World.frozen?, h]
theorem BoxAt.set {w : World} {b : Nat} {cs : Array Value} (h : BoxAt w b cs) (i : Nat) (v : Value) : BoxAt (w.setCell ⟨b, i, none⟩ v) b (cs.setIfInBounds i v) := setCell_blk h v
theorem BoxAt.setNe {w : World} {b b' : Nat} {cs : Array Value} (h : BoxAt w b cs) (i : Nat) (v : Value) (hne : b ≠ b') : BoxAt (w.setCell ⟨b', i, none⟩ v) b cs := (setCell_heap w ⟨b', i, none⟩ v b hne).trans h
theorem BoxAt.new (w : World) (cs : Array Value) : BoxAt (w.alloc (.cells cs 52)) w.heap.size cs := heap_alloc_new w _

theorem BoxAt.row {w : World} {b : Nat} {old : Array Value} (h : BoxAt w b old) (cs : Array Value) : BoxAt (w.setRow b cs) b cs := setRow_heap w b old cs _ _ h
theorem setRow_other (w : World) (b : Nat) (cs : Array Value) (k : Nat) (hk : k ≠ b) : (w.setRow b cs).heap[k]? = w.heap[k]? := by
  have h : b ≠ k := fun e => hk e.symm
  simp [World.setRow, Array.getElem?_modify, h]
theorem ListsAt.keep {F F' : Foot} {w w' : World} {v : Value} {cs : List (List UInt8)} {vs : List Value} (h : ListsAt F w v cs vs) (hk : ∀ k, k < w.heap.size → ¬ F k → w'.heap[k]? = w.heap[k]?) (hF : ∀ k, k < w.heap.size → F' k → F k) : ListsAt F' w' v cs vs :=
  ⟨h.row.keep hk hF, fun i hi => by obtain ⟨u, h1, h2⟩ := h.rd i hi; exact ⟨u, h1, RdV.keep h2 hk hF⟩⟩
theorem settled_wf {m : DM} (h : m.Wf) : ({ m with base := m.settled, waiting := [] } : DM).Wf := by
  have hl := settled_length m
  refine ⟨h.certain, h.room, h.room24, fun b hb => ?_, by show m.settled.length ≤ _; rw [hl]; exact h.npages, fun p hp => by simp at hp, Nat.zero_le _, h.mark, h.fuse1, h.fuse2, fun p hp => ?_, h.alive⟩
  · unfold DM.settled at hb
    obtain ⟨i, hi, rfl⟩ := List.mem_map.1 hb
    exact DM.page_length h i (List.mem_range.1 hi)
  · have := h.torn p hp
    exact ⟨by show p.1 < m.settled.length; rw [hl]; exact this.1, this.2⟩

def settledP (m : DM) (k : Nat) : List Bytes := (List.range k).map m.page
theorem settledP_succ (m : DM) (k : Nat) : settledP m (k + 1) = settledP m k ++ [m.page k] := by simp [settledP, List.range_succ]
theorem settledP_length (m : DM) (k : Nat) : (settledP m k).length = k := by simp [settledP]

def SetOut (F : Foot) (w : World) (m : DM) (e : Ending) (w' : World) : Prop := ∃ r', e = .returned (.agg (rcells { m with base := m.settled, waiting := [] } r')) ∧ RRep F w' { m with base := m.settled, waiting := [] } r' ∧ Below w.heap.size w w'

set_option maxHeartbeats 2000000 in
theorem r6settle {F : Foot} (w : World) (m : DM) (r : RV) (h : RRep F w m r) (hF : ∀ k, F k → k < w.heap.size) : Calls Try.prog 43 #[.agg (rcells m r)] w (SetOut F w m) := by
  obtain ⟨a0, c0, a1, c1, a2, c2, a3, c3, a4, n4, c4, a5, c5, e0, e1, e2, e3, e4, e5⟩ := h.forms
  obtain ⟨w1, hw1⟩ : ∃ w1, (w.alloc (.cells (rcells m r) 52)).alloc (.cells Z13 52) = w1 := ⟨_, rfl⟩
  have hb1 : Below w.heap.size w w1 := by rw [← hw1]; exact below_more (below_more (Below.refl _ _) _) _
  have hx1 : BoxAt w1 w.heap.size (rcells m r) := by rw [← hw1]; exact (heap_alloc_old _ _ (by rw [World.size_alloc]; omega)).trans (BoxAt.new w _)
  have hx2 : BoxAt w1 (w.heap.size + 1) Z13 := by rw [← hw1]; have := BoxAt.new (w.alloc (.cells (rcells m r) 52)) Z13; rw [World.size_alloc] at this; exact this
  have hs1 : w1.heap.size = w.heap.size + 2 := by rw [← hw1, World.size_alloc, World.size_alloc]
  have hnp := h.wf.npages
  have H := Lib.hid (And.intro h hF)
  have H1 := Lib.hid (And.intro hb1 (And.intro hx1 (And.intro hx2 hs1)))
  obtain ⟨bv, wv, lv, mv, lb, tv, lp, bs, ws⟩ := r
  simp only at e0 e1 e2 e3 e4 e5
  subst e0 e1 e2 e3 e4 e5
  unfold rcells at hw1 ⊢
  simp only at hw1 ⊢
  unfold Z13 at hw1
  obtain ⟨nb, hnb⟩ : ∃ nb, m.base.length = nb := ⟨_, rfl⟩
  rw [hnb] at hw1 H H1 hnp ⊢
  have HNB := Lib.hid hnb
  have hnbi : (nb : Int) ≤ 65536 := by omega
  have hx0 := hx1.cell 0 (v := .slice a0 m.base.length c0) rfl
  rw [hnb] at hx0
  clear h hb1 hx1 hx2 hs1 hnb hnp hF
  go_enter Try.func43, Try.ntmps43
  go_wp2
  go_loopw [3, 4] (fun u i wr => ∃ (q : Nat) (us : List Value), q ≤ nb ∧ i = .int .i64 (q : Int) ∧ NewL w1.heap.size w1 wr u us (settledP m q)) (fun _ i _ => nb - (intOf i).toNat)
  case atStart => exact ⟨0, [], by omega, rfl, NewL.nil (Below.refl _ _)⟩
  case round =>
    obtain ⟨q, us, hq, rfl, hR⟩ := hrel
    have hul : us.length = q := by rw [hR.len, settledP_length]
    obtain ⟨ua, uc, rfl⟩ := hR.form
    have hbx := H1.out.2.1.below hR.bl H1.out.2.1.lt
    have hx0r := hbx.cell 0 (v := .slice a0 nb c0) rfl
    have HBX := Lib.hid hbx
    clear hx0
    rcases Nat.lt_or_eq_of_le hq with hlt | heq
    · have hpg := r6page wr m _ (H.out.1.below ((H1.out.1.trans (hR.bl.mono H1.out.1.size)))) q (by rw [HNB.out]; exact hlt)
      unfold rcells at hpg
      simp only at hpg
      have HPG := Lib.hid hpg
      have HR := Lib.hid (And.intro hR (And.intro hul hlt))
      have hqi : (q : Int) < (nb : Int) := by omega
      have hq0 : (0 : Int) ≤ (q : Int) := by omega
      unfold rcells at HBX
      simp only at HBX
      clear hpg hR hul hlt hq hbx
      go_wp2_with (refine wpList_load_row rfl _ _ rfl w.heap.size rfl _ _ (0, 0) _ HBX.out Try.underlying52 rfl info13 ?_)
      refine HPG.out.mono ?_
      rintro e w5 ⟨a9, n9, c9, rfl, hn9, ho9, hb9⟩
      obtain ⟨g3, c3', w6, hr6, hN6⟩ := (HR.out.1.below HR.out.1.bl.size hb9).push (ty := 47) (Nat.le_trans HR.out.1.bl.size hb9.size) (ho9.lower HR.out.1.bl.size) (by rw [HR.out.2.1]; omega)
      rw [HR.out.2.1] at hr6 hN6
      rw [← settledP_succ] at hN6
      have HR6 := Lib.hid hr6
      have HN6 := Lib.hid (And.intro hN6 HR.out.2.2)
      rw [HR.out.2.1]
      clear hn9 ho9 hb9 hr6 hN6 HR HPG hx0r
      go_wp2_with (at_builtin; refine wpList_append_eq rfl rfl HR6.out rfl rfl ?_; clear HR6)
      go_roundw
      case rel => exact ⟨q + 1, _, by have := HN6.out.2; omega, by go_num, HN6.out.1⟩
      case measure => have := HN6.out.2; simp [intOf]; omega
    · subst heq
      have hsl := hR.lists
      have hms : m.settled = settledP m q := by unfold DM.settled settledP; rw [HNB.out]
      rw [hul]
      have hfz0 := hbx.frozen 0
      have hfz1 := hbx.frozen 1
      have hx1r := hbx.cell 1 (v := .slice a1 ws.length c1) rfl
      have hbr := H1.out.2.2.1.below hR.bl H1.out.2.2.1.lt
      obtain ⟨wx, hwx⟩ : ∃ wx, (wr.setCell ⟨w.heap.size, 0, none⟩ (.slice ua q uc)).setCell ⟨w.heap.size, 1, none⟩ (.slice none 0 0) = wx := ⟨_, rfl⟩
      have hbx2 := (hbx.set 0 (.slice ua q uc)).set 1 (.slice none 0 0)
      have hbr2 := (hbr.setNe 0 (.slice ua q uc) (show w.heap.size + 1 ≠ w.heap.size by omega)).setNe 1 (.slice none 0 0) (show w.heap.size + 1 ≠ w.heap.size by omega)
      rw [hwx] at hbx2 hbr2
      have hsame : ∀ k, k < wr.heap.size → k ≠ w.heap.size → wx.heap[k]? = wr.heap[k]? := fun k hk hne => by rw [← hwx, setCell_heap _ _ _ _ hne, setCell_heap _ _ _ _ hne]
      have hbw0 : Below w.heap.size w wr := H1.out.1.trans (hR.bl.mono H1.out.1.size)
      have hbwx : Below w.heap.size w wx := by rw [← hwx]; exact (hbw0.setCell (Nat.le_refl _) _).setCell (Nat.le_refl _) _
      have hszx : wx.heap.size = wr.heap.size := by rw [← hwx, setCell_size, setCell_size]
      obtain ⟨wy, hwy⟩ : ∃ wy, wx.setRow (w.heap.size + 1) (rcells { m with base := m.settled, waiting := [] } ⟨.slice ua q uc, .slice none 0 0, .slice a2 m.log.length c2, .slice a3 m.mark.length c3, .slice a4 n4 c4, .slice a5 m.tail.length c5, lp, us, []⟩) = wy := ⟨_, rfl⟩
      have hbwy : Below w.heap.size w wy := by rw [← hwy]; exact below_setRow hbwx (by omega) _
      have hbry : BoxAt wy (w.heap.size + 1) (rcells { m with base := m.settled, waiting := [] } ⟨.slice ua q uc, .slice none 0 0, .slice a2 m.log.length c2, .slice a3 m.mark.length c3, .slice a4 n4 c4, .slice a5 m.tail.length c5, lp, us, []⟩) := by rw [← hwy]; exact hbr2.row _
      have hfin : Hid (SetOut F w m (.returned (.agg (rcells { m with base := m.settled, waiting := [] } ⟨.slice ua q uc, .slice none 0 0, .slice a2 m.log.length c2, .slice a3 m.mark.length c3, .slice a4 n4 c4, .slice a5 m.tail.length c5, lp, us, []⟩))) wy) := by
        have hwf := H.out.1.wf
        have hold := H.out.1.below hbwy
        refine ⟨_, rfl, ⟨?_, RdV.nil _ _ _, rfl, fun p hp => by simp at hp, hold.log, hold.mark, hold.tail, hold.torn, hold.lbf, settled_wf hwf⟩, hbwy⟩
        rw [hul] at hsl
        rw [← hms] at hsl
        refine hsl.keep (fun k hk hF => ?_) (fun k hk hF => ?_)
        · have h5 : w1.heap.size ≤ k := by unfold OldF at hF; omega
          have h6 := H1.out.2.2.2
          rw [← hwy, setRow_other _ _ _ _ (by omega), hsame k hk (by omega)]
        · have h5 := H.out.2 k hF
          have h6 := H1.out.2.2.2
          unfold OldF
          omega
      unfold rcells at hbx2 hwy hbry hfin
      unfold Z13 at hbr2
      simp only at hwy hbry hfin
      have hbx3 : BoxAt wx w.heap.size #[.slice ua q uc, .slice none 0 0, .int .i64 m.room, .slice a2 m.log.length c2, .int .i64 m.certain, .slice a3 m.mark.length c3, .int .i64 m.fuse, .int .i64 m.ops, .bool m.dead, .int .i64 lp, .slice a4 n4 c4, .slice a5 m.tail.length c5, .bool m.torn.isSome] := hbx2
      have HX := Lib.hid hbx3
      have HR2 := Lib.hid hbr2
      have HRY := Lib.hid hbry
      clear hR hul hsl hms hbx hbr hbx2 hbx3 hbr2 hsame hbw0 hbwx hszx hbwy hbry HBX hq
      go_wp2_with (first
        | (refine wpList_load_row rfl _ _ rfl w.heap.size rfl _ _ (0, 0) _ HX.out Try.underlying52 rfl info13 ?_)
        | (refine wpList_store_row rfl _ _ _ rfl (w.heap.size + 1) _ rfl rfl _ _ HR2.out info13 rfl (by simp [Value.oneCell']) ?_))
      rw [hwy]
      exact bodyPost_ret (results_cell_row (fn := Try.f43) (p := 2) (ty := 52) rfl _ _ (w.heap.size + 1) 52 _ (0, 0) _ rfl HRY.out Try.underlying52 rfl info13) rfl hfin.out
end Mun
