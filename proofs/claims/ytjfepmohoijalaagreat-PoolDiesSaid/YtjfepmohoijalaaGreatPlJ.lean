/- A device, a log and a pool, all new. -/
import Derived.Test.YtjfepmohoijalaaGreatMgR
import Derived.Test.YtjfepmohoijalaaGreatMgN
set_option maxRecDepth 100000
set_option linter.unusedVariables false
set_option linter.unusedSimpArgs false
namespace Mun
open Go Go.RowKit
open Go.Proofs

def lm0 : LM := ⟨1, [], 0, 0⟩
theorem lm0_wf : lm0.Wf := ⟨by simp [lm0], by simp [lm0, lenL], by simp [lm0], by simp [lm0, lenL], by simp [lm0]⟩
def OpenN (w : World) (D : Nat) (e : Ending) (w' : World) : Prop := ∃ L bv sv, e = .returned (.tuple #[.pointer (some ⟨L, 0, none⟩), .int .i64 0]) ∧ LMem w' D L lm0 bv sv ∧ Below w.heap.size w w' ∧ ∀ k, lfoot L bv sv k → w.heap.size ≤ k

set_option maxHeartbeats 1000000 in
theorem open_nw (w : World) (D : Nat) (E F : Foot) (dm : DM) (h : DiskAt w D E F dm) (hd : dm.dead = false) (hl : dm.log = []) (hm : dm.mark = []) (hc : dm.certain = 0) :
    Calls Tryz.prog 31 #[.pointer (some ⟨D, 0, none⟩)] w (OpenN w D) := by
  have hmk := d_marked w D F dm h hd
  rw [hm] at hmk
  simp only [List.length_nil] at hmk
  obtain ⟨w1, hw1⟩ : ∃ w1, w.alloc (bobj []) = w1 := ⟨_, rfl⟩
  obtain ⟨w2, hw2⟩ : ∃ w2, w1.alloc (.cells #[.pointer (some ⟨D, 0, none⟩), .int .u64 1, .slice none 0 0, .slice none 0 0, .int .i64 0, .int .u64 0] 82) = w2 := ⟨_, rfl⟩
  have hb1 : Below w.heap.size w w1 := by rw [← hw1]; exact (Below.refl _ _).alloc (Nat.le_refl _) _
  have hb2 : Below w.heap.size w w2 := by rw [← hw2]; exact hb1.alloc hb1.size _
  have hlg := d_log w2 D F dm (h.below hb2) hd
  rw [hl] at hlg
  simp only [List.length_nil] at hlg
  obtain ⟨w3, hw3⟩ : ∃ w3, w2.alloc (bobj []) = w3 := ⟨_, rfl⟩
  have hb3 : Below w.heap.size w w3 := by rw [← hw3]; exact hb2.alloc hb2.size _
  have kb3 : w3.heap[w2.heap.size]? = some (bobj []) := by rw [← hw3]; exact heap_alloc_new w2 _
  rw [hw1] at hmk
  rw [hw3] at hlg
  have hs1 : w1.heap.size = w.heap.size + 1 := by rw [← hw1]; simp
  have hs2 : w2.heap.size = w.heap.size + 2 := by rw [← hw2]; simp [hs1]
  have hs3 : w3.heap.size = w.heap.size + 3 := by rw [← hw3]; simp [hs2]
  have k3 : w3.heap[w1.heap.size]? = some (.cells #[.pointer (some ⟨D, 0, none⟩), .int .u64 1, .slice none 0 0, .slice none 0 0, .int .i64 0, .int .u64 0] 82 (0, 0)) := by
    rw [← hw3, show (w2.alloc (bobj [])).heap[w1.heap.size]? = w2.heap[w1.heap.size]? from by first | exact heap_alloc_old _ _ (by omega) | exact heap_alloc_old _ _ _ (by omega), ← hw2]; exact heap_alloc_new w1 _
  have c2 : w3.cell? ⟨w1.heap.size, 2, none⟩ = some (.slice none 0 0) := cell_of_row _ _ 2 _ _ _ k3
  have f2 : w3.frozen? ⟨w1.heap.size, 2, none⟩ = false := by simp [World.frozen?, k3]
  obtain ⟨w4, hw4⟩ : ∃ w4, w3.setCell ⟨w1.heap.size, 2, none⟩ (.slice (some ⟨w2.heap.size, 0, none⟩) 0 0) = w4 := ⟨_, rfl⟩
  have k4 : w4.heap[w1.heap.size]? = some (.cells #[.pointer (some ⟨D, 0, none⟩), .int .u64 1, .slice (some ⟨w2.heap.size, 0, none⟩) 0 0, .slice none 0 0, .int .i64 0, .int .u64 0] 82 (0, 0)) := by rw [← hw4]; exact (setCell_blk k3 _).trans rfl
  have hb4 : Below w.heap.size w w4 := by rw [← hw4]; exact hb3.setCell (by simp; omega) _
  have kb4 : w4.heap[w2.heap.size]? = some (bobj []) := by rw [← hw4, setCell_heap _ _ _ _ (by show w2.heap.size ≠ w1.heap.size; omega)]; exact kb3
  have hcr : ∀ k, Calls Tryz.prog 72 #[.pointer (some ⟨D, 0, none⟩)] (w4.drewN k) fun e w' => e = .returned (.int .i64 0) ∧ w4.drewN k = w' := fun k => by
    have h9 := d_certain (w4.drewN k) D F dm ((h.below hb4).below (below_drewN (Below.refl _ _) k))
    rw [hc] at h9
    exact h9
  have d2 : w4.cell? ⟨w1.heap.size, 2, none⟩ = some (.slice (some ⟨w2.heap.size, 0, none⟩) 0 0) := cell_of_row _ _ 2 _ _ _ k4
  have d4 : w4.cell? ⟨w1.heap.size, 4, none⟩ = some (.int .i64 0) := cell_of_row _ _ 4 _ _ _ k4
  have f4 : w4.frozen? ⟨w1.heap.size, 4, none⟩ = false := by simp [World.frozen?, k4]
  have HMK := Lib.hid hmk
  have HLG := Lib.hid hlg
  have HCR := Lib.hid hcr
  have HX := Lib.hid (And.intro hb4 (And.intro k4 (And.intro hs1 (And.intro kb4 hs2))))
  clear hmk hlg hcr h hb1 hb2 hb3 hs2 hs3 k3 k4 hb4 hd hl hm hc hs1 kb3 kb4
  go_enter Tryz.func31, Tryz.ntmps31
  go_wp2_with fail
  refine HMK.out.mono ?_
  rintro e w9 ⟨rfl, rfl⟩
  go_wp2_with fail
  refine HLG.out.mono ?_
  rintro e w9 ⟨rfl, rfl⟩
  go_wp2
  clear hw1 hw2 hw3 hw4 c2 f2
  go_loopw [7] (fun a wr => a = .int .i64 0 ∧ wr = w4) (fun _ _ => 0)
  case atStart => exact ⟨rfl, rfl⟩
  case round =>
    obtain ⟨rfl, rfl⟩ := hrel
    go_upto_region 23 with (fail)
    go_quiet ((go_at_call 72; exact quiet_eq (HCR.out _)))
    have hb5 : Below w.heap.size w (wr.drewN nq) := below_drewN HX.out.1 nq
    have k5 : (wr.drewN nq).heap[w1.heap.size]? = some (.cells #[.pointer (some ⟨D, 0, none⟩), .int .u64 1, .slice (some ⟨w2.heap.size, 0, none⟩) 0 0, .slice none 0 0, .int .i64 0, .int .u64 0] 82 (0, 0)) := HX.out.2.1
    obtain ⟨w5, hw5⟩ : ∃ w5, wr.drewN nq = w5 := ⟨_, rfl⟩
    rw [hw5] at hb5 k5 ⊢
    have e2 : w5.cell? ⟨w1.heap.size, 2, none⟩ = some (.slice (some ⟨w2.heap.size, 0, none⟩) 0 0) := cell_of_row _ _ 2 _ _ _ k5
    have e4 : w5.cell? ⟨w1.heap.size, 4, none⟩ = some (.int .i64 0) := cell_of_row _ _ 4 _ _ _ k5
    have g4 : w5.frozen? ⟨w1.heap.size, 4, none⟩ = false := by simp [World.frozen?, k5]
    obtain ⟨w6, hw6⟩ : ∃ w6, w5.setCell ⟨w1.heap.size, 4, none⟩ (.int .i64 0) = w6 := ⟨_, rfl⟩
    have hs1 := HX.out.2.2.1
    have hs2 := HX.out.2.2.2.2
    have kb5 : w5.heap[w2.heap.size]? = some (bobj []) := by rw [← hw5]; exact HX.out.2.2.2.1
    have kb6 : w6.heap[w2.heap.size]? = some (bobj []) := by rw [← hw6, setCell_heap _ _ _ _ (by show w2.heap.size ≠ w1.heap.size; omega)]; exact kb5
    have k6 : w6.heap[w1.heap.size]? = some (.cells (lcells D lm0 (.slice (some ⟨w2.heap.size, 0, none⟩) 0 0) (.slice none 0 0)) 82 (0, 0)) := by rw [← hw6]; exact (setCell_blk k5 _).trans rfl
    have hmem : LMem w6 D w1.heap.size lm0 (.slice (some ⟨w2.heap.size, 0, none⟩) 0 0) (.slice none 0 0) :=
      ⟨k6, ⟨rfl, .inr ⟨w2.heap.size, 0, _, rfl, Nat.zero_le _, kb6, Nat.zero_le _, Nat.zero_le _, by simp [bv], rfl⟩⟩, World.ownsRow_nil _ _ _ _, lm0_wf⟩
    have hlf : ∀ k, lfoot w1.heap.size (.slice (some ⟨w2.heap.size, 0, none⟩) 0 0) (.slice none 0 0) k → w.heap.size ≤ k := fun k hk => by
      rcases hk with hk | hk | hk
      · omega
      · simp [Value.ownBlock] at hk; omega
      · simp [Value.ownBlock] at hk
    have hb6 : Below w.heap.size w w6 := by rw [← hw6]; exact hb5.setCell (by simp; omega) _
    have HF := Lib.hid (And.intro hmem (And.intro hb6 hlf))
    clear hb5 k5 hs1 hs2 hb6 hw5 d2 d4 f4 kb5 kb6 k6 hmem hlf
    go_wp2
    go_ret2
    exact ⟨_, _, _, rfl, HF.out⟩

def BenchL (w : World) (pages room n : Nat) (e : Ending) (w' : World) : Prop :=
  ∃ D L Pb g x, e = .returned (.tuple #[.agg #[.pointer (some ⟨D, 0, none⟩), .pointer (some ⟨L, 0, none⟩), .pointer (some ⟨Pb, 0, none⟩)], .bool true]) ∧ (x.v = newPLV g n ∧ x.Z = NoF) ∧
    PL w' D L Pb ⟨DM.new pages room, lm0, PM.new n⟩ x ∧ Below w.heap.size w w' ∧ (∀ k, x.af Pb L k → w.heap.size ≤ k)

set_option maxHeartbeats 1000000 in
theorem bench_pl (w : World) (pages room n : Nat) (p0 : 1 ≤ pages) (p1 : pages ≤ 65536) (r1 : room ≤ 16777216) (n0 : 1 ≤ n) (n1 : n ≤ 1024) : Calls Tryz.prog 7 #[.int .i64 pages, .int .i64 room, .int .i64 n] w (BenchL w pages room n) := by
  obtain ⟨w0, hw0⟩ : ∃ w0, w.alloc (.cells #[.pointer none, .pointer none, .pointer none] 28) = w0 := ⟨_, rfl⟩
  have hb0 : Below w.heap.size w w0 := by rw [← hw0]; exact (Below.refl _ _).alloc (Nat.le_refl _) _
  have k0 : w0.heap[w.heap.size]? = some (.cells #[.pointer none, .pointer none, .pointer none] 28 (0, 0)) := by rw [← hw0]; exact heap_alloc_new w _
  have hnw := d_new w0 pages room p0 p1 r1
  have hdk := new_disk w0 pages room (E := fun k => k = w.heap.size) (fun k hk => by rw [hk]; exact (Array.getElem?_eq_some_iff.1 k0).1) p1 r1
  obtain ⟨w1, hw1⟩ : ∃ w1, newWorld w0 pages room = w1 := ⟨_, rfl⟩
  have hb1 : Below w0.heap.size w0 w1 := by rw [← hw1]; unfold newWorld; exact below_more (below_more (below_more (Below.refl _ _) _) _) _
  rw [hw1] at hnw hdk
  have hop := open_nw w1 _ _ _ _ hdk rfl rfl rfl rfl
  have HNW := Lib.hid hnw
  have HOP := Lib.hid hop
  have HX := Lib.hid (And.intro hb0 (And.intro hb1 (And.intro hdk (And.intro n0 (And.intro n1 k0)))))
  clear hnw hop hb1 hdk n0 n1 k0 p0 p1 r1 hw1 hb0
  go_enter Tryz.func7, Tryz.ntmps7
  go_wp2_with fail
  refine HNW.out.mono ?_
  rintro e w' ⟨rfl, rfl⟩
  clear hw0
  go_wp2_with fail
  refine HOP.out.mono ?_
  rintro e w2 ⟨L, bv, sv, rfl, hmem, hb2, hlf⟩
  obtain ⟨hb0, hb1, hdk, n0, n1, k0⟩ := HX.out
  have hpn := p_new w2 (w0.heap.size + 2) L n n0 n1
  have HPN := Lib.hid hpn
  have HB2 := Lib.hid hb2
  have HLM := Lib.hid (And.intro hmem hlf)
  clear hmem hlf
  clear hpn hb2 hb0 hb1 hdk n0 n1 k0
  go_wp2_with fail
  refine HPN.out.mono ?_
  rintro e w3 ⟨rfl, hrep, hb3, hs3⟩
  obtain ⟨hb0, hb1, hdk, n0, n1, k0⟩ := HX.out
  have hb13 : Below w1.heap.size w1 w3 := HB2.out.trans (hb3.mono HB2.out.size)
  have hb03 : Below w0.heap.size w0 w3 := hb1.trans (hb13.mono hb1.size)
  have hwlt : w.heap.size < w0.heap.size := (Array.getElem?_eq_some_iff.1 k0).1
  have k3 : w3.heap[w.heap.size]? = some (.cells #[.pointer none, .pointer none, .pointer none] 28 (0, 0)) := (hb03.block _ hwlt).trans k0
  obtain ⟨w4, hw4⟩ : ∃ w4, w3.setRow w.heap.size #[.pointer (some ⟨w0.heap.size + 2, 0, none⟩), .pointer (some ⟨L, 0, none⟩), .pointer (some ⟨w2.heap.size + 3, 0, none⟩)] = w4 := ⟨_, rfl⟩
  have ho4 : ∀ k, k ≠ w.heap.size → w4.heap[k]? = w3.heap[k]? := fun k hk => by rw [← hw4]; exact setRow_other hk
  have hs4 : w4.heap.size = w3.heap.size := by rw [← hw4]; exact setRow_size _ _ _
  have k4 : w4.heap[w.heap.size]? = some (.cells #[.pointer (some ⟨w0.heap.size + 2, 0, none⟩), .pointer (some ⟨L, 0, none⟩), .pointer (some ⟨w2.heap.size + 3, 0, none⟩)] 28 (0, 0)) := by rw [← hw4]; exact setRow_heap _ _ _ _ _ _ k3
  have hE : ∀ k, pfoot (w2.heap.size + 3) (newPLV w2.heap.size n) k → w2.heap.size ≤ k ∧ k < w3.heap.size := fun k hk => ⟨by
    rcases hk with rfl | rfl | rfl | rfl
    · omega
    · exact Nat.le_refl _
    · exact Nat.le_succ _
    · show _ ≤ w2.heap.size + 2; omega, (hrep NoF).lt k hk⟩
  have h12 : w1.heap.size ≤ w2.heap.size := HB2.out.size
  have h01 : w0.heap.size ≤ w1.heap.size := hb1.size
  obtain ⟨hmem, hlf⟩ := HLM.out
  have hlt2 : ∀ k, lfoot L bv sv k → k < w2.heap.size := fun k hk => hmem.lt k hk
  have hs23 : w2.heap.size ≤ w3.heap.size := hb3.size
  have hmem4 : LMem w4 (w0.heap.size + 2) L lm0 bv sv := (hmem.keep (fun k hk => hb3.block k (hlt2 k hk))).keep (fun k hk => ho4 k (by have := hlf k hk; omega))
  obtain ⟨x, hx⟩ : ∃ x : PZ, x = ⟨newFoot w0, newPLV w2.heap.size n, bv, sv, NoF⟩ := ⟨_, rfl⟩
  have hd3 := hdk.grow (E' := fun k => (pfoot (w2.heap.size + 3) (newPLV w2.heap.size n) k ∨ lfoot L bv sv k) ∨ k = w.heap.size) hb13 (fun k hk => by
    rcases hk with (hk | hk) | hk
    · have := hE k hk; exact .inr ⟨by omega, this.2⟩
    · exact .inr ⟨hlf k hk, by have := hlt2 k hk; omega⟩
    · exact .inl hk)
  have hd4 : DiskAt w4 (w0.heap.size + 2) (x.ef (w2.heap.size + 3) L) (newFoot w0) (DM.new pages room) := by
    rw [hx]
    exact (hd3.frame (E' := fun k => (pfoot (w2.heap.size + 3) (newPLV w2.heap.size n) k ∨ lfoot L bv sv k) ∨ k = w.heap.size) (fun k _ hn => ho4 k (fun e => hn (.inr e))) (Nat.le_of_eq hs4.symm) (fun k hk => .inl hk)).sub (fun k hk => by
      rcases hk with hk | hk | hk
      · exact .inl (.inl hk)
      · exact .inl (.inr hk)
      · exact absurd hk (noF k))
  have hr4 : PRep w4 (w2.heap.size + 3) (w0.heap.size + 2) L (x.af (w2.heap.size + 3) L) (PM.new n) (newPLV w2.heap.size n) := by
    rw [hx]
    exact (hrep (fun k => ((pfoot (w2.heap.size + 3) (newPLV w2.heap.size n) k ∨ (lfoot L bv sv k ∨ NoF k)) ∨ newFoot w0 k) ∨ k = w.heap.size)).keep (fun k _ hk => by
      rcases hk with hk | hk
      · have := hE k hk; exact ho4 k (by omega)
      · exact ho4 k (fun e => hk (.inr e))) (fun k _ hk => .inl hk)
  have hap : ∀ k, pfoot (w2.heap.size + 3) (newPLV w2.heap.size n) k → ¬ lfoot L bv sv k := fun k h1 h2 => by have := hE k h1; have := hlt2 k h2; omega
  have hpl : PL w4 (w0.heap.size + 2) L (w2.heap.size + 3) ⟨DM.new pages room, lm0, PM.new n⟩ x := by
    rw [hx] at hd4 hr4 ⊢
    exact ⟨hd4, hr4, hmem4, hap⟩
  have haf : ∀ k, x.af (w2.heap.size + 3) L k → w.heap.size ≤ k := fun k hk => by
    rw [hx] at hk
    rcases hk with (hk | hk | hk) | hk
    · have := hE k hk; omega
    · have := hlf k hk; omega
    · exact absurd hk (noF k)
    · rcases hk with hk | hk | hk <;> omega
  have hb4 : Below w.heap.size w w4 := by
    have h9 := hb0.trans (hb03.mono hb0.size)
    rw [← hw4]
    exact below_setRow h9 (Nat.le_refl _) _
  have hpost : BenchL w pages room n (.returned (.tuple #[.agg #[.pointer (some ⟨w0.heap.size + 2, 0, none⟩), .pointer (some ⟨L, 0, none⟩), .pointer (some ⟨w2.heap.size + 3, 0, none⟩)], .bool true])) w4 :=
    ⟨_, L, _, w2.heap.size, x, rfl, ⟨by rw [hx], by rw [hx]⟩, hpl, hb4, haf⟩
  have HP := Lib.hid hpost
  have K3 := Lib.hid k3
  have K4 := Lib.hid k4
  clear hrep hb3 hs3 hb0 hb1 hdk n0 n1 k0 hb13 hb03 hwlt k3 ho4 hs4 k4 hE h12 h01 hd3 hd4 hr4 hb4 hpost HX HB2 hmem hlf hlt2 hs23 hmem4 hap hpl haf HLM hx HPN HOP HNW
  go_wp2_with (first | (refine wpList_store_row rfl _ _ _ rfl w.heap.size _ rfl rfl _ _ K3.out infoB rfl (by simp [Value.oneCell']) ?_; rw [hw4]))
  exact bodyPost_ret (v := .tuple #[.agg #[.pointer (some ⟨w0.heap.size + 2, 0, none⟩), .pointer (some ⟨L, 0, none⟩), .pointer (some ⟨w2.heap.size + 3, 0, none⟩)], .bool true]) (by simp [results, Tryz.results7, asAddr, run_loadVar_row w4 w.heap.size 28 28 _ (0, 0) _ K4.out Tryz.underlying28 rfl infoB]) rfl HP.out
end Mun
