/- Contract of Same at two readings of one record. -/
import Derived.Test.YtoblajbffnkkiaaRecL
set_option maxRecDepth 100000
set_option linter.unusedVariables false
set_option linter.unusedSimpArgs false
namespace Mun
open Go Go.RowKit
open Go.Proofs

theorem chs_cells {F : Foot} {w : World} {r : PR} {x : RV} (h : RecAt F w r x) {ca : Option Addr} {cn cc : Nat} (e : x.cv = .slice ca cn cc) (k : Nat) (hk : k < r.cs.length) :
    ∃ g off ba bn bc, ca = some ⟨g, off, none⟩ ∧ g < w.heap.size ∧ w.cell? ⟨g, off + k * 4, none⟩ = some (.int .i64 r.cs[k].page) ∧ w.cell? ⟨g, off + k * 4 + 1, none⟩ = some (.int .i64 r.cs[k].at_) ∧
      w.cell? ⟨g, off + k * 4 + 2, none⟩ = some (.bool r.cs[k].whole) ∧ w.cell? ⟨g, off + k * 4 + 3, none⟩ = some (.slice ba bn bc) ∧ RdB F w (.slice ba bn bc) r.cs[k].b := by
  have hkl : k < x.cs.length := by rw [h.len]; exact hk
  obtain ⟨g, off, c', hv, _, _, _, h4, h5, h6, h7, h8⟩ := h.cs.at_ k hkl
  rw [e] at hv
  injection hv with e1 e2 e3
  have hrd := h.cs.rd _ (List.getElem_mem hkl)
  have hg := h.get k hkl
  obtain ⟨ba, bn, bc, hb, _⟩ := hrd.formN
  rw [hb] at h8 hrd
  rw [hg]
  exact ⟨g, off, ba, bn, bc, e1, h4, h5, h6, h7, h8, hrd⟩

set_option maxHeartbeats 2000000 in
theorem same_any {F G : Foot} (w : World) (r : PR) (x y : RV) (hx : RecAt F w r x) (hy : RecAt G w r y) :
    Calls Try.prog 12 #[rval r x, rval r y] w fun e w' => e = .returned (.bool true) ∧ Below w.heap.size w w' := by
  obtain ⟨da, dn, dc, ca, cn, cc, e1, e2, HN⟩ := hx.open
  obtain ⟨da', dn', dc', ca', cn', cc', e1', e2', HN'⟩ := hy.open
  obtain rfl : dn = dn' := HN.out.1.trans HN'.out.1.symm
  obtain rfl : cn = cn' := HN.out.2.1.trans HN'.out.2.1.symm
  unfold rval
  rw [e1, e2, e1', e2']
  have hb0 : Below w.heap.size w ((w.alloc (.cells #[.int .i64 r.kind, .int .u64 r.tx, .int .u64 r.prev, .int .u64 r.next, .slice da dn dc, .slice ca cn cc] 26)).alloc (.cells #[.int .i64 r.kind, .int .u64 r.tx, .int .u64 r.prev, .int .u64 r.next, .slice da' dn dc', .slice ca' cn cc'] 26)) := below_more (below_more (Below.refl _ _) _) _
  obtain ⟨w1, hw1⟩ : ∃ w1, (w.alloc (.cells #[.int .i64 r.kind, .int .u64 r.tx, .int .u64 r.prev, .int .u64 r.next, .slice da dn dc, .slice ca cn cc] 26)).alloc (.cells #[.int .i64 r.kind, .int .u64 r.tx, .int .u64 r.prev, .int .u64 r.next, .slice da' dn dc', .slice ca' cn cc'] 26) = w1 := ⟨_, rfl⟩
  have k1 : w1.heap[w.heap.size]? = some (.cells (rcs r (.slice da dn dc) (.slice ca cn cc)) 26 (0, 0)) := by rw [← hw1, heap_alloc_old _ _ (by simp)]; exact heap_alloc_new w _
  have k2 : w1.heap[w.heap.size + 1]? = some (.cells (rcs r (.slice da' dn dc') (.slice ca' cn cc')) 26 (0, 0)) := by
    rw [← hw1]
    have h9 := heap_alloc_new (w.alloc (.cells #[.int .i64 r.kind, .int .u64 r.tx, .int .u64 r.prev, .int .u64 r.next, .slice da dn dc, .slice ca cn cc] 26)) (.cells #[.int .i64 r.kind, .int .u64 r.tx, .int .u64 r.prev, .int .u64 r.next, .slice da' dn dc', .slice ca' cn cc'] 26)
    rw [World.size_alloc] at h9
    exact h9
  rw [hw1] at hb0
  have s1 := str_bytes (hx.data.below hb0)
  have s2 := str_bytes (hy.data.below hb0)
  rw [e1] at s1
  rw [e1'] at s2
  obtain ⟨a0, a1, a2, a3, a4, a5⟩ := box6 (w := w) k1
  obtain ⟨b0, b1, b2, b3, b4, b5⟩ := box6 (w := w) k2
  have hx1 := hx.below hb0
  have hy1 := hy.below hb0
  have hcn : (cn : Int) ≤ 9223372036854775807 := by have := HN.out.2.2.2; unfold maxLen at this; omega
  have HX := Lib.hid hx1
  have HY := Lib.hid hy1
  have HB0 := Lib.hid hb0
  have HCN := Lib.hid HN.out.2.1
  have HE := Lib.hid (And.intro e2 e2')
  have HK := Lib.hid (And.intro k1 k2)
  clear hx hy hx1 hy1 hb0 e1 e2 e1' e2' k1 k2 HN HN'
  go_enter Try.func12, Try.ntmps12
  go_wp2
  clear s1 s2 a0 a1 a2 a3 a4 a5 b0 b1 b2 b3 b4 b5 hw1
  go_loopw [5] (fun i wr => ∃ k : Nat, k ≤ cn ∧ i = .int .i64 k ∧ Below w1.heap.size w1 wr) (fun i _ => cn - (intOf i).toNat)
  case atStart => exact ⟨0, Nat.zero_le _, rfl, Below.refl _ _⟩
  case round =>
    obtain ⟨k, hk, rfl, hb⟩ := hrel
    have a5 : wr.cell? ⟨w.heap.size, 5, none⟩ = some (.slice ca cn cc) := cell_of_row _ _ 5 _ _ _ ((hb.block _ (lt_of_block HK.out.1)).trans HK.out.1)
    have b5 : wr.cell? ⟨w.heap.size + 1, 5, none⟩ = some (.slice ca' cn cc') := cell_of_row _ _ 5 _ _ _ ((hb.block _ (lt_of_block HK.out.2)).trans HK.out.2)
    by_cases hlt : k < cn
    · obtain ⟨g, off, ba, bn, bc, rfl, hg, x0, x1, x2, x3, hxr⟩ := chs_cells (HX.out.below hb) HE.out.1 k (by rw [← HCN.out]; exact hlt)
      obtain ⟨g', off', ba', bn', bc', rfl, hg', y0, y1, y2, y3, hyr⟩ := chs_cells (HY.out.below hb) HE.out.2 k (by rw [← HCN.out]; exact hlt)
      obtain ⟨pc, hpc⟩ : ∃ pc, r.cs[k]'(by rw [← HCN.out]; exact hlt) = pc := ⟨_, rfl⟩
      rw [hpc] at x0 x1 x2 y0 y1 y2 hxr hyr
      have hbc : Below wr.heap.size wr ((wr.alloc (.cells #[.int .i64 pc.page, .int .i64 pc.at_, .bool pc.whole, .slice ba bn bc] 81)).alloc (.cells #[.int .i64 pc.page, .int .i64 pc.at_, .bool pc.whole, .slice ba' bn' bc'] 81)) := below_more (below_more (Below.refl _ _) _) _
      have s1 := str_bytes (hxr.below hbc)
      have s2 := str_bytes (hyr.below hbc)
      have HBC := Lib.hid (hb.trans (hbc.mono hb.size))
      have HLT := Lib.hid hlt
      have hsz1 : w.heap.size < wr.heap.size := by have := lt_of_block HK.out.1; have := hb.size; omega
      have hsz2 : w.heap.size + 1 < wr.heap.size := by have := lt_of_block HK.out.2; have := hb.size; omega
      clear hxr hyr hbc hb hpc
      go_wp2
      go_roundw
      case rel => exact ⟨k + 1, by have := HLT.out; omega, by go_num, HBC.out⟩
      case measure => have := HLT.out; simp [intOf]; omega
    · have HBB := Lib.hid (HB0.out.trans (hb.mono HB0.out.size))
      clear hb
      go_wp2
      go_ret
      exact ⟨rfl, HBB.out⟩
end Mun
