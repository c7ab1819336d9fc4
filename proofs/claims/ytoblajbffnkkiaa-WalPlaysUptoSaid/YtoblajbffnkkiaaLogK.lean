/- Contract of a log's Open. Printed by wip/tools/genopen.py. -/
import Derived.Test.YtoblajbffnkkiaaMgF
import Derived.Test.YtoblajbffnkkiaaMgD
import Derived.Test.YtoblajbffnkkiaaMgA
set_option maxRecDepth 100000
set_option linter.unusedVariables false
set_option linter.unusedSimpArgs false
namespace Mun
open Go Go.RowKit
open Go.Proofs

/-- the device behind the opening -/
def openDM (dm : DM) (n : Nat) : DM := if n = dm.log.length then dm else (dm.trim n).1

def OpenGen (w : World) (D : Nat) (E F : Foot) (dm : DM) (b c : Nat) (rs : List PR) (e : Ending) (w' : World) : Prop :=
  ∃ L bv sv F', e = .returned (.tuple #[.pointer (some ⟨L, 0, none⟩), .int .i64 0]) ∧ LogAt w' D L E F' (openDM dm (lenL rs)) ⟨b, rs, lenL rs, c⟩ bv sv ∧ Chg F F' w w' ∧ ∀ k, lfoot L bv sv k → w.heap.size ≤ k ∧ k < w'.heap.size

theorem below_setRow {B g : Nat} {w W : World} {cs : Array Value} (h : Below B w W) (hg : B ≤ g) : Below B w (W.setRow g cs) :=
  ⟨h.os, h.tape, h.output, by have := h.size; simpa [World.setRow] using this, fun k hk => by rw [setRow_other (by omega)]; exact h.block k hk⟩

theorem chg_strip {F F' E : Foot} {w w' : World} (c : Chg (uf F E) (uf F' E) w w') (hE : ∀ k, E k → w.heap.size ≤ k ∧ k < w'.heap.size) : Chg F F' w w' :=
  ⟨c.os, c.tape, c.output, c.size, fun k hk hn => c.block k hk (fun h => by
    rcases h with h | h
    · exact hn h
    · have := hE k h; omega), fun k hk => by
    rcases c.foot k (.inl hk) with h | h
    · rcases h with h | h
      · exact .inl h
      · exact .inr (hE k h)
    · exact .inr h⟩

theorem trim_eq {dm : DM} (hd : dm.dead = false) (hf : dm.fuse ≠ 0) (n : Nat) (hn : n ≤ dm.log.length) : dm.trim (n : Int) = ({ dm.spend with log := dm.log.take n, certain := n }, 0) := by
  unfold DM.trim
  rw [hd, if_neg (by simp), if_neg (by omega), if_neg hf]
  simp

theorem info_log : (Try.prog.info? 86).map (·.size) = some 6 := by kernel_rfl

set_option maxHeartbeats 8000000 in
theorem open_plain (w : World) (D : Nat) (E F : Foot) (dm : DM) (b c : Nat) (rs : List PR) (tail : Bytes) (h : DiskAt w D E F dm) (hd : dm.dead = false) (ho : dm.ops < 4398046511104) (hfu : dm.fuse ≠ 0) (hl : dm.log = encL b rs ++ tail) (hce : dm.certain = dm.log.length)
    (hmark : dm.mark = [] ∧ b = 1 ∧ c = 0) (hwf : LM.Wf ⟨b, rs, lenL rs, c⟩)
    (htl : tail ≠ [] → ∀ W v, RdB NoF W v dm.log → Calls Try.prog 11 #[v, .int .i64 (lenL rs : Nat), .int .u64 (b + lenL rs : Nat)] W (BodyNo W 4)) :
    Calls Try.prog 22 #[.pointer (some ⟨D, 0, none⟩)] w (OpenGen w D E F dm b c rs) := by
  have hmk := d_marked w D F dm h hd
  rw [hmark.1] at hmk
  simp only [List.length_nil] at hmk
  obtain ⟨w1, hw1⟩ : ∃ w1, w.alloc (bobj []) = w1 := ⟨_, rfl⟩
  obtain ⟨w2, hw2⟩ : ∃ w2, w1.alloc (.cells #[.pointer (some ⟨D, 0, none⟩), .int .u64 1, .slice none 0 0, .slice none 0 0, .int .i64 0, .int .u64 0] 86) = w2 := ⟨_, rfl⟩
  have hb1 : Below w.heap.size w w1 := by rw [← hw1]; exact (Below.refl _ _).alloc (Nat.le_refl _) _
  have hb2 : Below w.heap.size w w2 := by rw [← hw2]; exact hb1.alloc hb1.size _
  have hlg := d_log w2 D F dm (h.below hb2) hd
  obtain ⟨w3, hw3⟩ : ∃ w3, w2.alloc (bobj dm.log) = w3 := ⟨_, rfl⟩
  have hb3 : Below w.heap.size w w3 := by rw [← hw3]; exact hb2.alloc hb2.size _
  rw [hw1] at hmk
  rw [hw3] at hlg
  have hs1 : w1.heap.size = w.heap.size + 1 := by rw [← hw1]; simp
  have hs2 : w2.heap.size = w.heap.size + 2 := by rw [← hw2]; simp [hs1]
  have hs3 : w3.heap.size = w.heap.size + 3 := by rw [← hw3]; simp [hs2]
  obtain ⟨N, hN⟩ : ∃ N, dm.log.length = N := ⟨_, rfl⟩
  have hN24 : N ≤ 16777216 := by rw [← hN]; have := h.wf.room; have := h.wf.room24; omega
  rw [hN] at hlg
  have k3 : w3.heap[w1.heap.size]? = some (.cells #[.pointer (some ⟨D, 0, none⟩), .int .u64 1, .slice none 0 0, .slice none 0 0, .int .i64 0, .int .u64 0] 86 (0, 0)) := by
    rw [← hw3, heap_alloc_old _ _ (by omega), ← hw2]; exact heap_alloc_new w1 _
  have o3 : OwnB w3 w.heap.size 5 (.slice (some ⟨w2.heap.size, 0, none⟩) N N) dm.log := by
    rw [← hw3]
    have h9 := bobj_own w2 dm.log dm.log.length w.heap.size rfl (by unfold maxLen; omega) hb2.size
    rw [hN] at h9
    exact h9
  have c2 : w3.cell? ⟨w1.heap.size, 2, none⟩ = some (.slice none 0 0) := cell_of_row _ _ 2 _ _ _ k3
  have f2 : w3.frozen? ⟨w1.heap.size, 2, none⟩ = false := by simp [World.frozen?, k3]
  obtain ⟨w4, hw4⟩ : ∃ w4, w3.setCell ⟨w1.heap.size, 2, none⟩ (.slice (some ⟨w2.heap.size, 0, none⟩) N N) = w4 := ⟨_, rfl⟩
  have k4 : w4.heap[w1.heap.size]? = some (.cells #[.pointer (some ⟨D, 0, none⟩), .int .u64 1, .slice (some ⟨w2.heap.size, 0, none⟩) N N, .slice none 0 0, .int .i64 0, .int .u64 0] 86 (0, 0)) := by rw [← hw4]; exact block_setCell k3 _
  have o4 : OwnB w4 w.heap.size 5 (.slice (some ⟨w2.heap.size, 0, none⟩) N N) dm.log := ownB_same o3 (fun k e => by
    simp only [Value.ownBlock, Option.some.injEq] at e
    subst e
    rw [← hw4]
    exact block_setCell_ne _ (by omega))
  have hb4 : Below w.heap.size w w4 := by rw [← hw4]; exact hb3.setCell (by simp; omega) _
  have d1 : w4.cell? ⟨w1.heap.size, 1, none⟩ = some (.int .u64 1) := cell_of_row _ _ 1 _ _ _ k4
  have d2 : w4.cell? ⟨w1.heap.size, 2, none⟩ = some (.slice (some ⟨w2.heap.size, 0, none⟩) N N) := cell_of_row _ _ 2 _ _ _ k4
  have HMK := Lib.hid hmk
  have HLG := Lib.hid hlg
  have HWF := Lib.hid hwf
  have HTL := Lib.hid htl
  have HDM := Lib.hid (And.intro h (And.intro ho (And.intro hfu (And.intro hd (And.intro hl (And.intro hce hN))))))
  have hni : (N : Int) ≤ 16777216 := by omega
  obtain ⟨-, hbb1, hc0⟩ := hmark
  have HBC := Lib.hid (And.intro hbb1 hc0)
  have HS := Lib.hid (And.intro hb4 (And.intro k4 (And.intro o4 (And.intro hs1 hs2))))
  have HW2 := Lib.hid (And.intro hw1 hw2)
  clear hmk hlg hwf htl hb1 hb2 hb3 hs2 hs3 k3 o3 k4 o4 hb4 hs1 h ho hfu hl hce hN hN24 hbb1 hc0 hd
  go_enter Try.func22, Try.ntmps22
  go_wp2_with fail
  refine HMK.out.mono ?_
  rintro e w9 ⟨rfl, rfl⟩
  go_wp2_with fail
  refine HLG.out.mono ?_
  rintro e w9 ⟨rfl, rfl⟩
  clear HMK HLG
  go_upto_region 13 with (fail)
  obtain ⟨hb4, k4, o4, hs1, hs2⟩ := HS.out
  have k5 : w4.heap[w1.heap.size]? = some (.cells #[.pointer (some ⟨D, 0, none⟩), .int .u64 b, .slice (some ⟨w2.heap.size, 0, none⟩) N N, .slice none 0 0, .int .i64 0, .int .u64 c] 86 (0, 0)) := by rw [HBC.out.1, HBC.out.2]; exact k4
  clear hw3 hw4 c2 f2 d1 d2

  obtain ⟨L, hL⟩ : ∃ L, w1.heap.size = L := ⟨_, rfl⟩
  obtain ⟨B, hB⟩ : ∃ B, w2.heap.size = B := ⟨_, rfl⟩
  rw [hL, hB] at k5
  rw [hB] at o4
  rw [hL, hB]
  rw [hL] at hs1
  have hsB : B = w.heap.size + 2 := by rw [← hB]; exact hs2
  have HLB := Lib.hid (And.intro hs1 hsB)
  have HI := Lib.hid (And.intro hb4 (And.intro k5 o4))
  clear hb4 k4 k5 o4 hs1 hs2 hsB HS HW2 hL hB
  go_wp2
  go_loopw [7] (fun av wr => ∃ (i : Nat) (sa : Option Addr) (sc : Nat), av = .int .i64 (lenL (rs.take i) : Nat) ∧ i ≤ rs.length ∧ Below w.heap.size w wr ∧
      wr.heap[L]? = some (.cells #[.pointer (some ⟨D, 0, none⟩), .int .u64 b, .slice (some ⟨B, 0, none⟩) N N, .slice sa i sc, .int .i64 0, .int .u64 c] 86 (0, 0)) ∧
      OwnB wr w.heap.size 5 (.slice (some ⟨B, 0, none⟩) N N) dm.log ∧ wr.ownsRow w.heap.size 3 1 (.slice sa i sc) i (iv (offs 0 (rs.take i)))) (fun av _ => N + 1 - (intOf av).toNat)
  case atStart => exact ⟨0, none, 0, by simp [lenL], Nat.zero_le _, HI.out.1, HI.out.2.1, HI.out.2.2, World.ownsRow_nil _ _ _ _⟩
  case round =>
    obtain ⟨i, sa, sc, rfl, hir, hbr, kr, obr, osr⟩ := hrel
    have hLr : L < wr.heap.size := lt_of_block kr
    have hneS : (Value.slice sa i sc).ownBlock ≠ some L := fun e => by
      obtain ⟨cu, hcu⟩ := ownsRow_blk osr e
      exact blk_ne kr hcu (by decide) rfl
    have kW : ∀ W, Below wr.heap.size wr W → W.heap[L]? = some (.cells #[.pointer (some ⟨D, 0, none⟩), .int .u64 b, .slice (some ⟨B, 0, none⟩) N N, .slice sa i sc, .int .i64 0, .int .u64 c] 86 (0, 0)) := fun W hb => (hb.block _ hLr).trans kr
    have hSg : ∀ W, Below wr.heap.size wr W → (W.cell? ⟨L, 1, none⟩ = some (.int .u64 b) ∧ W.cell? ⟨L, 2, none⟩ = some (.slice (some ⟨B, 0, none⟩) N N)) := fun W hb => ⟨cell_of_row _ _ 1 _ _ _ (kW W hb), cell_of_row _ _ 2 _ _ _ (kW W hb)⟩
    have hrd : RdB NoF wr (.slice (some ⟨B, 0, none⟩) N N) dm.log := OwnB.rd (F := NoF) obr (fun _ _ => noF _)
    have c2r : wr.cell? ⟨L, 2, none⟩ = some (.slice (some ⟨B, 0, none⟩) N N) := (hSg wr (Below.refl _ _)).2
    have hLN : lenL rs + tail.length = N := by have h1 := HDM.out.2.2.2.2.2.2; rw [HDM.out.2.2.2.2.1, List.length_append, encL_length] at h1; exact h1
    have hbc : Below wr.heap.size wr wr.drew := below_drewN (Below.refl _ _) 1
    have hS0 : wr.drew.cell? ⟨L, 1, none⟩ = some (.int .u64 b) ∧ wr.drew.cell? ⟨L, 2, none⟩ = some (.slice (some ⟨B, 0, none⟩) N N) := hSg _ hbc
    have hb62 := HWF.out.base
    have HSG := Lib.hid hSg
    have HKW := Lib.hid kW
    by_cases hi : i < rs.length
    · have hok : RecOk rs[i] := HWF.out.recs _ (List.getElem_mem hi)
      have hbd := fun (W : World) (hb : Below wr.heap.size wr W) => body_at W _ dm.log b rs tail i (hrd.below hb) HDM.out.2.2.2.2.1 hi hok hb62 HWF.out.len
      have h1 := lenL_take_lt rs (i := i) (j := i + 1) (by omega) hi
      have h2 := lenL_take_le rs (i + 1)
      obtain ⟨r, hr⟩ : ∃ r, rs[i] = r := ⟨_, rfl⟩
      obtain ⟨o, ho⟩ : ∃ o, lenL (rs.take i) = o := ⟨_, rfl⟩
      obtain ⟨p, hp⟩ : ∃ p, lenL (rs.take (i + 1)) = p := ⟨_, rfl⟩
      simp only [ho, hp, hr, Int.natCast_add] at hbd
      rw [ho, hp] at h1
      rw [hp] at h2
      have t1 : (o : Int) < (N : Int) := by omega
      have o0 : (0 : Int) ≤ (o : Int) := by omega
      have v1 : IntKind.u64.wrap (o : Int) = (o : Int) := wrap_u64_nat _ (by omega)
      have v2 : IntKind.u64.wrap ((b : Int) + (o : Int)) = (b : Int) + (o : Int) := by
        have hb9 : b < 4611686018427387904 := hb62
        have := wrap_u64_nat (b + o) (by omega)
        push_cast at this
        exact this
      have HBD := Lib.hid hbd
      have HR := Lib.hid (And.intro hbr (And.intro kr (And.intro obr (And.intro osr (And.intro hLr (And.intro hneS (And.intro hi (And.intro ho (And.intro hp (And.intro h1 (And.intro h2 hLN)))))))))))
      clear hbd hok hr h1 h2 hbr kr obr osr hLr hneS hi hp hrd hir hSg kW hb62 hLN
      rw [ho]
      clear ho
      go_upto_region 15 with (fail)
      clear c2r t1
      refine wp_region_U (fun W => W.cell? ⟨L, 1, none⟩ = some (.int .u64 b) ∧ W.cell? ⟨L, 2, none⟩ = some (.slice (some ⟨B, 0, none⟩) N N)) [] (by kernel_rfl) ?_
      refine wpAnyU_take (i := 0) [1, 2, 3, 12, 13, 14, 15, 16, 18, 19, 20] rfl (by as_aux_lemma => kernel_rfl) (by as_aux_lemma => kernel_rfl) (by as_aux_lemma => kernel_rfl) (by as_aux_lemma => kernel_rfl) (by as_aux_lemma => kernel_rfl) (by as_aux_lemma => kernel_rfl) (fun _ _ _ h => h) (Or.inl ⟨by rfl, (by intro W hSW; (try dsimp only at hSW); (try go_split_ands); go_simp <;> with_reducible rfl)⟩) hS0 ?_
      try simp only [Act.put, List.getElem_toArray, List.getElem_cons_succ, List.getElem_cons_zero, List.setIfInBounds_toArray, List.set_cons_zero, List.set_cons_succ]
      refine wpAnyU_take (i := 1) [2, 3, 12, 13, 14, 15, 16, 18, 19, 20] rfl (by as_aux_lemma => kernel_rfl) (by as_aux_lemma => kernel_rfl) (by as_aux_lemma => kernel_rfl) (by as_aux_lemma => kernel_rfl) (by as_aux_lemma => kernel_rfl) (by as_aux_lemma => kernel_rfl) (fun _ _ _ h => h) (Or.inl ⟨by rfl, (by intro W hSW; (try dsimp only at hSW); (try go_split_ands); go_simp <;> with_reducible rfl)⟩) hS0 ?_
      try simp only [Act.put, List.getElem_toArray, List.getElem_cons_succ, List.getElem_cons_zero, List.setIfInBounds_toArray, List.set_cons_zero, List.set_cons_succ]
      refine wpAnyU_take (i := 2) [3, 12, 13, 14, 15, 16, 18, 19, 20] rfl (by as_aux_lemma => kernel_rfl) (by as_aux_lemma => kernel_rfl) (by as_aux_lemma => kernel_rfl) (by as_aux_lemma => kernel_rfl) (by as_aux_lemma => kernel_rfl) (by as_aux_lemma => kernel_rfl) (fun _ _ _ h => h) (Or.inl ⟨by rfl, (by intro W hSW; (try dsimp only at hSW); (try go_split_ands); go_simp <;> with_reducible rfl)⟩) hS0 ?_
      try simp only [Act.put, List.getElem_toArray, List.getElem_cons_succ, List.getElem_cons_zero, List.setIfInBounds_toArray, List.set_cons_zero, List.set_cons_succ]
      refine wpAnyU_take (i := 3) [12, 13, 14, 15, 16, 18, 19, 20] rfl (by as_aux_lemma => kernel_rfl) (by as_aux_lemma => kernel_rfl) (by as_aux_lemma => kernel_rfl) (by as_aux_lemma => kernel_rfl) (by as_aux_lemma => kernel_rfl) (by as_aux_lemma => kernel_rfl) (fun _ _ _ h => h) (Or.inl ⟨by rfl, (by intro W hSW; (try dsimp only at hSW); (try go_split_ands); go_simp <;> with_reducible rfl)⟩) hS0 ?_
      try simp only [Act.put, List.getElem_toArray, List.getElem_cons_succ, List.getElem_cons_zero, List.setIfInBounds_toArray, List.set_cons_zero, List.set_cons_succ]
      refine wpAnyU_take (i := 4) [12, 13, 14, 15, 16, 18, 19, 20] rfl (by as_aux_lemma => kernel_rfl) (by as_aux_lemma => kernel_rfl) (by as_aux_lemma => kernel_rfl) (by as_aux_lemma => kernel_rfl) (by as_aux_lemma => kernel_rfl) (by as_aux_lemma => kernel_rfl) (fun _ _ _ h => h) (Or.inl ⟨by rfl, (by intro W hSW; (try dsimp only at hSW); (try go_split_ands); go_simp <;> with_reducible rfl)⟩) hS0 ?_
      try simp only [Act.put, List.getElem_toArray, List.getElem_cons_succ, List.getElem_cons_zero, List.setIfInBounds_toArray, List.set_cons_zero, List.set_cons_succ]
      refine wpAnyU_take (i := 5) [6, 7, 8, 11, 12, 13, 14, 15, 16, 18, 19, 20] rfl (by as_aux_lemma => kernel_rfl) (by as_aux_lemma => kernel_rfl) (by as_aux_lemma => kernel_rfl) (by as_aux_lemma => kernel_rfl) (by as_aux_lemma => kernel_rfl) (by as_aux_lemma => kernel_rfl) (fun _ _ _ h => h) (Or.inl ⟨by rfl, (by intro W hSW; (try dsimp only at hSW); (try go_split_ands); go_simp <;> with_reducible rfl)⟩) hS0 ?_
      try simp only [Act.put, List.getElem_toArray, List.getElem_cons_succ, List.getElem_cons_zero, List.setIfInBounds_toArray, List.set_cons_zero, List.set_cons_succ]
      refine wpAnyU_take (i := 6) [7, 8, 11, 12, 13, 14, 15, 16, 18, 19, 20] rfl (by as_aux_lemma => kernel_rfl) (by as_aux_lemma => kernel_rfl) (by as_aux_lemma => kernel_rfl) (by as_aux_lemma => kernel_rfl) (by as_aux_lemma => kernel_rfl) (by as_aux_lemma => kernel_rfl) (fun _ _ _ h => h) (Or.inl ⟨by rfl, (by intro W hSW; (try dsimp only at hSW); (try go_split_ands); go_simp <;> with_reducible rfl)⟩) hS0 ?_
      try simp only [Act.put, List.getElem_toArray, List.getElem_cons_succ, List.getElem_cons_zero, List.setIfInBounds_toArray, List.set_cons_zero, List.set_cons_succ]
      refine wpAnyU_take (i := 7) [8, 11, 12, 13, 14, 15, 16, 18, 19, 20] rfl (by as_aux_lemma => kernel_rfl) (by as_aux_lemma => kernel_rfl) (by as_aux_lemma => kernel_rfl) (by as_aux_lemma => kernel_rfl) (by as_aux_lemma => kernel_rfl) (by as_aux_lemma => kernel_rfl) (fun _ _ _ h => h) (Or.inl ⟨by rfl, (by intro W hSW; (try dsimp only at hSW); (try go_split_ands); go_simp <;> with_reducible rfl)⟩) hS0 ?_
      try simp only [Act.put, List.getElem_toArray, List.getElem_cons_succ, List.getElem_cons_zero, List.setIfInBounds_toArray, List.set_cons_zero, List.set_cons_succ]
      refine wpAnyU_take (i := 8) [11, 12, 13, 14, 15, 16, 18, 19, 20] rfl (by as_aux_lemma => kernel_rfl) (by as_aux_lemma => kernel_rfl) (by as_aux_lemma => kernel_rfl) (by as_aux_lemma => kernel_rfl) (by as_aux_lemma => kernel_rfl) (by as_aux_lemma => kernel_rfl) (fun _ _ _ h => h) (Or.inl ⟨by rfl, (by intro W hSW; (try dsimp only at hSW); (try go_split_ands); go_simp <;> with_reducible rfl)⟩) hS0 ?_
      try simp only [Act.put, List.getElem_toArray, List.getElem_cons_succ, List.getElem_cons_zero, List.setIfInBounds_toArray, List.set_cons_zero, List.set_cons_succ]
      refine wpAnyU_take (i := 9) [10, 11, 12, 13, 14, 15, 16, 18, 19, 20] rfl (by as_aux_lemma => kernel_rfl) (by as_aux_lemma => kernel_rfl) (by as_aux_lemma => kernel_rfl) (by as_aux_lemma => kernel_rfl) (by as_aux_lemma => kernel_rfl) (by as_aux_lemma => kernel_rfl) (fun _ _ _ h => h) (Or.inl ⟨by rfl, (by intro W hSW; (try dsimp only at hSW); (try go_split_ands); go_simp <;> with_reducible rfl)⟩) hS0 ?_
      try simp only [Act.put, List.getElem_toArray, List.getElem_cons_succ, List.getElem_cons_zero, List.setIfInBounds_toArray, List.set_cons_zero, List.set_cons_succ]
      refine wpAnyU_take (i := 10) [11, 12, 13, 14, 15, 16, 18, 19, 20] rfl (by as_aux_lemma => kernel_rfl) (by as_aux_lemma => kernel_rfl) (by as_aux_lemma => kernel_rfl) (by as_aux_lemma => kernel_rfl) (by as_aux_lemma => kernel_rfl) (by as_aux_lemma => kernel_rfl) (fun _ _ _ h => h) (Or.inl ⟨by rfl, (by intro W hSW; (try dsimp only at hSW); (try go_split_ands); go_simp <;> with_reducible rfl)⟩) hS0 ?_
      try simp only [Act.put, List.getElem_toArray, List.getElem_cons_succ, List.getElem_cons_zero, List.setIfInBounds_toArray, List.set_cons_zero, List.set_cons_succ]
      refine wpAnyU_take (i := 11) [12, 13, 14, 15, 16, 18, 19, 20] rfl (by as_aux_lemma => kernel_rfl) (by as_aux_lemma => kernel_rfl) (by as_aux_lemma => kernel_rfl) (by as_aux_lemma => kernel_rfl) (by as_aux_lemma => kernel_rfl) (by as_aux_lemma => kernel_rfl) (fun _ _ _ h => h) (Or.inl ⟨by rfl, (by intro W hSW; (try dsimp only at hSW); (try go_split_ands); go_simp <;> with_reducible rfl)⟩) hS0 ?_
      try simp only [Act.put, List.getElem_toArray, List.getElem_cons_succ, List.getElem_cons_zero, List.setIfInBounds_toArray, List.set_cons_zero, List.set_cons_succ]
      refine wpAnyU_two (i := 12) (j := 17) (by kernel_rfl) rfl rfl (fun K hK => ?_) (fun K hK => ?_)
      · go_simp
        go_at_call 11
        (with_reducible refine (HBD.out _ hbc).mono ?_)
        rintro e w5 ⟨x2, rfl, hrec, hb5⟩
        obtain ⟨da, dn, dc, ca, cn, cc, e1, e2, -⟩ := hrec.open
        unfold rval
        rw [e1, e2]
        try have hgk := (hb5.block _ (lt_of_block hgk)).trans hgk
        have hbc := hbc.trans (hb5.mono hbc.size)
        have hS := HSG.out _ hbc
        clear hrec hb5 e1 e2 HBD
        refine hK.out _ _ (fun _ => hS) (fun _ => ?_)
        clear hK K
        try simp only [Act.put, List.getElem_toArray, List.getElem_cons_succ, List.getElem_cons_zero, List.setIfInBounds_toArray, List.set_cons_zero, List.set_cons_succ]
        refine wpAnyU_take (i := 13) [14, 15, 16, 18, 19, 20] rfl (by as_aux_lemma => kernel_rfl) (by as_aux_lemma => kernel_rfl) (by as_aux_lemma => kernel_rfl) (by as_aux_lemma => kernel_rfl) (by as_aux_lemma => kernel_rfl) (by as_aux_lemma => kernel_rfl) (fun _ _ _ h => h) (Or.inl ⟨by rfl, (by intro W hSW; (try dsimp only at hSW); (try go_split_ands); go_simp <;> with_reducible rfl)⟩) hS ?_
        try simp only [Act.put, List.getElem_toArray, List.getElem_cons_succ, List.getElem_cons_zero, List.setIfInBounds_toArray, List.set_cons_zero, List.set_cons_succ]
        refine wpAnyU_take (i := 14) [18, 19, 20] rfl (by as_aux_lemma => kernel_rfl) (by as_aux_lemma => kernel_rfl) (by as_aux_lemma => kernel_rfl) (by as_aux_lemma => kernel_rfl) (by as_aux_lemma => kernel_rfl) (by as_aux_lemma => kernel_rfl) (fun _ _ _ h => h) (Or.inl ⟨by rfl, (by intro W hSW; (try dsimp only at hSW); (try go_split_ands); go_simp <;> with_reducible rfl)⟩) hS ?_
        try simp only [Act.put, List.getElem_toArray, List.getElem_cons_succ, List.getElem_cons_zero, List.setIfInBounds_toArray, List.set_cons_zero, List.set_cons_succ]
        refine wpAnyU_take (i := 15) [19, 20] rfl (by as_aux_lemma => kernel_rfl) (by as_aux_lemma => kernel_rfl) (by as_aux_lemma => kernel_rfl) (by as_aux_lemma => kernel_rfl) (by as_aux_lemma => kernel_rfl) (by as_aux_lemma => kernel_rfl) (fun _ _ _ h => h) (Or.inl ⟨by rfl, (by intro W hSW; (try dsimp only at hSW); (try go_split_ands); go_simp <;> with_reducible rfl)⟩) hS ?_
        try simp only [Act.put, List.getElem_toArray, List.getElem_cons_succ, List.getElem_cons_zero, List.setIfInBounds_toArray, List.set_cons_zero, List.set_cons_succ]
        refine wpAnyU_take (i := 16) [20] rfl (by as_aux_lemma => kernel_rfl) (by as_aux_lemma => kernel_rfl) (by as_aux_lemma => kernel_rfl) (by as_aux_lemma => kernel_rfl) (by as_aux_lemma => kernel_rfl) (by as_aux_lemma => kernel_rfl) (fun _ _ _ h => h) (Or.inl ⟨by rfl, (by intro W hSW; (try dsimp only at hSW); (try go_split_ands); go_simp <;> with_reducible rfl)⟩) hS ?_
        try simp only [Act.put, List.getElem_toArray, List.getElem_cons_succ, List.getElem_cons_zero, List.setIfInBounds_toArray, List.set_cons_zero, List.set_cons_succ]
        refine wpAnyU_one (i := 17) (by kernel_rfl) rfl (fun K hK => ?_)
        go_simp
        first
          | (have hgk := heap_alloc_new w5 (.cells #[.int .i64 0, .int .u64 0, .int .u64 0, .int .u64 0, .slice none 0 0, .slice none 0 0] 26); have hgle : wr.heap.size ≤ w5.heap.size := hbc.size; have hbc := hbc.alloc hbc.size (.cells #[.int .i64 0, .int .u64 0, .int .u64 0, .int .u64 0, .slice none 0 0, .slice none 0 0] 26))
          | (have hgk : ((wr.alloc (.cells #[.int .i64 0, .int .u64 0, .int .u64 0, .int .u64 0, .slice none 0 0, .slice none 0 0] 26)).drew).heap[wr.heap.size]? = some (.cells #[.int .i64 0, .int .u64 0, .int .u64 0, .int .u64 0, .slice none 0 0, .slice none 0 0] 26 (0, 0)) := heap_alloc_new wr (.cells #[.int .i64 0, .int .u64 0, .int .u64 0, .int .u64 0, .slice none 0 0, .slice none 0 0] 26); have hgle : wr.heap.size ≤ wr.heap.size := Nat.le_refl _; have hbc : Below wr.heap.size wr (wr.alloc (.cells #[.int .i64 0, .int .u64 0, .int .u64 0, .int .u64 0, .slice none 0 0, .slice none 0 0] 26)).drew := below_drewN ((Below.refl _ _).alloc (Nat.le_refl _) (.cells #[.int .i64 0, .int .u64 0, .int .u64 0, .int .u64 0, .slice none 0 0, .slice none 0 0] 26)) 1)
        have hS := HSG.out _ hbc
        refine hK.out _ _ (fun _ => hS) (fun _ => ?_)
        clear hK K
        try simp only [Act.put, List.getElem_toArray, List.getElem_cons_succ, List.getElem_cons_zero, List.setIfInBounds_toArray, List.set_cons_zero, List.set_cons_succ]
        refine wpAnyU_one (i := 18) (by kernel_rfl) rfl (fun K hK => ?_)
        refine step_store_is rfl _ _ _ rfl _ (rcs r (.slice da dn dc) (.slice ca cn cc)) rfl rfl _ _ hgk infoR rfl (by simp [rcs, Value.oneCell']) ?_
        have hbc := below_setRow (cs := rcs r (.slice da dn dc) (.slice ca cn cc)) hbc hgle
        clear hgk hgle
        generalize World.setRow _ _ _ = w6 at hbc ⊢
        have hS := HSG.out _ hbc
        refine hK.out _ _ (fun _ => hS) (fun _ => ?_)
        clear hK K
        try simp only [Act.put, List.getElem_toArray, List.getElem_cons_succ, List.getElem_cons_zero, List.setIfInBounds_toArray, List.set_cons_zero, List.set_cons_succ]
        refine wpAnyU_take (i := 19) [20] rfl (by as_aux_lemma => kernel_rfl) (by as_aux_lemma => kernel_rfl) (by as_aux_lemma => kernel_rfl) (by as_aux_lemma => kernel_rfl) (by as_aux_lemma => kernel_rfl) (by as_aux_lemma => kernel_rfl) (fun _ _ _ h => h) (Or.inl ⟨by rfl, (by intro W hSW; (try dsimp only at hSW); (try go_split_ands); go_simp <;> with_reducible rfl)⟩) hS ?_
        try simp only [Act.put, List.getElem_toArray, List.getElem_cons_succ, List.getElem_cons_zero, List.setIfInBounds_toArray, List.set_cons_zero, List.set_cons_succ]
        refine wpAnyU_take (i := 20) [] rfl (by as_aux_lemma => kernel_rfl) (by as_aux_lemma => kernel_rfl) (by as_aux_lemma => kernel_rfl) (by as_aux_lemma => kernel_rfl) (by as_aux_lemma => kernel_rfl) (by as_aux_lemma => kernel_rfl) (fun _ _ _ h => h) (Or.inl ⟨by rfl, (by intro W hSW; (try dsimp only at hSW); (try go_split_ands); go_simp <;> with_reducible rfl)⟩) hS ?_
        try simp only [Act.put, List.getElem_toArray, List.getElem_cons_succ, List.getElem_cons_zero, List.setIfInBounds_toArray, List.set_cons_zero, List.set_cons_succ]
        refine wpAnyU_done (by kernel_rfl) ?_ _
        obtain ⟨hbr, kr, obr, osr, hLr, hneS, hi, ho, hp, h1, h2, hLN⟩ := HR.out
        have k6 := HKW.out _ hbc
        have os6 : w6.ownsRow w.heap.size 3 1 (.slice sa i sc) i (iv (offs 0 (rs.take i))) := ownsRow_keep osr (fun k e => hbc.block k (osr.lt k e).2)
        have ob6 : OwnB w6 w.heap.size 5 (.slice (some ⟨B, 0, none⟩) N N) dm.log := ownB_same obr (fun k e => hbc.block k (obr.lt k e).2)
        have hb6 : Below w.heap.size w w6 := hbr.trans (hbc.mono hbr.size)
        have hi24 : i < 16777216 := by have h3 := lenL_len rs; have h4 : lenL rs ≤ 16777216 := HWF.out.len; omega
        obtain ⟨R, cp, w7, hr7, ho7, hg7, hor7, hlt7⟩ := push_int (w := w6) (ty := 84) o os6 hb6.size hi24
        have hb7 : Below w.heap.size w w7 := (hb6.alloc hb6.size _).grown hg7 (by have := hb6.size; simp; omega) (fun k hk => (os6.lt k hk).1)
        have hL6 : L < w6.heap.size := lt_of_block k6
        have hB6 : B < w6.heap.size := (ob6.lt B rfl).2
        have kA : (w6.alloc (.cells #[.int .i64 o] 3)).heap[L]? = some (.cells #[.pointer (some ⟨D, 0, none⟩), .int .u64 b, .slice (some ⟨B, 0, none⟩) N N, .slice sa i sc, .int .i64 0, .int .u64 c] 86 (0, 0)) := (heap_alloc_old _ _ hL6).trans k6
        have k7 : w7.heap[L]? = some (.cells #[.pointer (some ⟨D, 0, none⟩), .int .u64 b, .slice (some ⟨B, 0, none⟩) N N, .slice sa i sc, .int .i64 0, .int .u64 c] 86 (0, 0)) := (hg7.block L (by simp; omega) (fun e => hneS e.symm)).trans kA
        have c3 : w6.cell? ⟨L, 3, none⟩ = some (.slice sa i sc) := cell_of_row _ _ 3 _ _ _ k6
        have c37 : w7.cell? ⟨L, 3, none⟩ = some (.slice sa i sc) := cell_of_row _ _ 3 _ _ _ k7
        have f7 : w7.frozen? ⟨L, 3, none⟩ = false := by simp [World.frozen?, k7]
        obtain ⟨w8, hw8⟩ : ∃ w8, w7.setCell ⟨L, 3, none⟩ (.slice (some ⟨R, 0, none⟩) (i + 1) cp) = w8 := ⟨_, rfl⟩
        have k8 : w8.heap[L]? = some (.cells #[.pointer (some ⟨D, 0, none⟩), .int .u64 b, .slice (some ⟨B, 0, none⟩) N N, .slice (some ⟨R, 0, none⟩) (i + 1) cp, .int .i64 0, .int .u64 c] 86 (0, 0)) := by rw [← hw8]; exact block_setCell k7 _
        have hRL : R ≠ L := by
          rcases hor7 with h9 | h9
          · rintro rfl; exact hneS h9
          · omega
        have hBS : (Value.slice sa i sc).ownBlock ≠ some B := fun e => by
          obtain ⟨cu, hcu⟩ := ownsRow_blk os6 e
          obtain ⟨cv, hcv⟩ := ownsRow_blk ob6 (k := B) rfl
          exact blk_ne hcu hcv (by decide) rfl
        have hBL : B ≠ L := by
          rintro rfl
          obtain ⟨cv, hcv⟩ := ownsRow_blk ob6 (k := B) rfl
          exact blk_ne k6 hcv (by decide) rfl
        have h8 : Hid ((i + 1 : Nat) ≤ rs.length ∧ Below w.heap.size w w8 ∧ w8.heap[L]? = some (.cells #[.pointer (some ⟨D, 0, none⟩), .int .u64 b, .slice (some ⟨B, 0, none⟩) N N, .slice (some ⟨R, 0, none⟩) (i + 1) cp, .int .i64 0, .int .u64 c] 86 (0, 0)) ∧
            OwnB w8 w.heap.size 5 (.slice (some ⟨B, 0, none⟩) N N) dm.log ∧ w8.ownsRow w.heap.size 3 1 (.slice (some ⟨R, 0, none⟩) (i + 1) cp) (i + 1) (iv (offs 0 (rs.take (i + 1))))) := by
          refine ⟨hi, ?_, k8, ?_, ?_⟩
          · rw [← hw8]; exact hb7.setCell (by have := HLB.out.1; simp; omega) _
          · exact ownB_same ob6 (fun k e => by
              simp only [Value.ownBlock, Option.some.injEq] at e
              subst e
              rw [← hw8, block_setCell_ne _ hBL, hg7.block _ (by simp; omega) (fun e2 => hBS e2.symm), heap_alloc_old _ _ hB6])
          · rw [take_snoc rs i hi, offs_snoc, Nat.zero_add, ho]
            exact ownsRow_keep ho7 (fun k e => by
              simp only [Value.ownBlock, Option.some.injEq] at e
              subst e
              rw [← hw8]
              exact block_setCell_ne _ hRL)
        have HR7 := Lib.hid hr7
        clear hS hbc hbr kr obr osr hLr hneS hi hp ho h2 hLN k6 os6 ob6 hb6 hr7 ho7 hg7 hor7 hlt7 hb7 hL6 hB6 kA k7 k8 hRL hBS hBL hi24
        go_wp2_with (at_builtin; refine wpList_append_eq rfl rfl HR7.out rfl rfl ?_)
        go_roundw
        case rel =>
          obtain ⟨hbr, kr, obr, osr, hLr, hneS, hi, ho, hp, h1, h2, hLN⟩ := HR.out
          exact ⟨i + 1, some ⟨R, 0, none⟩, cp, by rw [hp], h8.out⟩
        case measure => have := h1; obtain ⟨hbr, kr, obr, osr, hLr, hneS, hi, ho, hp, h1, h2, hLN⟩ := HR.out; simp [intOf, ho]; omega
      · go_simp
        first
          | (have hgk := heap_alloc_new w5 (.cells #[.int .i64 0, .int .u64 0, .int .u64 0, .int .u64 0, .slice none 0 0, .slice none 0 0] 26); have hgle : wr.heap.size ≤ w5.heap.size := hbc.size; have hbc := hbc.alloc hbc.size (.cells #[.int .i64 0, .int .u64 0, .int .u64 0, .int .u64 0, .slice none 0 0, .slice none 0 0] 26))
          | (have hgk : ((wr.alloc (.cells #[.int .i64 0, .int .u64 0, .int .u64 0, .int .u64 0, .slice none 0 0, .slice none 0 0] 26)).drew).heap[wr.heap.size]? = some (.cells #[.int .i64 0, .int .u64 0, .int .u64 0, .int .u64 0, .slice none 0 0, .slice none 0 0] 26 (0, 0)) := heap_alloc_new wr (.cells #[.int .i64 0, .int .u64 0, .int .u64 0, .int .u64 0, .slice none 0 0, .slice none 0 0] 26); have hgle : wr.heap.size ≤ wr.heap.size := Nat.le_refl _; have hbc : Below wr.heap.size wr (wr.alloc (.cells #[.int .i64 0, .int .u64 0, .int .u64 0, .int .u64 0, .slice none 0 0, .slice none 0 0] 26)).drew := below_drewN ((Below.refl _ _).alloc (Nat.le_refl _) (.cells #[.int .i64 0, .int .u64 0, .int .u64 0, .int .u64 0, .slice none 0 0, .slice none 0 0] 26)) 1)
        have hS := HSG.out _ hbc
        refine hK.out _ _ (fun _ => hS) (fun _ => ?_)
        clear hK K
        try simp only [Act.put, List.getElem_toArray, List.getElem_cons_succ, List.getElem_cons_zero, List.setIfInBounds_toArray, List.set_cons_zero, List.set_cons_succ]
        refine wpAnyU_one (i := 12) (by kernel_rfl) rfl (fun K hK => ?_)
        go_simp
        go_at_call 11
        (with_reducible refine (HBD.out _ hbc).mono ?_)
        rintro e w5 ⟨x2, rfl, hrec, hb5⟩
        obtain ⟨da, dn, dc, ca, cn, cc, e1, e2, -⟩ := hrec.open
        unfold rval
        rw [e1, e2]
        try have hgk := (hb5.block _ (lt_of_block hgk)).trans hgk
        have hbc := hbc.trans (hb5.mono hbc.size)
        have hS := HSG.out _ hbc
        clear hrec hb5 e1 e2 HBD
        refine hK.out _ _ (fun _ => hS) (fun _ => ?_)
        clear hK K
        try simp only [Act.put, List.getElem_toArray, List.getElem_cons_succ, List.getElem_cons_zero, List.setIfInBounds_toArray, List.set_cons_zero, List.set_cons_succ]
        refine wpAnyU_take (i := 13) [14, 15, 16, 18, 19, 20] rfl (by as_aux_lemma => kernel_rfl) (by as_aux_lemma => kernel_rfl) (by as_aux_lemma => kernel_rfl) (by as_aux_lemma => kernel_rfl) (by as_aux_lemma => kernel_rfl) (by as_aux_lemma => kernel_rfl) (fun _ _ _ h => h) (Or.inl ⟨by rfl, (by intro W hSW; (try dsimp only at hSW); (try go_split_ands); go_simp <;> with_reducible rfl)⟩) hS ?_
        try simp only [Act.put, List.getElem_toArray, List.getElem_cons_succ, List.getElem_cons_zero, List.setIfInBounds_toArray, List.set_cons_zero, List.set_cons_succ]
        refine wpAnyU_take (i := 14) [18, 19, 20] rfl (by as_aux_lemma => kernel_rfl) (by as_aux_lemma => kernel_rfl) (by as_aux_lemma => kernel_rfl) (by as_aux_lemma => kernel_rfl) (by as_aux_lemma => kernel_rfl) (by as_aux_lemma => kernel_rfl) (fun _ _ _ h => h) (Or.inl ⟨by rfl, (by intro W hSW; (try dsimp only at hSW); (try go_split_ands); go_simp <;> with_reducible rfl)⟩) hS ?_
        try simp only [Act.put, List.getElem_toArray, List.getElem_cons_succ, List.getElem_cons_zero, List.setIfInBounds_toArray, List.set_cons_zero, List.set_cons_succ]
        refine wpAnyU_take (i := 15) [19, 20] rfl (by as_aux_lemma => kernel_rfl) (by as_aux_lemma => kernel_rfl) (by as_aux_lemma => kernel_rfl) (by as_aux_lemma => kernel_rfl) (by as_aux_lemma => kernel_rfl) (by as_aux_lemma => kernel_rfl) (fun _ _ _ h => h) (Or.inl ⟨by rfl, (by intro W hSW; (try dsimp only at hSW); (try go_split_ands); go_simp <;> with_reducible rfl)⟩) hS ?_
        try simp only [Act.put, List.getElem_toArray, List.getElem_cons_succ, List.getElem_cons_zero, List.setIfInBounds_toArray, List.set_cons_zero, List.set_cons_succ]
        refine wpAnyU_take (i := 16) [20] rfl (by as_aux_lemma => kernel_rfl) (by as_aux_lemma => kernel_rfl) (by as_aux_lemma => kernel_rfl) (by as_aux_lemma => kernel_rfl) (by as_aux_lemma => kernel_rfl) (by as_aux_lemma => kernel_rfl) (fun _ _ _ h => h) (Or.inl ⟨by rfl, (by intro W hSW; (try dsimp only at hSW); (try go_split_ands); go_simp <;> with_reducible rfl)⟩) hS ?_
        try simp only [Act.put, List.getElem_toArray, List.getElem_cons_succ, List.getElem_cons_zero, List.setIfInBounds_toArray, List.set_cons_zero, List.set_cons_succ]
        refine wpAnyU_one (i := 18) (by kernel_rfl) rfl (fun K hK => ?_)
        refine step_store_is rfl _ _ _ rfl _ (rcs r (.slice da dn dc) (.slice ca cn cc)) rfl rfl _ _ hgk infoR rfl (by simp [rcs, Value.oneCell']) ?_
        have hbc := below_setRow (cs := rcs r (.slice da dn dc) (.slice ca cn cc)) hbc hgle
        clear hgk hgle
        generalize World.setRow _ _ _ = w6 at hbc ⊢
        have hS := HSG.out _ hbc
        refine hK.out _ _ (fun _ => hS) (fun _ => ?_)
        clear hK K
        try simp only [Act.put, List.getElem_toArray, List.getElem_cons_succ, List.getElem_cons_zero, List.setIfInBounds_toArray, List.set_cons_zero, List.set_cons_succ]
        refine wpAnyU_take (i := 19) [20] rfl (by as_aux_lemma => kernel_rfl) (by as_aux_lemma => kernel_rfl) (by as_aux_lemma => kernel_rfl) (by as_aux_lemma => kernel_rfl) (by as_aux_lemma => kernel_rfl) (by as_aux_lemma => kernel_rfl) (fun _ _ _ h => h) (Or.inl ⟨by rfl, (by intro W hSW; (try dsimp only at hSW); (try go_split_ands); go_simp <;> with_reducible rfl)⟩) hS ?_
        try simp only [Act.put, List.getElem_toArray, List.getElem_cons_succ, List.getElem_cons_zero, List.setIfInBounds_toArray, List.set_cons_zero, List.set_cons_succ]
        refine wpAnyU_take (i := 20) [] rfl (by as_aux_lemma => kernel_rfl) (by as_aux_lemma => kernel_rfl) (by as_aux_lemma => kernel_rfl) (by as_aux_lemma => kernel_rfl) (by as_aux_lemma => kernel_rfl) (by as_aux_lemma => kernel_rfl) (fun _ _ _ h => h) (Or.inl ⟨by rfl, (by intro W hSW; (try dsimp only at hSW); (try go_split_ands); go_simp <;> with_reducible rfl)⟩) hS ?_
        try simp only [Act.put, List.getElem_toArray, List.getElem_cons_succ, List.getElem_cons_zero, List.setIfInBounds_toArray, List.set_cons_zero, List.set_cons_succ]
        refine wpAnyU_done (by kernel_rfl) ?_ _
        obtain ⟨hbr, kr, obr, osr, hLr, hneS, hi, ho, hp, h1, h2, hLN⟩ := HR.out
        have k6 := HKW.out _ hbc
        have os6 : w6.ownsRow w.heap.size 3 1 (.slice sa i sc) i (iv (offs 0 (rs.take i))) := ownsRow_keep osr (fun k e => hbc.block k (osr.lt k e).2)
        have ob6 : OwnB w6 w.heap.size 5 (.slice (some ⟨B, 0, none⟩) N N) dm.log := ownB_same obr (fun k e => hbc.block k (obr.lt k e).2)
        have hb6 : Below w.heap.size w w6 := hbr.trans (hbc.mono hbr.size)
        have hi24 : i < 16777216 := by have h3 := lenL_len rs; have h4 : lenL rs ≤ 16777216 := HWF.out.len; omega
        obtain ⟨R, cp, w7, hr7, ho7, hg7, hor7, hlt7⟩ := push_int (w := w6) (ty := 84) o os6 hb6.size hi24
        have hb7 : Below w.heap.size w w7 := (hb6.alloc hb6.size _).grown hg7 (by have := hb6.size; simp; omega) (fun k hk => (os6.lt k hk).1)
        have hL6 : L < w6.heap.size := lt_of_block k6
        have hB6 : B < w6.heap.size := (ob6.lt B rfl).2
        have kA : (w6.alloc (.cells #[.int .i64 o] 3)).heap[L]? = some (.cells #[.pointer (some ⟨D, 0, none⟩), .int .u64 b, .slice (some ⟨B, 0, none⟩) N N, .slice sa i sc, .int .i64 0, .int .u64 c] 86 (0, 0)) := (heap_alloc_old _ _ hL6).trans k6
        have k7 : w7.heap[L]? = some (.cells #[.pointer (some ⟨D, 0, none⟩), .int .u64 b, .slice (some ⟨B, 0, none⟩) N N, .slice sa i sc, .int .i64 0, .int .u64 c] 86 (0, 0)) := (hg7.block L (by simp; omega) (fun e => hneS e.symm)).trans kA
        have c3 : w6.cell? ⟨L, 3, none⟩ = some (.slice sa i sc) := cell_of_row _ _ 3 _ _ _ k6
        have c37 : w7.cell? ⟨L, 3, none⟩ = some (.slice sa i sc) := cell_of_row _ _ 3 _ _ _ k7
        have f7 : w7.frozen? ⟨L, 3, none⟩ = false := by simp [World.frozen?, k7]
        obtain ⟨w8, hw8⟩ : ∃ w8, w7.setCell ⟨L, 3, none⟩ (.slice (some ⟨R, 0, none⟩) (i + 1) cp) = w8 := ⟨_, rfl⟩
        have k8 : w8.heap[L]? = some (.cells #[.pointer (some ⟨D, 0, none⟩), .int .u64 b, .slice (some ⟨B, 0, none⟩) N N, .slice (some ⟨R, 0, none⟩) (i + 1) cp, .int .i64 0, .int .u64 c] 86 (0, 0)) := by rw [← hw8]; exact block_setCell k7 _
        have hRL : R ≠ L := by
          rcases hor7 with h9 | h9
          · rintro rfl; exact hneS h9
          · omega
        have hBS : (Value.slice sa i sc).ownBlock ≠ some B := fun e => by
          obtain ⟨cu, hcu⟩ := ownsRow_blk os6 e
          obtain ⟨cv, hcv⟩ := ownsRow_blk ob6 (k := B) rfl
          exact blk_ne hcu hcv (by decide) rfl
        have hBL : B ≠ L := by
          rintro rfl
          obtain ⟨cv, hcv⟩ := ownsRow_blk ob6 (k := B) rfl
          exact blk_ne k6 hcv (by decide) rfl
        have h8 : Hid ((i + 1 : Nat) ≤ rs.length ∧ Below w.heap.size w w8 ∧ w8.heap[L]? = some (.cells #[.pointer (some ⟨D, 0, none⟩), .int .u64 b, .slice (some ⟨B, 0, none⟩) N N, .slice (some ⟨R, 0, none⟩) (i + 1) cp, .int .i64 0, .int .u64 c] 86 (0, 0)) ∧
            OwnB w8 w.heap.size 5 (.slice (some ⟨B, 0, none⟩) N N) dm.log ∧ w8.ownsRow w.heap.size 3 1 (.slice (some ⟨R, 0, none⟩) (i + 1) cp) (i + 1) (iv (offs 0 (rs.take (i + 1))))) := by
          refine ⟨hi, ?_, k8, ?_, ?_⟩
          · rw [← hw8]; exact hb7.setCell (by have := HLB.out.1; simp; omega) _
          · exact ownB_same ob6 (fun k e => by
              simp only [Value.ownBlock, Option.some.injEq] at e
              subst e
              rw [← hw8, block_setCell_ne _ hBL, hg7.block _ (by simp; omega) (fun e2 => hBS e2.symm), heap_alloc_old _ _ hB6])
          · rw [take_snoc rs i hi, offs_snoc, Nat.zero_add, ho]
            exact ownsRow_keep ho7 (fun k e => by
              simp only [Value.ownBlock, Option.some.injEq] at e
              subst e
              rw [← hw8]
              exact block_setCell_ne _ hRL)
        have HR7 := Lib.hid hr7
        clear hS hbc hbr kr obr osr hLr hneS hi hp ho h2 hLN k6 os6 ob6 hb6 hr7 ho7 hg7 hor7 hlt7 hb7 hL6 hB6 kA k7 k8 hRL hBS hBL hi24
        go_wp2_with (at_builtin; refine wpList_append_eq rfl rfl HR7.out rfl rfl ?_)
        go_roundw
        case rel =>
          obtain ⟨hbr, kr, obr, osr, hLr, hneS, hi, ho, hp, h1, h2, hLN⟩ := HR.out
          exact ⟨i + 1, some ⟨R, 0, none⟩, cp, by rw [hp], h8.out⟩
        case measure => have := h1; obtain ⟨hbr, kr, obr, osr, hLr, hneS, hi, ho, hp, h1, h2, hLN⟩ := HR.out; simp [intOf, ho]; omega
    · obtain rfl : i = rs.length := by omega
      have ho : lenL (rs.take rs.length) = lenL rs := by rw [List.take_length]
      rw [List.take_length] at osr
      rw [ho]
      clear ho hir hi hrd
      by_cases ht : tail = []
      · have hoN : lenL rs = N := by rw [ht] at hLN; simpa using hLN
        have hlog : dm.log = encL b rs := by rw [HDM.out.2.2.2.2.1, ht, List.append_nil]
        have hce : dm.certain = N := by rw [HDM.out.2.2.2.2.2.1]; exact HDM.out.2.2.2.2.2.2
        have hcr : ∀ k, Calls Try.prog 48 #[.pointer (some ⟨D, 0, none⟩)] (wr.drewN k) fun e w' => e = .returned (.int .i64 N) ∧ wr.drewN k = w' := fun k => by
          have h9 := d_certain (wr.drewN k) D F dm ((HDM.out.1.below hbr).drewN k)
          rw [hce] at h9
          exact h9
        have HCR := Lib.hid hcr
        have HX := Lib.hid (And.intro hbr (And.intro kr (And.intro obr (And.intro osr (And.intro hoN hlog)))))
        rw [hoN]
        clear hcr hce hlog hoN hLN ht hbr kr obr osr hLr hneS hbc hS0 hSg kW HSG HKW hb62
        go_upto_region 23 with (fail)
        go_quiet ((go_at_call 48; exact quiet_eq (HCR.out _)))
        obtain ⟨hbr, kr, obr, osr, hoN, hlog⟩ := HX.out
        have hb5 : Below w.heap.size w (wr.drewN nq) := below_drewN hbr nq
        have k5 : (wr.drewN nq).heap[L]? = some (.cells #[.pointer (some ⟨D, 0, none⟩), .int .u64 b, .slice (some ⟨B, 0, none⟩) N N, .slice sa rs.length sc, .int .i64 0, .int .u64 c] 86 (0, 0)) := kr
        have o5 : OwnB (wr.drewN nq) w.heap.size 5 (.slice (some ⟨B, 0, none⟩) N N) dm.log := obr
        have s5 : (wr.drewN nq).ownsRow w.heap.size 3 1 (.slice sa rs.length sc) rs.length (iv (offs 0 rs)) := osr
        obtain ⟨w5, hw5⟩ : ∃ w5, wr.drewN nq = w5 := ⟨_, rfl⟩
        rw [hw5] at hb5 k5 o5 s5 ⊢
        have e2 : w5.cell? ⟨L, 2, none⟩ = some (.slice (some ⟨B, 0, none⟩) N N) := cell_of_row _ _ 2 _ _ _ k5
        have e4 : w5.cell? ⟨L, 4, none⟩ = some (.int .i64 0) := cell_of_row _ _ 4 _ _ _ k5
        have g4 : w5.frozen? ⟨L, 4, none⟩ = false := by simp [World.frozen?, k5]
        obtain ⟨w6, hw6⟩ : ∃ w6, w5.setCell ⟨L, 4, none⟩ (.int .i64 N) = w6 := ⟨_, rfl⟩
        have k6 : w6.heap[L]? = some (.cells #[.pointer (some ⟨D, 0, none⟩), .int .u64 b, .slice (some ⟨B, 0, none⟩) N N, .slice sa rs.length sc, .int .i64 N, .int .u64 c] 86 (0, 0)) := by rw [← hw6]; exact block_setCell k5 _
        have hb6 : Below w.heap.size w w6 := by rw [← hw6]; exact hb5.setCell (by have := HLB.out.1; simp; omega) _
        have hne1 : B ≠ L := by
          rintro rfl
          obtain ⟨cv, hcv⟩ := ownsRow_blk o5 (k := B) rfl
          exact blk_ne k5 hcv (by decide) rfl
        have hne2 : (Value.slice sa rs.length sc).ownBlock ≠ some L := fun e => by
          obtain ⟨cu, hcu⟩ := ownsRow_blk s5 e
          exact blk_ne k5 hcu (by decide) rfl
        have hm6 : LMem w6 D L ⟨b, rs, lenL rs, c⟩ (.slice (some ⟨B, 0, none⟩) N N) (.slice sa rs.length sc) := by
          refine ⟨?_, ?_, ?_, HWF.out⟩
          · rw [hoN]; exact k6
          · have h9 : OwnB w6 w.heap.size 5 (.slice (some ⟨B, 0, none⟩) N N) dm.log := ownB_same o5 (fun k e => by
              simp only [Value.ownBlock, Option.some.injEq] at e
              subst e
              rw [← hw6]
              exact block_setCell_ne _ hne1)
            rw [hlog] at h9
            exact ownsRow_base h9 (fun _ _ => Nat.zero_le _)
          · exact ownsRow_keep (ownsRow_base s5 (fun _ _ => Nat.zero_le _)) (fun k e => by
              rw [← hw6]
              exact block_setCell_ne _ (fun e2 => hne2 (by rw [← e2]; exact e)))
        have hown : ∀ k, lfoot L (.slice (some ⟨B, 0, none⟩) N N) (.slice sa rs.length sc) k → w.heap.size ≤ k := fun k hk => by
          rcases hk with h1 | h1 | h1
          · have := HLB.out.1; omega
          · simp only [Value.ownBlock, Option.some.injEq] at h1; have := HLB.out.2; omega
          · exact (s5.lt k h1).1
        have hd6 : DiskAt w6 D (uf (lfoot L (.slice (some ⟨B, 0, none⟩) N N) (.slice sa rs.length sc)) E) F (openDM dm (lenL rs)) := by
          unfold openDM
          rw [if_pos (by rw [hoN]; exact HDM.out.2.2.2.2.2.2.symm)]
          exact HDM.out.1.grow hb6 (fun k hk => hk.elim (fun hk => .inr ⟨hown k hk, hm6.lt k hk⟩) .inl)
        have HF := Lib.hid (And.intro hd6 (And.intro hm6 (And.intro (Chg.of_below hb6 F) (fun k hk => And.intro (hown k hk) (hm6.lt k hk)))))
        clear hbr kr obr osr hoN hlog hb5 k5 o5 s5 k6 hb6 hne1 hne2 hm6 hown hd6 hw5 c2r
        go_wp2
        go_ret2
        exact ⟨_, _, _, _, rfl, ⟨HF.out.1, HF.out.2.1⟩, HF.out.2.2.1, HF.out.2.2.2⟩
      · have hoN : lenL rs < N := by
          have h1 : 0 < tail.length := List.length_pos_iff.2 ht
          omega
        have hbd := fun (W : World) (hb : Below wr.heap.size wr W) => HTL.out ht W (.slice (some ⟨B, 0, none⟩) N N) (RdB.below (OwnB.rd (F := NoF) obr (fun _ _ => noF _)) hb)
        have hlog : dm.log.take (lenL rs) = encL b rs := by rw [HDM.out.2.2.2.2.1, List.take_left' (encL_length _ _)]
        obtain ⟨o, ho⟩ : ∃ o, lenL rs = o := ⟨_, rfl⟩
        have hwo := HWF.out.len
        change lenL rs ≤ _ at hwo
        simp only [ho, Int.natCast_add] at hbd
        rw [ho] at hoN hlog hwo ⊢
        have hwf := HWF.out
        rw [ho] at hwf
        have t1 : (o : Int) < (N : Int) := by omega
        have o0 : (0 : Int) ≤ (o : Int) := by omega
        have v1 : IntKind.u64.wrap (o : Int) = (o : Int) := wrap_u64_nat _ (by omega)
        have v2 : IntKind.u64.wrap ((b : Int) + (o : Int)) = (b : Int) + (o : Int) := by
          have hb9 : b < 4611686018427387904 := hb62
          have := wrap_u64_nat (b + o) (by omega)
          push_cast at this
          exact this
        have htm := trim_eq HDM.out.2.2.2.1 HDM.out.2.2.1 o (by rw [HDM.out.2.2.2.2.2.2]; omega)
        have HBD := Lib.hid hbd
        have HTM := Lib.hid htm
        have HX := Lib.hid (And.intro hbr (And.intro kr (And.intro obr (And.intro osr (And.intro hoN (And.intro hlog (And.intro ho hwf)))))))
        clear hbd hlog ho hwf htm hoN hLN ht hbr kr obr osr hLr hneS hSg kW hb62 hwo
        go_upto_region 15 with (fail)
        clear c2r
        refine wp_region_U (fun W => W.cell? ⟨L, 1, none⟩ = some (.int .u64 b) ∧ W.cell? ⟨L, 2, none⟩ = some (.slice (some ⟨B, 0, none⟩) N N)) [] (by kernel_rfl) ?_
        refine wpAnyU_take (i := 0) [1, 2, 3, 12, 13, 14, 15, 16, 18, 19, 20] rfl (by as_aux_lemma => kernel_rfl) (by as_aux_lemma => kernel_rfl) (by as_aux_lemma => kernel_rfl) (by as_aux_lemma => kernel_rfl) (by as_aux_lemma => kernel_rfl) (by as_aux_lemma => kernel_rfl) (fun _ _ _ h => h) (Or.inl ⟨by rfl, (by intro W hSW; (try dsimp only at hSW); (try go_split_ands); go_simp <;> with_reducible rfl)⟩) hS0 ?_
        try simp only [Act.put, List.getElem_toArray, List.getElem_cons_succ, List.getElem_cons_zero, List.setIfInBounds_toArray, List.set_cons_zero, List.set_cons_succ]
        refine wpAnyU_take (i := 1) [2, 3, 12, 13, 14, 15, 16, 18, 19, 20] rfl (by as_aux_lemma => kernel_rfl) (by as_aux_lemma => kernel_rfl) (by as_aux_lemma => kernel_rfl) (by as_aux_lemma => kernel_rfl) (by as_aux_lemma => kernel_rfl) (by as_aux_lemma => kernel_rfl) (fun _ _ _ h => h) (Or.inl ⟨by rfl, (by intro W hSW; (try dsimp only at hSW); (try go_split_ands); go_simp <;> with_reducible rfl)⟩) hS0 ?_
        try simp only [Act.put, List.getElem_toArray, List.getElem_cons_succ, List.getElem_cons_zero, List.setIfInBounds_toArray, List.set_cons_zero, List.set_cons_succ]
        refine wpAnyU_take (i := 2) [3, 12, 13, 14, 15, 16, 18, 19, 20] rfl (by as_aux_lemma => kernel_rfl) (by as_aux_lemma => kernel_rfl) (by as_aux_lemma => kernel_rfl) (by as_aux_lemma => kernel_rfl) (by as_aux_lemma => kernel_rfl) (by as_aux_lemma => kernel_rfl) (fun _ _ _ h => h) (Or.inl ⟨by rfl, (by intro W hSW; (try dsimp only at hSW); (try go_split_ands); go_simp <;> with_reducible rfl)⟩) hS0 ?_
        try simp only [Act.put, List.getElem_toArray, List.getElem_cons_succ, List.getElem_cons_zero, List.setIfInBounds_toArray, List.set_cons_zero, List.set_cons_succ]
        refine wpAnyU_take (i := 3) [12, 13, 14, 15, 16, 18, 19, 20] rfl (by as_aux_lemma => kernel_rfl) (by as_aux_lemma => kernel_rfl) (by as_aux_lemma => kernel_rfl) (by as_aux_lemma => kernel_rfl) (by as_aux_lemma => kernel_rfl) (by as_aux_lemma => kernel_rfl) (fun _ _ _ h => h) (Or.inl ⟨by rfl, (by intro W hSW; (try dsimp only at hSW); (try go_split_ands); go_simp <;> with_reducible rfl)⟩) hS0 ?_
        try simp only [Act.put, List.getElem_toArray, List.getElem_cons_succ, List.getElem_cons_zero, List.setIfInBounds_toArray, List.set_cons_zero, List.set_cons_succ]
        refine wpAnyU_take (i := 4) [12, 13, 14, 15, 16, 18, 19, 20] rfl (by as_aux_lemma => kernel_rfl) (by as_aux_lemma => kernel_rfl) (by as_aux_lemma => kernel_rfl) (by as_aux_lemma => kernel_rfl) (by as_aux_lemma => kernel_rfl) (by as_aux_lemma => kernel_rfl) (fun _ _ _ h => h) (Or.inl ⟨by rfl, (by intro W hSW; (try dsimp only at hSW); (try go_split_ands); go_simp <;> with_reducible rfl)⟩) hS0 ?_
        try simp only [Act.put, List.getElem_toArray, List.getElem_cons_succ, List.getElem_cons_zero, List.setIfInBounds_toArray, List.set_cons_zero, List.set_cons_succ]
        refine wpAnyU_take (i := 5) [6, 7, 8, 11, 12, 13, 14, 15, 16, 18, 19, 20] rfl (by as_aux_lemma => kernel_rfl) (by as_aux_lemma => kernel_rfl) (by as_aux_lemma => kernel_rfl) (by as_aux_lemma => kernel_rfl) (by as_aux_lemma => kernel_rfl) (by as_aux_lemma => kernel_rfl) (fun _ _ _ h => h) (Or.inl ⟨by rfl, (by intro W hSW; (try dsimp only at hSW); (try go_split_ands); go_simp <;> with_reducible rfl)⟩) hS0 ?_
        try simp only [Act.put, List.getElem_toArray, List.getElem_cons_succ, List.getElem_cons_zero, List.setIfInBounds_toArray, List.set_cons_zero, List.set_cons_succ]
        refine wpAnyU_take (i := 6) [7, 8, 11, 12, 13, 14, 15, 16, 18, 19, 20] rfl (by as_aux_lemma => kernel_rfl) (by as_aux_lemma => kernel_rfl) (by as_aux_lemma => kernel_rfl) (by as_aux_lemma => kernel_rfl) (by as_aux_lemma => kernel_rfl) (by as_aux_lemma => kernel_rfl) (fun _ _ _ h => h) (Or.inl ⟨by rfl, (by intro W hSW; (try dsimp only at hSW); (try go_split_ands); go_simp <;> with_reducible rfl)⟩) hS0 ?_
        try simp only [Act.put, List.getElem_toArray, List.getElem_cons_succ, List.getElem_cons_zero, List.setIfInBounds_toArray, List.set_cons_zero, List.set_cons_succ]
        refine wpAnyU_take (i := 7) [8, 11, 12, 13, 14, 15, 16, 18, 19, 20] rfl (by as_aux_lemma => kernel_rfl) (by as_aux_lemma => kernel_rfl) (by as_aux_lemma => kernel_rfl) (by as_aux_lemma => kernel_rfl) (by as_aux_lemma => kernel_rfl) (by as_aux_lemma => kernel_rfl) (fun _ _ _ h => h) (Or.inl ⟨by rfl, (by intro W hSW; (try dsimp only at hSW); (try go_split_ands); go_simp <;> with_reducible rfl)⟩) hS0 ?_
        try simp only [Act.put, List.getElem_toArray, List.getElem_cons_succ, List.getElem_cons_zero, List.setIfInBounds_toArray, List.set_cons_zero, List.set_cons_succ]
        refine wpAnyU_take (i := 8) [11, 12, 13, 14, 15, 16, 18, 19, 20] rfl (by as_aux_lemma => kernel_rfl) (by as_aux_lemma => kernel_rfl) (by as_aux_lemma => kernel_rfl) (by as_aux_lemma => kernel_rfl) (by as_aux_lemma => kernel_rfl) (by as_aux_lemma => kernel_rfl) (fun _ _ _ h => h) (Or.inl ⟨by rfl, (by intro W hSW; (try dsimp only at hSW); (try go_split_ands); go_simp <;> with_reducible rfl)⟩) hS0 ?_
        try simp only [Act.put, List.getElem_toArray, List.getElem_cons_succ, List.getElem_cons_zero, List.setIfInBounds_toArray, List.set_cons_zero, List.set_cons_succ]
        refine wpAnyU_take (i := 9) [10, 11, 12, 13, 14, 15, 16, 18, 19, 20] rfl (by as_aux_lemma => kernel_rfl) (by as_aux_lemma => kernel_rfl) (by as_aux_lemma => kernel_rfl) (by as_aux_lemma => kernel_rfl) (by as_aux_lemma => kernel_rfl) (by as_aux_lemma => kernel_rfl) (fun _ _ _ h => h) (Or.inl ⟨by rfl, (by intro W hSW; (try dsimp only at hSW); (try go_split_ands); go_simp <;> with_reducible rfl)⟩) hS0 ?_
        try simp only [Act.put, List.getElem_toArray, List.getElem_cons_succ, List.getElem_cons_zero, List.setIfInBounds_toArray, List.set_cons_zero, List.set_cons_succ]
        refine wpAnyU_take (i := 10) [11, 12, 13, 14, 15, 16, 18, 19, 20] rfl (by as_aux_lemma => kernel_rfl) (by as_aux_lemma => kernel_rfl) (by as_aux_lemma => kernel_rfl) (by as_aux_lemma => kernel_rfl) (by as_aux_lemma => kernel_rfl) (by as_aux_lemma => kernel_rfl) (fun _ _ _ h => h) (Or.inl ⟨by rfl, (by intro W hSW; (try dsimp only at hSW); (try go_split_ands); go_simp <;> with_reducible rfl)⟩) hS0 ?_
        try simp only [Act.put, List.getElem_toArray, List.getElem_cons_succ, List.getElem_cons_zero, List.setIfInBounds_toArray, List.set_cons_zero, List.set_cons_succ]
        refine wpAnyU_take (i := 11) [12, 13, 14, 15, 16, 18, 19, 20] rfl (by as_aux_lemma => kernel_rfl) (by as_aux_lemma => kernel_rfl) (by as_aux_lemma => kernel_rfl) (by as_aux_lemma => kernel_rfl) (by as_aux_lemma => kernel_rfl) (by as_aux_lemma => kernel_rfl) (fun _ _ _ h => h) (Or.inl ⟨by rfl, (by intro W hSW; (try dsimp only at hSW); (try go_split_ands); go_simp <;> with_reducible rfl)⟩) hS0 ?_
        try simp only [Act.put, List.getElem_toArray, List.getElem_cons_succ, List.getElem_cons_zero, List.setIfInBounds_toArray, List.set_cons_zero, List.set_cons_succ]
        refine wpAnyU_two (i := 12) (j := 17) (by kernel_rfl) rfl rfl (fun K hK => ?_) (fun K hK => ?_)
        · go_simp
          go_at_call 11
          (with_reducible refine (HBD.out _ hbc).mono ?_)
          rintro e w5 ⟨rfl, hb5⟩
          try have hgk := (hb5.block _ (lt_of_block hgk)).trans hgk
          have hbc := hbc.trans (hb5.mono hbc.size)
          have hS := HSG.out _ hbc
          clear hb5 HBD
          refine hK.out _ _ (fun _ => hS) (fun _ => ?_)
          clear hK K
          try simp only [Act.put, List.getElem_toArray, List.getElem_cons_succ, List.getElem_cons_zero, List.setIfInBounds_toArray, List.set_cons_zero, List.set_cons_succ]
          refine wpAnyU_take (i := 13) [14, 15, 16, 18, 19, 20] rfl (by as_aux_lemma => kernel_rfl) (by as_aux_lemma => kernel_rfl) (by as_aux_lemma => kernel_rfl) (by as_aux_lemma => kernel_rfl) (by as_aux_lemma => kernel_rfl) (by as_aux_lemma => kernel_rfl) (fun _ _ _ h => h) (Or.inl ⟨by rfl, (by intro W hSW; (try dsimp only at hSW); (try go_split_ands); go_simp <;> with_reducible rfl)⟩) hS ?_
          try simp only [Act.put, List.getElem_toArray, List.getElem_cons_succ, List.getElem_cons_zero, List.setIfInBounds_toArray, List.set_cons_zero, List.set_cons_succ]
          refine wpAnyU_take (i := 14) [18, 19, 20] rfl (by as_aux_lemma => kernel_rfl) (by as_aux_lemma => kernel_rfl) (by as_aux_lemma => kernel_rfl) (by as_aux_lemma => kernel_rfl) (by as_aux_lemma => kernel_rfl) (by as_aux_lemma => kernel_rfl) (fun _ _ _ h => h) (Or.inl ⟨by rfl, (by intro W hSW; (try dsimp only at hSW); (try go_split_ands); go_simp <;> with_reducible rfl)⟩) hS ?_
          try simp only [Act.put, List.getElem_toArray, List.getElem_cons_succ, List.getElem_cons_zero, List.setIfInBounds_toArray, List.set_cons_zero, List.set_cons_succ]
          refine wpAnyU_take (i := 15) [19, 20] rfl (by as_aux_lemma => kernel_rfl) (by as_aux_lemma => kernel_rfl) (by as_aux_lemma => kernel_rfl) (by as_aux_lemma => kernel_rfl) (by as_aux_lemma => kernel_rfl) (by as_aux_lemma => kernel_rfl) (fun _ _ _ h => h) (Or.inl ⟨by rfl, (by intro W hSW; (try dsimp only at hSW); (try go_split_ands); go_simp <;> with_reducible rfl)⟩) hS ?_
          try simp only [Act.put, List.getElem_toArray, List.getElem_cons_succ, List.getElem_cons_zero, List.setIfInBounds_toArray, List.set_cons_zero, List.set_cons_succ]
          refine wpAnyU_take (i := 16) [20] rfl (by as_aux_lemma => kernel_rfl) (by as_aux_lemma => kernel_rfl) (by as_aux_lemma => kernel_rfl) (by as_aux_lemma => kernel_rfl) (by as_aux_lemma => kernel_rfl) (by as_aux_lemma => kernel_rfl) (fun _ _ _ h => h) (Or.inl ⟨by rfl, (by intro W hSW; (try dsimp only at hSW); (try go_split_ands); go_simp <;> with_reducible rfl)⟩) hS ?_
          try simp only [Act.put, List.getElem_toArray, List.getElem_cons_succ, List.getElem_cons_zero, List.setIfInBounds_toArray, List.set_cons_zero, List.set_cons_succ]
          refine wpAnyU_one (i := 17) (by kernel_rfl) rfl (fun K hK => ?_)
          go_simp
          first
            | (have hgk := heap_alloc_new w5 (.cells #[.int .i64 0, .int .u64 0, .int .u64 0, .int .u64 0, .slice none 0 0, .slice none 0 0] 26); have hgle : wr.heap.size ≤ w5.heap.size := hbc.size; have hbc := hbc.alloc hbc.size (.cells #[.int .i64 0, .int .u64 0, .int .u64 0, .int .u64 0, .slice none 0 0, .slice none 0 0] 26))
            | (have hgk : ((wr.alloc (.cells #[.int .i64 0, .int .u64 0, .int .u64 0, .int .u64 0, .slice none 0 0, .slice none 0 0] 26)).drew).heap[wr.heap.size]? = some (.cells #[.int .i64 0, .int .u64 0, .int .u64 0, .int .u64 0, .slice none 0 0, .slice none 0 0] 26 (0, 0)) := heap_alloc_new wr (.cells #[.int .i64 0, .int .u64 0, .int .u64 0, .int .u64 0, .slice none 0 0, .slice none 0 0] 26); have hgle : wr.heap.size ≤ wr.heap.size := Nat.le_refl _; have hbc : Below wr.heap.size wr (wr.alloc (.cells #[.int .i64 0, .int .u64 0, .int .u64 0, .int .u64 0, .slice none 0 0, .slice none 0 0] 26)).drew := below_drewN ((Below.refl _ _).alloc (Nat.le_refl _) (.cells #[.int .i64 0, .int .u64 0, .int .u64 0, .int .u64 0, .slice none 0 0, .slice none 0 0] 26)) 1)
          have hS := HSG.out _ hbc
          refine hK.out _ _ (fun _ => hS) (fun _ => ?_)
          clear hK K
          try simp only [Act.put, List.getElem_toArray, List.getElem_cons_succ, List.getElem_cons_zero, List.setIfInBounds_toArray, List.set_cons_zero, List.set_cons_succ]
          refine wpAnyU_one (i := 18) (by kernel_rfl) rfl (fun K hK => ?_)
          refine step_store_is rfl _ _ _ rfl _ noCs rfl rfl _ _ hgk infoR rfl noCs_one ?_
          have hbc := below_setRow (cs := noCs) hbc hgle
          clear hgk hgle
          generalize World.setRow _ _ _ = w6 at hbc ⊢
          have hS := HSG.out _ hbc
          refine hK.out _ _ (fun _ => hS) (fun _ => ?_)
          clear hK K
          try simp only [Act.put, List.getElem_toArray, List.getElem_cons_succ, List.getElem_cons_zero, List.setIfInBounds_toArray, List.set_cons_zero, List.set_cons_succ]
          refine wpAnyU_take (i := 19) [20] rfl (by as_aux_lemma => kernel_rfl) (by as_aux_lemma => kernel_rfl) (by as_aux_lemma => kernel_rfl) (by as_aux_lemma => kernel_rfl) (by as_aux_lemma => kernel_rfl) (by as_aux_lemma => kernel_rfl) (fun _ _ _ h => h) (Or.inl ⟨by rfl, (by intro W hSW; (try dsimp only at hSW); (try go_split_ands); go_simp <;> with_reducible rfl)⟩) hS ?_
          try simp only [Act.put, List.getElem_toArray, List.getElem_cons_succ, List.getElem_cons_zero, List.setIfInBounds_toArray, List.set_cons_zero, List.set_cons_succ]
          refine wpAnyU_take (i := 20) [] rfl (by as_aux_lemma => kernel_rfl) (by as_aux_lemma => kernel_rfl) (by as_aux_lemma => kernel_rfl) (by as_aux_lemma => kernel_rfl) (by as_aux_lemma => kernel_rfl) (by as_aux_lemma => kernel_rfl) (fun _ _ _ h => h) (Or.inl ⟨by rfl, (by intro W hSW; (try dsimp only at hSW); (try go_split_ands); go_simp <;> with_reducible rfl)⟩) hS ?_
          try simp only [Act.put, List.getElem_toArray, List.getElem_cons_succ, List.getElem_cons_zero, List.setIfInBounds_toArray, List.set_cons_zero, List.set_cons_succ]
          refine wpAnyU_done (by kernel_rfl) ?_ _
          obtain ⟨hbr, kr, obr, osr, hoN, hlog, ho, hwf⟩ := HX.out
          have k6 := HKW.out _ hbc
          have os6 : w6.ownsRow w.heap.size 3 1 (.slice sa rs.length sc) rs.length (iv (offs 0 rs)) := ownsRow_keep osr (fun k e => hbc.block k (osr.lt k e).2)
          have ob6 : OwnB w6 w.heap.size 5 (.slice (some ⟨B, 0, none⟩) N N) dm.log := ownB_same obr (fun k e => hbc.block k (obr.lt k e).2)
          have hb6 : Below w.heap.size w w6 := hbr.trans (hbc.mono hbr.size)
          have hown : ∀ k, lfoot L (.slice (some ⟨B, 0, none⟩) N N) (.slice sa rs.length sc) k → w.heap.size ≤ k ∧ k < w6.heap.size := fun k hk => by
            rcases hk with h1 | h1 | h1
            · have := HLB.out.1; have := lt_of_block k6; subst h1; omega
            · exact ob6.lt k h1
            · exact os6.lt k h1
          have hd6 : DiskAt w6 D (uf (lfoot L (.slice (some ⟨B, 0, none⟩) N N) (.slice sa rs.length sc)) E) F dm := HDM.out.1.grow hb6 (fun k hk => hk.elim (fun hk => .inr (hown k hk)) .inl)
          have htr := d_trim w6 D F dm hd6 HDM.out.2.1 o
          rw [HTM.out] at htr
          have c2r := hS.2
          have HT6 := Lib.hid (And.intro k6 (And.intro os6 (And.intro ob6 (And.intro hb6 (And.intro hown hd6)))))
          have HTR := Lib.hid htr
          clear hS hbc hbr kr obr osr hoN hlog ho hwf k6 os6 ob6 hb6 hown hd6 htr v1 v2
          go_wp2_with fail
          refine HTR.out.mono ?_
          rintro e w7 ⟨rfl, F', hd7, hc7⟩
          obtain ⟨k6, os6, ob6, hb6, hown, hd6⟩ := HT6.out
          have hE7 : ∀ k, lfoot L (.slice (some ⟨B, 0, none⟩) N N) (.slice sa rs.length sc) k → w7.heap[k]? = w6.heap[k]? := fun k hk => hc7.block k (hown k hk).2 (hd6.apart k (.inl hk))
          have k7 := (hE7 L (.inl rfl)).trans k6
          have ob7 : OwnB w7 w.heap.size 5 (.slice (some ⟨B, 0, none⟩) N N) dm.log := ownB_same ob6 (fun k e => hE7 k (.inr (.inl e)))
          have os7 : w7.ownsRow w.heap.size 3 1 (.slice sa rs.length sc) rs.length (iv (offs 0 rs)) := ownsRow_keep os6 (fun k e => hE7 k (.inr (.inr e)))
          have hsl := slice_to (some ⟨B, 0, none⟩) N N o (o : Int) rfl (by have := HX.out.2.2.2.2.1; omega) (.inr ⟨_, _, rfl⟩)
          have c27 : w7.cell? ⟨L, 2, none⟩ = some (.slice (some ⟨B, 0, none⟩) N N) := cell_of_row _ _ 2 _ _ _ k7
          have f27 : w7.frozen? ⟨L, 2, none⟩ = false := by simp [World.frozen?, k7]
          obtain ⟨w8, hw8⟩ : ∃ w8, w7.setCell ⟨L, 2, none⟩ (.slice (some ⟨B, 0, none⟩) o N) = w8 := ⟨_, rfl⟩
          have k8 : w8.heap[L]? = some (.cells #[.pointer (some ⟨D, 0, none⟩), .int .u64 b, .slice (some ⟨B, 0, none⟩) o N, .slice sa rs.length sc, .int .i64 0, .int .u64 c] 86 (0, 0)) := by rw [← hw8]; exact block_setCell k7 _
          have hne1 : B ≠ L := by
            rintro rfl
            obtain ⟨cv, hcv⟩ := ownsRow_blk ob7 (k := B) rfl
            exact blk_ne k7 hcv (by decide) rfl
          have hne2 : (Value.slice sa rs.length sc).ownBlock ≠ some L := fun e => by
            obtain ⟨cu, hcu⟩ := ownsRow_blk os7 e
            exact blk_ne k7 hcu (by decide) rfl
          have ob8 : OwnB w8 w.heap.size 5 (.slice (some ⟨B, 0, none⟩) o N) (encL b rs) := by
            have h9 : OwnB w8 w.heap.size 5 (.slice (some ⟨B, 0, none⟩) N N) dm.log := ownB_same ob7 (fun k e => by
              simp only [Value.ownBlock, Option.some.injEq] at e
              subst e
              rw [← hw8]
              exact block_setCell_ne _ hne1)
            have h8 := own_take h9 o (by have h1 := HDM.out.2.2.2.2.2.2; have := HX.out.2.2.2.2.1; omega)
            rw [HX.out.2.2.2.2.2.1] at h8
            exact h8
          have os8 : w8.ownsRow w.heap.size 3 1 (.slice sa rs.length sc) rs.length (iv (offs 0 rs)) := ownsRow_keep os7 (fun k e => by
            rw [← hw8]
            exact block_setCell_ne _ (fun e2 => hne2 (by rw [← e2]; exact e)))
          have hd8 : DiskAt w8 D (uf (lfoot L (.slice (some ⟨B, 0, none⟩) o N) (.slice sa rs.length sc)) E) F' { dm.spend with log := dm.log.take o, certain := o } := by
            rw [← hw8]
            exact hd7.chgE (chg_setCell _ _ _ (.inl (.inl rfl)))
          have hc8 : Chg (uf F (lfoot L (.slice (some ⟨B, 0, none⟩) o N) (.slice sa rs.length sc))) (uf F' (lfoot L (.slice (some ⟨B, 0, none⟩) o N) (.slice sa rs.length sc))) w w8 := by
            rw [← hw8]
            exact ((Chg.of_below hb6 _).trans (chg_uf hc7)).trans (chg_ufE (chg_setCell _ _ _ (.inl rfl)))
          have hcr : ∀ k, Calls Try.prog 48 #[.pointer (some ⟨D, 0, none⟩)] (w8.drewN k) fun e w' => e = .returned (.int .i64 o) ∧ w8.drewN k = w' := fun k => d_certain (w8.drewN k) D F' _ (hd8.drewN k)
          have d28 : w8.cell? ⟨L, 2, none⟩ = some (.slice (some ⟨B, 0, none⟩) o N) := cell_of_row _ _ 2 _ _ _ k8
          have HCR := Lib.hid hcr
          have s68 : w6.heap.size ≤ w8.heap.size := by rw [← hw8, setCell_size]; exact hc7.size
          have H8 := Lib.hid (And.intro k8 (And.intro ob8 (And.intro os8 (And.intro hd8 (And.intro hc8 (And.intro hown (And.intro s68 (And.intro hne1 hne2))))))))
          clear hE7 k6 os6 ob6 hb6 hown hd6 k7 ob7 os7 k8 hne1 hne2 ob8 os8 hd8 hc8 hcr hd7 hc7 HT6 HTR c2r s68
          go_upto_region 23 with (fail)
          go_quiet ((go_at_call 48; exact quiet_eq (HCR.out _)))
          obtain ⟨k8, ob8, os8, hd8, hc8, hown, s68, hne1, hne2⟩ := H8.out
          have k5 : (w8.drewN nq).heap[L]? = some (.cells #[.pointer (some ⟨D, 0, none⟩), .int .u64 b, .slice (some ⟨B, 0, none⟩) o N, .slice sa rs.length sc, .int .i64 0, .int .u64 c] 86 (0, 0)) := k8
          have o5 : OwnB (w8.drewN nq) w.heap.size 5 (.slice (some ⟨B, 0, none⟩) o N) (encL b rs) := ob8
          have s5 : (w8.drewN nq).ownsRow w.heap.size 3 1 (.slice sa rs.length sc) rs.length (iv (offs 0 rs)) := os8
          have hd9 := hd8.drewN nq
          have hc9 := hc8.trans (chg_drewN (F := uf F' (lfoot L (.slice (some ⟨B, 0, none⟩) o N) (.slice sa rs.length sc))) w8 nq)
          obtain ⟨w9, hw9⟩ : ∃ w9, w8.drewN nq = w9 := ⟨_, rfl⟩
          have z9 : w9.heap.size = w8.heap.size := by rw [← hw9]; rfl
          rw [hw9] at k5 o5 s5 hd9 hc9 ⊢
          have e2 : w9.cell? ⟨L, 2, none⟩ = some (.slice (some ⟨B, 0, none⟩) o N) := cell_of_row _ _ 2 _ _ _ k5
          have e4 : w9.cell? ⟨L, 4, none⟩ = some (.int .i64 0) := cell_of_row _ _ 4 _ _ _ k5
          have g4 : w9.frozen? ⟨L, 4, none⟩ = false := by simp [World.frozen?, k5]
          obtain ⟨wa, hwa⟩ : ∃ wa, w9.setCell ⟨L, 4, none⟩ (.int .i64 o) = wa := ⟨_, rfl⟩
          have ka : wa.heap[L]? = some (.cells #[.pointer (some ⟨D, 0, none⟩), .int .u64 b, .slice (some ⟨B, 0, none⟩) o N, .slice sa rs.length sc, .int .i64 o, .int .u64 c] 86 (0, 0)) := by rw [← hwa]; exact block_setCell k5 _
          have hma : LMem wa D L ⟨b, rs, o, c⟩ (.slice (some ⟨B, 0, none⟩) o N) (.slice sa rs.length sc) := by
            refine ⟨ka, ?_, ?_, HX.out.2.2.2.2.2.2.2⟩
            · exact ownsRow_base (ownB_same o5 (fun k e => by
                simp only [Value.ownBlock, Option.some.injEq] at e
                subst e
                rw [← hwa]
                exact block_setCell_ne _ hne1)) (fun _ _ => Nat.zero_le _)
            · exact ownsRow_keep (ownsRow_base s5 (fun _ _ => Nat.zero_le _)) (fun k e => by
                rw [← hwa]
                exact block_setCell_ne _ (fun e2 => hne2 (by rw [← e2]; exact e)))
          have hda : DiskAt wa D (uf (lfoot L (.slice (some ⟨B, 0, none⟩) o N) (.slice sa rs.length sc)) E) F' (openDM dm o) := by
            unfold openDM
            rw [if_neg (by have h1 := HDM.out.2.2.2.2.2.2; have := HX.out.2.2.2.2.1; omega), HTM.out, ← hwa]
            exact hd9.chgE (chg_setCell _ _ _ (.inl (.inl rfl)))
          have hca : Chg (uf F (lfoot L (.slice (some ⟨B, 0, none⟩) o N) (.slice sa rs.length sc))) (uf F' (lfoot L (.slice (some ⟨B, 0, none⟩) o N) (.slice sa rs.length sc))) w wa := by
            rw [← hwa]
            exact hc9.trans (chg_ufE (chg_setCell _ _ _ (.inl rfl)))
          have za : wa.heap.size = w9.heap.size := by rw [← hwa, setCell_size]
          have hoa : ∀ k, lfoot L (.slice (some ⟨B, 0, none⟩) o N) (.slice sa rs.length sc) k → w.heap.size ≤ k ∧ k < wa.heap.size := fun k hk => by have h1 := hown k hk; omega
          have HF := Lib.hid (And.intro hda (And.intro hma (And.intro (chg_strip hca hoa) hoa)))
          clear k8 ob8 os8 hd8 hc8 hown s68 hne1 hne2 k5 o5 s5 hd9 hc9 z9 hw9 ka hma hda hca za hoa c27 f27 d28
          go_wp2
          go_ret2
          exact ⟨_, _, _, F', rfl, ⟨by rw [HX.out.2.2.2.2.2.2.1]; exact HF.out.1, by rw [HX.out.2.2.2.2.2.2.1]; exact HF.out.2.1⟩, HF.out.2.2.1, HF.out.2.2.2⟩
        · go_simp
          first
            | (have hgk := heap_alloc_new w5 (.cells #[.int .i64 0, .int .u64 0, .int .u64 0, .int .u64 0, .slice none 0 0, .slice none 0 0] 26); have hgle : wr.heap.size ≤ w5.heap.size := hbc.size; have hbc := hbc.alloc hbc.size (.cells #[.int .i64 0, .int .u64 0, .int .u64 0, .int .u64 0, .slice none 0 0, .slice none 0 0] 26))
            | (have hgk : ((wr.alloc (.cells #[.int .i64 0, .int .u64 0, .int .u64 0, .int .u64 0, .slice none 0 0, .slice none 0 0] 26)).drew).heap[wr.heap.size]? = some (.cells #[.int .i64 0, .int .u64 0, .int .u64 0, .int .u64 0, .slice none 0 0, .slice none 0 0] 26 (0, 0)) := heap_alloc_new wr (.cells #[.int .i64 0, .int .u64 0, .int .u64 0, .int .u64 0, .slice none 0 0, .slice none 0 0] 26); have hgle : wr.heap.size ≤ wr.heap.size := Nat.le_refl _; have hbc : Below wr.heap.size wr (wr.alloc (.cells #[.int .i64 0, .int .u64 0, .int .u64 0, .int .u64 0, .slice none 0 0, .slice none 0 0] 26)).drew := below_drewN ((Below.refl _ _).alloc (Nat.le_refl _) (.cells #[.int .i64 0, .int .u64 0, .int .u64 0, .int .u64 0, .slice none 0 0, .slice none 0 0] 26)) 1)
          have hS := HSG.out _ hbc
          refine hK.out _ _ (fun _ => hS) (fun _ => ?_)
          clear hK K
          try simp only [Act.put, List.getElem_toArray, List.getElem_cons_succ, List.getElem_cons_zero, List.setIfInBounds_toArray, List.set_cons_zero, List.set_cons_succ]
          refine wpAnyU_one (i := 12) (by kernel_rfl) rfl (fun K hK => ?_)
          go_simp
          go_at_call 11
          (with_reducible refine (HBD.out _ hbc).mono ?_)
          rintro e w5 ⟨rfl, hb5⟩
          try have hgk := (hb5.block _ (lt_of_block hgk)).trans hgk
          have hbc := hbc.trans (hb5.mono hbc.size)
          have hS := HSG.out _ hbc
          clear hb5 HBD
          refine hK.out _ _ (fun _ => hS) (fun _ => ?_)
          clear hK K
          try simp only [Act.put, List.getElem_toArray, List.getElem_cons_succ, List.getElem_cons_zero, List.setIfInBounds_toArray, List.set_cons_zero, List.set_cons_succ]
          refine wpAnyU_take (i := 13) [14, 15, 16, 18, 19, 20] rfl (by as_aux_lemma => kernel_rfl) (by as_aux_lemma => kernel_rfl) (by as_aux_lemma => kernel_rfl) (by as_aux_lemma => kernel_rfl) (by as_aux_lemma => kernel_rfl) (by as_aux_lemma => kernel_rfl) (fun _ _ _ h => h) (Or.inl ⟨by rfl, (by intro W hSW; (try dsimp only at hSW); (try go_split_ands); go_simp <;> with_reducible rfl)⟩) hS ?_
          try simp only [Act.put, List.getElem_toArray, List.getElem_cons_succ, List.getElem_cons_zero, List.setIfInBounds_toArray, List.set_cons_zero, List.set_cons_succ]
          refine wpAnyU_take (i := 14) [18, 19, 20] rfl (by as_aux_lemma => kernel_rfl) (by as_aux_lemma => kernel_rfl) (by as_aux_lemma => kernel_rfl) (by as_aux_lemma => kernel_rfl) (by as_aux_lemma => kernel_rfl) (by as_aux_lemma => kernel_rfl) (fun _ _ _ h => h) (Or.inl ⟨by rfl, (by intro W hSW; (try dsimp only at hSW); (try go_split_ands); go_simp <;> with_reducible rfl)⟩) hS ?_
          try simp only [Act.put, List.getElem_toArray, List.getElem_cons_succ, List.getElem_cons_zero, List.setIfInBounds_toArray, List.set_cons_zero, List.set_cons_succ]
          refine wpAnyU_take (i := 15) [19, 20] rfl (by as_aux_lemma => kernel_rfl) (by as_aux_lemma => kernel_rfl) (by as_aux_lemma => kernel_rfl) (by as_aux_lemma => kernel_rfl) (by as_aux_lemma => kernel_rfl) (by as_aux_lemma => kernel_rfl) (fun _ _ _ h => h) (Or.inl ⟨by rfl, (by intro W hSW; (try dsimp only at hSW); (try go_split_ands); go_simp <;> with_reducible rfl)⟩) hS ?_
          try simp only [Act.put, List.getElem_toArray, List.getElem_cons_succ, List.getElem_cons_zero, List.setIfInBounds_toArray, List.set_cons_zero, List.set_cons_succ]
          refine wpAnyU_take (i := 16) [20] rfl (by as_aux_lemma => kernel_rfl) (by as_aux_lemma => kernel_rfl) (by as_aux_lemma => kernel_rfl) (by as_aux_lemma => kernel_rfl) (by as_aux_lemma => kernel_rfl) (by as_aux_lemma => kernel_rfl) (fun _ _ _ h => h) (Or.inl ⟨by rfl, (by intro W hSW; (try dsimp only at hSW); (try go_split_ands); go_simp <;> with_reducible rfl)⟩) hS ?_
          try simp only [Act.put, List.getElem_toArray, List.getElem_cons_succ, List.getElem_cons_zero, List.setIfInBounds_toArray, List.set_cons_zero, List.set_cons_succ]
          refine wpAnyU_one (i := 18) (by kernel_rfl) rfl (fun K hK => ?_)
          refine step_store_is rfl _ _ _ rfl _ noCs rfl rfl _ _ hgk infoR rfl noCs_one ?_
          have hbc := below_setRow (cs := noCs) hbc hgle
          clear hgk hgle
          generalize World.setRow _ _ _ = w6 at hbc ⊢
          have hS := HSG.out _ hbc
          refine hK.out _ _ (fun _ => hS) (fun _ => ?_)
          clear hK K
          try simp only [Act.put, List.getElem_toArray, List.getElem_cons_succ, List.getElem_cons_zero, List.setIfInBounds_toArray, List.set_cons_zero, List.set_cons_succ]
          refine wpAnyU_take (i := 19) [20] rfl (by as_aux_lemma => kernel_rfl) (by as_aux_lemma => kernel_rfl) (by as_aux_lemma => kernel_rfl) (by as_aux_lemma => kernel_rfl) (by as_aux_lemma => kernel_rfl) (by as_aux_lemma => kernel_rfl) (fun _ _ _ h => h) (Or.inl ⟨by rfl, (by intro W hSW; (try dsimp only at hSW); (try go_split_ands); go_simp <;> with_reducible rfl)⟩) hS ?_
          try simp only [Act.put, List.getElem_toArray, List.getElem_cons_succ, List.getElem_cons_zero, List.setIfInBounds_toArray, List.set_cons_zero, List.set_cons_succ]
          refine wpAnyU_take (i := 20) [] rfl (by as_aux_lemma => kernel_rfl) (by as_aux_lemma => kernel_rfl) (by as_aux_lemma => kernel_rfl) (by as_aux_lemma => kernel_rfl) (by as_aux_lemma => kernel_rfl) (by as_aux_lemma => kernel_rfl) (fun _ _ _ h => h) (Or.inl ⟨by rfl, (by intro W hSW; (try dsimp only at hSW); (try go_split_ands); go_simp <;> with_reducible rfl)⟩) hS ?_
          try simp only [Act.put, List.getElem_toArray, List.getElem_cons_succ, List.getElem_cons_zero, List.setIfInBounds_toArray, List.set_cons_zero, List.set_cons_succ]
          refine wpAnyU_done (by kernel_rfl) ?_ _
          obtain ⟨hbr, kr, obr, osr, hoN, hlog, ho, hwf⟩ := HX.out
          have k6 := HKW.out _ hbc
          have os6 : w6.ownsRow w.heap.size 3 1 (.slice sa rs.length sc) rs.length (iv (offs 0 rs)) := ownsRow_keep osr (fun k e => hbc.block k (osr.lt k e).2)
          have ob6 : OwnB w6 w.heap.size 5 (.slice (some ⟨B, 0, none⟩) N N) dm.log := ownB_same obr (fun k e => hbc.block k (obr.lt k e).2)
          have hb6 : Below w.heap.size w w6 := hbr.trans (hbc.mono hbr.size)
          have hown : ∀ k, lfoot L (.slice (some ⟨B, 0, none⟩) N N) (.slice sa rs.length sc) k → w.heap.size ≤ k ∧ k < w6.heap.size := fun k hk => by
            rcases hk with h1 | h1 | h1
            · have := HLB.out.1; have := lt_of_block k6; subst h1; omega
            · exact ob6.lt k h1
            · exact os6.lt k h1
          have hd6 : DiskAt w6 D (uf (lfoot L (.slice (some ⟨B, 0, none⟩) N N) (.slice sa rs.length sc)) E) F dm := HDM.out.1.grow hb6 (fun k hk => hk.elim (fun hk => .inr (hown k hk)) .inl)
          have htr := d_trim w6 D F dm hd6 HDM.out.2.1 o
          rw [HTM.out] at htr
          have c2r := hS.2
          have HT6 := Lib.hid (And.intro k6 (And.intro os6 (And.intro ob6 (And.intro hb6 (And.intro hown hd6)))))
          have HTR := Lib.hid htr
          clear hS hbc hbr kr obr osr hoN hlog ho hwf k6 os6 ob6 hb6 hown hd6 htr v1 v2
          go_wp2_with fail
          refine HTR.out.mono ?_
          rintro e w7 ⟨rfl, F', hd7, hc7⟩
          obtain ⟨k6, os6, ob6, hb6, hown, hd6⟩ := HT6.out
          have hE7 : ∀ k, lfoot L (.slice (some ⟨B, 0, none⟩) N N) (.slice sa rs.length sc) k → w7.heap[k]? = w6.heap[k]? := fun k hk => hc7.block k (hown k hk).2 (hd6.apart k (.inl hk))
          have k7 := (hE7 L (.inl rfl)).trans k6
          have ob7 : OwnB w7 w.heap.size 5 (.slice (some ⟨B, 0, none⟩) N N) dm.log := ownB_same ob6 (fun k e => hE7 k (.inr (.inl e)))
          have os7 : w7.ownsRow w.heap.size 3 1 (.slice sa rs.length sc) rs.length (iv (offs 0 rs)) := ownsRow_keep os6 (fun k e => hE7 k (.inr (.inr e)))
          have hsl := slice_to (some ⟨B, 0, none⟩) N N o (o : Int) rfl (by have := HX.out.2.2.2.2.1; omega) (.inr ⟨_, _, rfl⟩)
          have c27 : w7.cell? ⟨L, 2, none⟩ = some (.slice (some ⟨B, 0, none⟩) N N) := cell_of_row _ _ 2 _ _ _ k7
          have f27 : w7.frozen? ⟨L, 2, none⟩ = false := by simp [World.frozen?, k7]
          obtain ⟨w8, hw8⟩ : ∃ w8, w7.setCell ⟨L, 2, none⟩ (.slice (some ⟨B, 0, none⟩) o N) = w8 := ⟨_, rfl⟩
          have k8 : w8.heap[L]? = some (.cells #[.pointer (some ⟨D, 0, none⟩), .int .u64 b, .slice (some ⟨B, 0, none⟩) o N, .slice sa rs.length sc, .int .i64 0, .int .u64 c] 86 (0, 0)) := by rw [← hw8]; exact block_setCell k7 _
          have hne1 : B ≠ L := by
            rintro rfl
            obtain ⟨cv, hcv⟩ := ownsRow_blk ob7 (k := B) rfl
            exact blk_ne k7 hcv (by decide) rfl
          have hne2 : (Value.slice sa rs.length sc).ownBlock ≠ some L := fun e => by
            obtain ⟨cu, hcu⟩ := ownsRow_blk os7 e
            exact blk_ne k7 hcu (by decide) rfl
          have ob8 : OwnB w8 w.heap.size 5 (.slice (some ⟨B, 0, none⟩) o N) (encL b rs) := by
            have h9 : OwnB w8 w.heap.size 5 (.slice (some ⟨B, 0, none⟩) N N) dm.log := ownB_same ob7 (fun k e => by
              simp only [Value.ownBlock, Option.some.injEq] at e
              subst e
              rw [← hw8]
              exact block_setCell_ne _ hne1)
            have h8 := own_take h9 o (by have h1 := HDM.out.2.2.2.2.2.2; have := HX.out.2.2.2.2.1; omega)
            rw [HX.out.2.2.2.2.2.1] at h8
            exact h8
          have os8 : w8.ownsRow w.heap.size 3 1 (.slice sa rs.length sc) rs.length (iv (offs 0 rs)) := ownsRow_keep os7 (fun k e => by
            rw [← hw8]
            exact block_setCell_ne _ (fun e2 => hne2 (by rw [← e2]; exact e)))
          have hd8 : DiskAt w8 D (uf (lfoot L (.slice (some ⟨B, 0, none⟩) o N) (.slice sa rs.length sc)) E) F' { dm.spend with log := dm.log.take o, certain := o } := by
            rw [← hw8]
            exact hd7.chgE (chg_setCell _ _ _ (.inl (.inl rfl)))
          have hc8 : Chg (uf F (lfoot L (.slice (some ⟨B, 0, none⟩) o N) (.slice sa rs.length sc))) (uf F' (lfoot L (.slice (some ⟨B, 0, none⟩) o N) (.slice sa rs.length sc))) w w8 := by
            rw [← hw8]
            exact ((Chg.of_below hb6 _).trans (chg_uf hc7)).trans (chg_ufE (chg_setCell _ _ _ (.inl rfl)))
          have hcr : ∀ k, Calls Try.prog 48 #[.pointer (some ⟨D, 0, none⟩)] (w8.drewN k) fun e w' => e = .returned (.int .i64 o) ∧ w8.drewN k = w' := fun k => d_certain (w8.drewN k) D F' _ (hd8.drewN k)
          have d28 : w8.cell? ⟨L, 2, none⟩ = some (.slice (some ⟨B, 0, none⟩) o N) := cell_of_row _ _ 2 _ _ _ k8
          have HCR := Lib.hid hcr
          have s68 : w6.heap.size ≤ w8.heap.size := by rw [← hw8, setCell_size]; exact hc7.size
          have H8 := Lib.hid (And.intro k8 (And.intro ob8 (And.intro os8 (And.intro hd8 (And.intro hc8 (And.intro hown (And.intro s68 (And.intro hne1 hne2))))))))
          clear hE7 k6 os6 ob6 hb6 hown hd6 k7 ob7 os7 k8 hne1 hne2 ob8 os8 hd8 hc8 hcr hd7 hc7 HT6 HTR c2r s68
          go_upto_region 23 with (fail)
          go_quiet ((go_at_call 48; exact quiet_eq (HCR.out _)))
          obtain ⟨k8, ob8, os8, hd8, hc8, hown, s68, hne1, hne2⟩ := H8.out
          have k5 : (w8.drewN nq).heap[L]? = some (.cells #[.pointer (some ⟨D, 0, none⟩), .int .u64 b, .slice (some ⟨B, 0, none⟩) o N, .slice sa rs.length sc, .int .i64 0, .int .u64 c] 86 (0, 0)) := k8
          have o5 : OwnB (w8.drewN nq) w.heap.size 5 (.slice (some ⟨B, 0, none⟩) o N) (encL b rs) := ob8
          have s5 : (w8.drewN nq).ownsRow w.heap.size 3 1 (.slice sa rs.length sc) rs.length (iv (offs 0 rs)) := os8
          have hd9 := hd8.drewN nq
          have hc9 := hc8.trans (chg_drewN (F := uf F' (lfoot L (.slice (some ⟨B, 0, none⟩) o N) (.slice sa rs.length sc))) w8 nq)
          obtain ⟨w9, hw9⟩ : ∃ w9, w8.drewN nq = w9 := ⟨_, rfl⟩
          have z9 : w9.heap.size = w8.heap.size := by rw [← hw9]; rfl
          rw [hw9] at k5 o5 s5 hd9 hc9 ⊢
          have e2 : w9.cell? ⟨L, 2, none⟩ = some (.slice (some ⟨B, 0, none⟩) o N) := cell_of_row _ _ 2 _ _ _ k5
          have e4 : w9.cell? ⟨L, 4, none⟩ = some (.int .i64 0) := cell_of_row _ _ 4 _ _ _ k5
          have g4 : w9.frozen? ⟨L, 4, none⟩ = false := by simp [World.frozen?, k5]
          obtain ⟨wa, hwa⟩ : ∃ wa, w9.setCell ⟨L, 4, none⟩ (.int .i64 o) = wa := ⟨_, rfl⟩
          have ka : wa.heap[L]? = some (.cells #[.pointer (some ⟨D, 0, none⟩), .int .u64 b, .slice (some ⟨B, 0, none⟩) o N, .slice sa rs.length sc, .int .i64 o, .int .u64 c] 86 (0, 0)) := by rw [← hwa]; exact block_setCell k5 _
          have hma : LMem wa D L ⟨b, rs, o, c⟩ (.slice (some ⟨B, 0, none⟩) o N) (.slice sa rs.length sc) := by
            refine ⟨ka, ?_, ?_, HX.out.2.2.2.2.2.2.2⟩
            · exact ownsRow_base (ownB_same o5 (fun k e => by
                simp only [Value.ownBlock, Option.some.injEq] at e
                subst e
                rw [← hwa]
                exact block_setCell_ne _ hne1)) (fun _ _ => Nat.zero_le _)
            · exact ownsRow_keep (ownsRow_base s5 (fun _ _ => Nat.zero_le _)) (fun k e => by
                rw [← hwa]
                exact block_setCell_ne _ (fun e2 => hne2 (by rw [← e2]; exact e)))
          have hda : DiskAt wa D (uf (lfoot L (.slice (some ⟨B, 0, none⟩) o N) (.slice sa rs.length sc)) E) F' (openDM dm o) := by
            unfold openDM
            rw [if_neg (by have h1 := HDM.out.2.2.2.2.2.2; have := HX.out.2.2.2.2.1; omega), HTM.out, ← hwa]
            exact hd9.chgE (chg_setCell _ _ _ (.inl (.inl rfl)))
          have hca : Chg (uf F (lfoot L (.slice (some ⟨B, 0, none⟩) o N) (.slice sa rs.length sc))) (uf F' (lfoot L (.slice (some ⟨B, 0, none⟩) o N) (.slice sa rs.length sc))) w wa := by
            rw [← hwa]
            exact hc9.trans (chg_ufE (chg_setCell _ _ _ (.inl rfl)))
          have za : wa.heap.size = w9.heap.size := by rw [← hwa, setCell_size]
          have hoa : ∀ k, lfoot L (.slice (some ⟨B, 0, none⟩) o N) (.slice sa rs.length sc) k → w.heap.size ≤ k ∧ k < wa.heap.size := fun k hk => by have h1 := hown k hk; omega
          have HF := Lib.hid (And.intro hda (And.intro hma (And.intro (chg_strip hca hoa) hoa)))
          clear k8 ob8 os8 hd8 hc8 hown s68 hne1 hne2 k5 o5 s5 hd9 hc9 z9 hw9 ka hma hda hca za hoa c27 f27 d28
          go_wp2
          go_ret2
          exact ⟨_, _, _, F', rfl, ⟨by rw [HX.out.2.2.2.2.2.2.1]; exact HF.out.1, by rw [HX.out.2.2.2.2.2.2.1]; exact HF.out.2.1⟩, HF.out.2.2.1, HF.out.2.2.2⟩
end Mun
