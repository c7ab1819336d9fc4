/- The reference of chapter 7: num, cut, where a body stands well. -/
import Derived.Test.YtoblajbffnkkiaaMgE
import Derived.Test.YtoblajbffnkkiaaMgH
import Derived.Test.YtoblajbffnkkiaaMgF
import Derived.Test.YtoblajbffnkkiaaMgA
set_option maxRecDepth 100000
set_option linter.unusedVariables false
set_option linter.unusedSimpArgs false
namespace Mun
open Go Go.RowKit
open Go.Proofs

abbrev curC (bv : Value) (A : Nat) : Array Value := #[bv, .int .i64 A, .bool true]
theorem infoCu : (Try.prog.info? 123).map (·.size) = some 3 := by kernel_rfl
theorem vi_mod (N k : Nat) : N / 128 ^ k < 128 → N = N % 128 ^ k + (N / 128 ^ k) * 128 ^ k := fun _ => by
  rw [Nat.mul_comm, Nat.add_comm]; exact (Nat.div_add_mod N (128 ^ k)).symm
theorem drop_hd {l : List UInt8} {A : Nat} {x : UInt8} {r : List UInt8} (h : l.drop A = x :: r) : ∃ hA : A < l.length, l[A] = x ∧ l.drop (A + 1) = r := by
  have hA : A < l.length := by
    rcases Nat.lt_or_ge A l.length with h1 | h1
    · exact h1
    · rw [List.drop_of_length_le h1] at h; cases h
  rw [List.drop_eq_getElem_cons hA] at h
  injection h with h1 h2
  exact ⟨hA, h1, h2⟩
theorem vi_len_add (M : Nat) (h : 128 ≤ M) : (vi M).length = (vi (M / 128)).length + 1 := by rw [vi_ge h]; rfl

def NumPost (w : World) (bv : Value) (A N : Nat) (e : Ending) (w' : World) : Prop := e = .returned (.tuple #[.int .u64 N, .agg (curC bv (A + (vi N).length))]) ∧ Below w.heap.size w w'

/-- within num's loop -/
structure NmR (w wr : World) (bv : Value) (A : Nat) : Prop where
  bl : Below w.heap.size w wr
  k0 : wr.heap[w.heap.size]? = some (.cells (curC bv A) 123 (0, 0))
  k1 : wr.heap[w.heap.size + 1]? = some (.cells #[.slice none 0 0, .int .i64 0, .bool false] 123 (0, 0))
theorem NmR.set {w wr : World} {bv : Value} {A : Nat} (h : NmR w wr bv A) : NmR w (wr.setCell ⟨w.heap.size, 1, none⟩ (.int .i64 (A + 1 : Nat))) bv (A + 1) := by
  have ho : ∀ k, k ≠ w.heap.size → (wr.setCell ⟨w.heap.size, 1, none⟩ (.int .i64 (A + 1 : Nat))).heap[k]? = wr.heap[k]? := fun k hk => setCell_heap _ _ _ _ hk
  exact ⟨⟨h.bl.os, h.bl.tape, h.bl.output, by rw [setCell_size]; exact h.bl.size, fun k hk => (ho k (by omega)).trans (h.bl.block k hk)⟩, setCell_blk h.k0 _, (ho _ (by omega)).trans h.k1⟩

set_option maxHeartbeats 4000000 in
theorem r7num {F : Foot} (w : World) (bv : Value) (l : List UInt8) (A N most : Nat) (rest : List UInt8) (hv : RdB F w bv l) (hd : l.drop A = vi N ++ rest) (hN : N < 18446744073709551616) (hm : N ≤ most) (hm2 : most < 18446744073709551616) (hl : l.length ≤ 1073741824) :
    Calls Try.prog 72 #[.agg (curC bv A), .int .u64 most] w (NumPost w bv A N) := by
  obtain ⟨ba, bn, bc, rfl, HBN, -, -⟩ := hv.formN
  obtain ⟨wb, hwb⟩ : ∃ wb, (w.alloc (.cells (curC (.slice ba bn bc) A) 123)).alloc (.cells #[.slice none 0 0, .int .i64 0, .bool false] 123) = wb := ⟨_, rfl⟩
  have s1 : (w.alloc (.cells (curC (.slice ba bn bc) A) 123)).heap.size = w.heap.size + 1 := World.size_alloc _ _
  have hst : NmR w wb (.slice ba bn bc) A := by
    rw [← hwb]
    exact ⟨below_more (below_more (Below.refl _ _) _) _, by rw [heap_alloc_old _ _ (by rw [s1]; omega)]; exact heap_alloc_new w _, by rw [← s1]; exact heap_alloc_new _ _⟩
  have HST := Lib.hid hst
  have HV := Lib.hid (And.intro hv (And.intro hd (And.intro hN (And.intro hm (And.intro hm2 hl)))))
  have hbn : bn ≤ 1073741824 := by have := HBN.out; omega
  have HBL := Lib.hid hbn
  clear hst hv hd hN hm hm2 hl s1 hbn
  go_enter Try.func72, Try.ntmps72
  go_wp2_with fail
  go_loopw [6, 7] (fun n i wr => ∃ k : Nat, k ≤ 9 ∧ i = .int .i64 k ∧ n = .int .u64 ((N % 128 ^ k : Nat) : Int) ∧ NmR w wr (.slice ba bn bc) (A + k) ∧ l.drop (A + k) = vi (N / 128 ^ k) ++ rest ∧ (vi N).length = k + (vi (N / 128 ^ k)).length) (fun _ i _ => 10 - (intOf i).toNat)
  case atStart => exact ⟨0, Nat.zero_le _, rfl, by simp [Nat.mod_one], by first | exact HST.out | (rw [hwb]; exact HST.out), by simpa using HV.out.2.1, by simp⟩
  case round =>
    obtain ⟨k, hk, rfl, rfl, hR, hdk, hlk⟩ := hrel
    obtain ⟨M, hM⟩ : ∃ M, N / 128 ^ k = M := ⟨_, rfl⟩
    have hdm := Nat.div_add_mod N (128 ^ k)
    rw [hM] at hdk hlk hdm
    have hlt := Nat.mod_lt N (Nat.pow_pos (n := k) (show 0 < 128 by omega))
    obtain ⟨a, ha⟩ : ∃ a, N % 128 ^ k = a := ⟨_, rfl⟩
    rw [ha] at hdm hlt ⊢
    have hM9 : k = 9 → M ≤ 1 := by
      rintro rfl
      have := HV.out.2.2.1
      rw [show (128 : Nat) ^ 9 = 9223372036854775808 from rfl] at hdm
      omega
    obtain ⟨q, hq⟩ : ∃ q, A + k = q := ⟨_, rfl⟩
    rw [hq] at hR hdk
    obtain ⟨x, rl, hx⟩ : ∃ x rl, vi M ++ rest = x :: rl := by
      by_cases h : M < 128
      · rw [vi_lt h]; exact ⟨_, _, rfl⟩
      · rw [vi_ge (by omega)]; exact ⟨_, _, rfl⟩
    rw [hx] at hdk
    obtain ⟨hql, hgx, hdr⟩ := drop_hd hdk
    obtain ⟨g, off, c', hvv, -, -, -, -, hcell⟩ := (HV.out.1.below hR.bl).at_ (by omega)
    injection hvv with e1 e2 e3
    subst e1
    have c0 := hcell q hql
    rw [hgx] at c0
    have z0 : wr.cell? ⟨w.heap.size, 0, none⟩ = some (.slice (some ⟨g, off, none⟩) bn bc) := cell_of_row wr _ 0 _ _ _ hR.k0
    have z1 : wr.cell? ⟨w.heap.size, 1, none⟩ = some (.int .i64 q) := cell_of_row wr _ 1 _ _ _ hR.k0
    have z2 : wr.cell? ⟨w.heap.size, 2, none⟩ = some (.bool true) := cell_of_row wr _ 2 _ _ _ hR.k0
    have f1 : wr.frozen? ⟨w.heap.size, 1, none⟩ = false := by simp [World.frozen?, hR.k0]
    have hk10 : (k : Int) < 10 := by omega
    have hk0 : (0 : Int) ≤ (k : Int) := by omega
    have hqb : (q : Int) < (bn : Int) := by have := HBN.out; omega
    have hq0 : (0 : Int) ≤ (q : Int) := by omega
    have hqi : (q : Int) ≤ 1073741824 := by have := HBL.out; omega
    have u7 : IntKind.u64.wrap (7 * (k : Int)) = ((7 * k : Nat) : Int) := by
      have := wrap_u64_nat (7 * k) (by omega)
      push_cast at this ⊢
      exact this
    have hR1 := hR.set
    obtain ⟨w5, hw5⟩ : ∃ w5, wr.setCell ⟨w.heap.size, 1, none⟩ (.int .i64 (q + 1 : Nat)) = w5 := ⟨_, rfl⟩
    rw [hw5] at hR1
    have hq1 : ((q + 1 : Nat) : Int) = (q : Int) + 1 := by push_cast; rfl
    rw [hq1] at hw5
    by_cases hM1 : M < 128
    · rw [vi_lt hM1, List.singleton_append] at hx
      injection hx with hx1 hx2
      have hxn : x.toNat = M := by rw [← hx1, UInt8.toNat_ofNat']; omega
      rw [hxn] at c0
      have hand := and127 M (by omega)
      rw [Nat.mod_eq_of_lt hM1] at hand
      have hsum : a + M * 128 ^ k = N := by rw [Nat.mul_comm, Nat.add_comm]; exact hdm
      have hst := num_step a M k hk hlt hM1 (by rw [hsum]; exact HV.out.2.2.1)
      rw [hsum] at hst
      have hln : A + (vi N).length = q + 1 := by rw [hlk, vi_lt hM1, ← hq]; simp; omega
      obtain ⟨w6, hw6⟩ : ∃ w6, w5.setCell ⟨w.heap.size, 2, none⟩ (.bool true) = w6 := ⟨_, rfl⟩
      have ho6 : ∀ j, j ≠ w.heap.size → w6.heap[j]? = w5.heap[j]? := fun j hj => by rw [← hw6]; exact setCell_heap _ _ _ _ hj
      have k60 : w6.heap[w.heap.size]? = some (.cells (curC (.slice (some ⟨g, off, none⟩) bn bc) (q + 1)) 123 (0, 0)) := by rw [← hw6]; exact setCell_blk hR1.k0 _
      have hR6 : NmR w w6 (.slice (some ⟨g, off, none⟩) bn bc) (q + 1) := ⟨⟨by rw [← hw6]; exact hR1.bl.os, by rw [← hw6]; exact hR1.bl.tape, by rw [← hw6]; exact hR1.bl.output, by rw [← hw6, setCell_size]; exact hR1.bl.size, fun j hj => (ho6 j (by omega)).trans (hR1.bl.block j hj)⟩, k60, (ho6 _ (by omega)).trans hR1.k1⟩
      have z52 : w5.cell? ⟨w.heap.size, 2, none⟩ = some (.bool true) := cell_of_row w5 _ 2 _ _ _ hR1.k0
      have f52 : w5.frozen? ⟨w.heap.size, 2, none⟩ = false := by simp [World.frozen?, hR1.k0]
      have hle : (N : Int) ≤ (most : Int) := by have := HV.out.2.2.2.1; omega
      have m0 : (0 : Int) ≤ (M : Int) := by omega
      have m1 : (M : Int) < 128 := by omega
      have HST2 := Lib.hid hst
      have HR6 := Lib.hid (And.intro hR6 hln)
      clear hR hR1 hdk hlk hdm hlt hM9 hx1 hx2 hgx hdr hcell hsum hln hR6 ho6 k60 hM ha hq hql hq1 hk hxn e2 e3
      go_upto_region 10 with (fail)
      clear hw5 hw6 z0 z1 z2 f1 c0 z52 f52 hand hst hqb hle
      have hRd : NmR w w6.drew (.slice (some ⟨g, off, none⟩) bn bc) (q + 1) := ⟨below_drewN HR6.out.1.bl 1, HR6.out.1.k0, HR6.out.1.k1⟩
      have hS0 : w6.drew.cell? ⟨w.heap.size, 0, none⟩ = some (.slice (some ⟨g, off, none⟩) bn bc) ∧ w6.drew.cell? ⟨w.heap.size, 1, none⟩ = some (.int .i64 (q + 1 : Nat)) ∧ w6.drew.cell? ⟨w.heap.size, 2, none⟩ = some (.bool true) :=
        ⟨cell_of_row _ _ 0 _ _ _ hRd.k0, cell_of_row _ _ 1 _ _ _ hRd.k0, cell_of_row _ _ 2 _ _ _ hRd.k0⟩
      obtain ⟨w7, hw7⟩ : ∃ w7, w6.drew.setRow (w.heap.size + 1) (curC (.slice (some ⟨g, off, none⟩) bn bc) (q + 1)) = w7 := ⟨_, rfl⟩
      have k7 : Hid (w7.heap[w.heap.size + 1]? = some (.cells (curC (.slice (some ⟨g, off, none⟩) bn bc) (q + 1)) 123 (0, 0))) := by
        show _ = _
        rw [← hw7]; exact setRow_heap _ _ _ _ _ _ hRd.k1
      have ho7 : ∀ j, j ≠ w.heap.size + 1 → w7.heap[j]? = w6.drew.heap[j]? := fun j hj => by rw [← hw7]; exact setRow_other hj
      have hpost : Hid (NumPost w (.slice (some ⟨g, off, none⟩) bn bc) A N (.returned (.tuple #[.int .u64 N, .agg (curC (.slice (some ⟨g, off, none⟩) bn bc) (q + 1))])) w7) :=
        ⟨by rw [HR6.out.2], ⟨by rw [← hw7]; exact hRd.bl.os, by rw [← hw7]; exact hRd.bl.tape, by rw [← hw7]; exact hRd.bl.output, by rw [← hw7, setRow_size]; exact hRd.bl.size, fun j hj => (ho7 j (by omega)).trans (hRd.bl.block j hj)⟩⟩
      have HK1 := Lib.hid hRd.k1
      clear hRd ho7
      refine wp_region_U (fun W => W.cell? ⟨w.heap.size, 0, none⟩ = some (.slice (some ⟨g, off, none⟩) bn bc) ∧ W.cell? ⟨w.heap.size, 1, none⟩ = some (.int .i64 (q + 1 : Nat)) ∧ W.cell? ⟨w.heap.size, 2, none⟩ = some (.bool true)) [3] (by kernel_rfl) ?_
      refine wpAnyU_take (i := 0) [2, 3] rfl (by as_aux_lemma => kernel_rfl) (by as_aux_lemma => kernel_rfl) (by as_aux_lemma => kernel_rfl) (by as_aux_lemma => kernel_rfl) (by as_aux_lemma => kernel_rfl) (by as_aux_lemma => kernel_rfl) (fun _ _ _ h => h) (Or.inl ⟨by rfl, (by intro W hSW; (try dsimp only at hSW); (try go_split_ands); go_simp <;> with_reducible rfl)⟩) hS0 ?_
      try simp only [Act.put, List.getElem_toArray, List.getElem_cons_succ, List.getElem_cons_zero, List.setIfInBounds_toArray, List.set_cons_zero, List.set_cons_succ]
      refine wpAnyU_take (i := 1) [3] rfl (by as_aux_lemma => kernel_rfl) (by as_aux_lemma => kernel_rfl) (by as_aux_lemma => kernel_rfl) (by as_aux_lemma => kernel_rfl) (by as_aux_lemma => kernel_rfl) (by as_aux_lemma => kernel_rfl) (fun _ _ _ h => h) (Or.inl ⟨by rfl, (by intro W hSW; (try dsimp only at hSW); (try go_split_ands); go_simp <;> with_reducible rfl)⟩) hS0 ?_
      try simp only [Act.put, List.getElem_toArray, List.getElem_cons_succ, List.getElem_cons_zero, List.setIfInBounds_toArray, List.set_cons_zero, List.set_cons_succ]
      refine wpAnyU_take (i := 2) [3] rfl (by as_aux_lemma => kernel_rfl) (by as_aux_lemma => kernel_rfl) (by as_aux_lemma => kernel_rfl) (by as_aux_lemma => kernel_rfl) (by as_aux_lemma => kernel_rfl) (by as_aux_lemma => kernel_rfl) (fun _ _ _ h => h) (Or.inl ⟨by rfl, (by intro W hSW; (try dsimp only at hSW); (try go_split_ands); go_simp <;> with_reducible rfl)⟩) hS0 ?_
      try simp only [Act.put, List.getElem_toArray, List.getElem_cons_succ, List.getElem_cons_zero, List.setIfInBounds_toArray, List.set_cons_zero, List.set_cons_succ]
      refine wpAnyU_one (i := 3) (by kernel_rfl) rfl (fun K hK => ?_)
      refine step_store_is rfl _ _ _ rfl (w.heap.size + 1) (curC (.slice (some ⟨g, off, none⟩) bn bc) (q + 1)) (by simp [Act.eval, Act.put]) (by simp [Act.eval, Act.put]) _ _ HK1.out infoCu rfl (by simp [Value.oneCell']) ?_
      rw [hw7]
      refine hK.out _ _ (fun h => absurd h (by decide)) (fun _ => ?_)
      clear hK K
      try simp only [Act.put, List.getElem_toArray, List.getElem_cons_succ, List.getElem_cons_zero, List.setIfInBounds_toArray, List.set_cons_zero, List.set_cons_succ]
      refine wpAnyU_done (by kernel_rfl) ?_ _
      clear hS0
      go_wp2
      exact bodyPost_ret (v := .tuple #[.int .u64 N, .agg (curC (.slice (some ⟨g, off, none⟩) bn bc) (q + 1))]) (by simp [results, Try.results72, asAddr, run_loadVar_row w7 (w.heap.size + 1) 123 123 _ (0, 0) _ k7.out Try.underlying123 rfl infoCu]) rfl hpost.out
    · have hM2 : 128 ≤ M := by omega
      rw [vi_ge hM2, List.cons_append] at hx
      injection hx with hx1 hx2
      have hxn : x.toNat = M % 128 + 128 := by rw [← hx1, UInt8.toNat_ofNat']; omega
      rw [hxn] at c0
      obtain ⟨y, hy⟩ : ∃ y, M % 128 = y := ⟨_, rfl⟩
      have hy1 : y < 128 := by omega
      have hand := and127 (y + 128) (by omega)
      rw [show (y + 128) % 128 = y by omega] at hand
      have hkl : k < 9 := by
        rcases Nat.lt_or_ge k 9 with h | h
        · exact h
        · have := hM9 (by omega); omega
      have hy2 : y * 128 ^ k ≤ 128 ^ k * M := by
        rw [Nat.mul_comm]
        exact Nat.mul_le_mul_left _ (by omega)
      have hst := num_step a y k hk hlt hy1 (by have := HV.out.2.2.1; omega)
      have hdd : N / 128 ^ (k + 1) = M / 128 := by rw [Nat.pow_succ, ← Nat.div_div_eq_div_mul, hM]
      have hmd : N % 128 ^ (k + 1) = a + y * 128 ^ k := by
        rw [Nat.pow_succ, Nat.mod_mul, ha, hM, hy, Nat.mul_comm]
      rw [hy] at c0
      obtain ⟨b8, hb8⟩ : ∃ b8, y + 128 = b8 := ⟨_, rfl⟩
      rw [hb8] at c0 hand
      have hln : (vi N).length = k + 1 + (vi (M / 128)).length := by rw [hlk, vi_len_add M hM2]; omega
      have HN := Lib.hid (And.intro hkl (And.intro hst (And.intro hmd (And.intro hR1 (And.intro (show l.drop (A + (k + 1)) = vi (N / 128 ^ (k + 1)) ++ rest by rw [hdd, ← Nat.add_assoc, hq, hdr, ← hx2]) (show (vi N).length = k + 1 + (vi (N / 128 ^ (k + 1))).length by rw [hdd]; exact hln))))))
      have HQ := Lib.hid hq
      have m0 : (0 : Int) ≤ (b8 : Int) := by omega
      have m1 : (b8 : Int) < 256 := by omega
      have m2 : ¬ (b8 : Int) < 128 := by omega
      have y0 : (0 : Int) ≤ (y : Int) := by omega
      have y1 : (y : Int) < 128 := by omega
      clear hR hR1 hdk hlk hdm hlt hM9 hx1 hx2 hgx hdr hcell hM ha hq hql hq1 hk hxn e2 e3 hb8 hy hy1 hy2 hdd hmd hln hkl hM1 hM2
      go_wp2
      go_roundw
      case rel => exact ⟨k + 1, HN.out.1, by go_num, by rw [HN.out.2.2.1]; push_cast; rfl, by rw [← Nat.add_assoc, HQ.out]; exact HN.out.2.2.2.1, HN.out.2.2.2.2.1, HN.out.2.2.2.2.2⟩
      case measure => have := HN.out.1; simp [intOf]; omega

def CutPost7 (w : World) (bv : Value) (A : Nat) (b : List UInt8) (e : Ending) (w' : World) : Prop :=
  ∃ a c, e = .returned (.tuple #[.slice a b.length c, .agg (curC bv (A + (txt b).length))]) ∧ OwnB w' w.heap.size 5 (.slice a b.length c) b ∧ Below w.heap.size w w'

theorem app_nilB {F : Foot} {w : World} {s : Value} {ys : List UInt8} (hs : RdB F w s ys) (hl : ys.length ≤ 1073741824) :
    ∃ a c w', (Builtin.append_ #[23, 23] 23 #[.slice none 0 0, s]).run Try.prog w = .ok (.slice a ys.length c) w' ∧ OwnB w' w.heap.size 5 (.slice a ys.length c) ys ∧ Below w.heap.size w w' := by
  obtain ⟨v3, w3, hr, ho, hgr, hob, hnil⟩ := append_bytes (base := w.heap.size) (ty := 23) (OwnB.nil w w.heap.size 5) hs (by simp; omega) (Nat.le_refl _)
  rw [List.nil_append] at ho
  obtain ⟨a, c, e⟩ : ∃ a c, v3 = .slice a ys.length c := by
    rcases ho.2 with ⟨e1, e2⟩ | ⟨g, cap, cur, e1, -⟩
    · exact ⟨none, 0, by rw [e1, e2]⟩
    · exact ⟨_, _, e1⟩
  subst e
  refine ⟨a, c, w3, hr, ho, ⟨hgr.os, hgr.tape, hgr.output, hgr.size, fun k hk => hgr.block k hk (fun e => by have e9 : some k = (none : Option Nat) := e; cases e9)⟩⟩

set_option maxHeartbeats 4000000 in
theorem r7cut {F : Foot} (w : World) (bv : Value) (l : List UInt8) (A : Nat) (b : List UInt8) (rest : List UInt8) (hv : RdB F w bv l) (hd : l.drop A = txt b ++ rest) (hb : b.length ≤ 1048576) (hl : l.length ≤ 1073741824) :
    Calls Try.prog 73 #[.agg (curC bv A)] w (CutPost7 w bv A b) := by
  obtain ⟨ba, bn, bc, rfl, HBN, -, -⟩ := hv.formN
  obtain ⟨wb, hwb⟩ : ∃ wb, (w.alloc (.cells (curC (.slice ba bn bc) A) 123)).alloc (.cells #[.slice none 0 0, .int .i64 0, .bool false] 123) = wb := ⟨_, rfl⟩
  have s1 : (w.alloc (.cells (curC (.slice ba bn bc) A) 123)).heap.size = w.heap.size + 1 := World.size_alloc _ _
  have hst : NmR w wb (.slice ba bn bc) A := by
    rw [← hwb]
    exact ⟨below_more (below_more (Below.refl _ _) _) _, by rw [heap_alloc_old _ _ (by rw [s1]; omega)]; exact heap_alloc_new w _, by rw [← s1]; exact heap_alloc_new _ _⟩
  unfold txt at hd
  rw [List.append_assoc] at hd
  have hnm := r7num wb _ l A b.length 1048576 (b ++ rest) (hv.below hst.bl) hd (by omega) hb (by omega) hl
  have HST := Lib.hid hst
  have HNM := Lib.hid hnm
  have hle : A + (vi b.length).length + b.length ≤ l.length := by
    have h9 := congrArg List.length hd
    rw [List.length_drop, List.length_append, List.length_append] at h9
    have := vi_pos b.length
    omega
  have hdb : (l.drop (A + (vi b.length).length)).take b.length = b := by
    rw [← List.drop_drop, hd, List.drop_left' rfl, List.take_left' rfl]
  have HV := Lib.hid (And.intro hv (And.intro hdb (And.intro hb (And.intro hl hle))))
  clear hst hv hd hb hl s1 hnm hle hdb
  go_enter Try.func73, Try.ntmps73
  go_wp2_with (first | (refine wpList_load_row rfl _ _ rfl w.heap.size rfl _ _ (0, 0) _ HST.out.k0 Try.underlying123 rfl infoCu ?_) | fail)
  refine HNM.out.mono ?_
  rintro e w4 ⟨rfl, hb4⟩
  obtain ⟨q, hq⟩ : ∃ q, A + (vi b.length).length = q := ⟨_, rfl⟩
  obtain ⟨n, hn⟩ : ∃ n, b.length = n := ⟨_, rfl⟩
  rw [hq, hn]
  have k40 := (hb4.block _ (lt_of_block HST.out.k0)).trans HST.out.k0
  have k41 := (hb4.block _ (lt_of_block HST.out.k1)).trans HST.out.k1
  obtain ⟨w5, hw5⟩ : ∃ w5, w4.setRow w.heap.size (curC (.slice ba bn bc) q) = w5 := ⟨_, rfl⟩
  have ho5 : ∀ j, j ≠ w.heap.size → w5.heap[j]? = w4.heap[j]? := fun j hj => by rw [← hw5]; exact setRow_other hj
  have hb4w := HST.out.bl.trans (hb4.mono HST.out.bl.size)
  have hR5 : NmR w w5 (.slice ba bn bc) q := ⟨⟨by rw [← hw5]; exact hb4w.os, by rw [← hw5]; exact hb4w.tape, by rw [← hw5]; exact hb4w.output, by rw [← hw5, setRow_size]; exact hb4w.size, fun j hj => (ho5 j (by omega)).trans (hb4w.block j hj)⟩, by rw [← hw5]; exact setRow_heap _ _ _ _ _ _ k40, (ho5 _ (by omega)).trans k41⟩
  have z0 : w5.cell? ⟨w.heap.size, 0, none⟩ = some (.slice ba bn bc) := cell_of_row w5 _ 0 _ _ _ hR5.k0
  have z1 : w5.cell? ⟨w.heap.size, 1, none⟩ = some (.int .i64 q) := cell_of_row w5 _ 1 _ _ _ hR5.k0
  have z2 : w5.cell? ⟨w.heap.size, 2, none⟩ = some (.bool true) := cell_of_row w5 _ 2 _ _ _ hR5.k0
  have hqn : q + n ≤ bn := by have := HV.out.2.2.2.2; have := HBN.out; omega
  obtain ⟨a1, c1, hsl, hrd⟩ := slice_bytes (HV.out.1.below hR5.bl) q (q + n) (q : Int) ((q : Int) + (n : Int)) rfl (by push_cast; rfl) (by omega) (by have := HBN.out; omega)
  rw [show q + n - q = n by omega] at hsl hrd
  have hdb : (l.drop q).take n = b := by have h9 := HV.out.2.1; rw [hq, hn] at h9; exact h9
  rw [hdb] at hrd
  obtain ⟨ra, rc, w6, hr6, ho6, hb6⟩ := app_nilB hrd (by have := HV.out.2.2.1; omega)
  rw [hn] at hr6 ho6
  have hR6 : NmR w w6 (.slice ba bn bc) q := ⟨hR5.bl.trans (hb6.mono hR5.bl.size), (hb6.block _ (lt_of_block hR5.k0)).trans hR5.k0, (hb6.block _ (lt_of_block hR5.k1)).trans hR5.k1⟩
  have y1 : w6.cell? ⟨w.heap.size, 1, none⟩ = some (.int .i64 q) := cell_of_row w6 _ 1 _ _ _ hR6.k0
  have f1 : w6.frozen? ⟨w.heap.size, 1, none⟩ = false := by simp [World.frozen?, hR6.k0]
  have hcn : IntKind.i64.wrap (n : Int) = (n : Int) := by rw [IntKind.wrap_i64]; have := HV.out.2.2.1; omega
  have hqi : (q : Int) ≤ 1073741824 := by have := HV.out.2.2.2.1; have := HBN.out; omega
  have hni : (n : Int) ≤ 1073741824 := by have := HV.out.2.2.1; omega
  have hq0 : (0 : Int) ≤ (q : Int) := by omega
  have hn0 : (0 : Int) ≤ (n : Int) := by omega
  have hbi : (bn : Int) ≤ 1073741824 := by have := HV.out.2.2.2.1; have := HBN.out; omega
  have hgt : ¬ ((n : Int) > (bn : Int) - (q : Int)) := by omega
  obtain ⟨w7, hw7⟩ : ∃ w7, w6.setCell ⟨w.heap.size, 1, none⟩ (.int .i64 ((q : Int) + (n : Int))) = w7 := ⟨_, rfl⟩
  have ho7 : ∀ j, j ≠ w.heap.size → w7.heap[j]? = w6.heap[j]? := fun j hj => by rw [← hw7]; exact setCell_heap _ _ _ _ hj
  have hR7 : NmR w w7 (.slice ba bn bc) (q + n) := ⟨⟨by rw [← hw7]; exact hR6.bl.os, by rw [← hw7]; exact hR6.bl.tape, by rw [← hw7]; exact hR6.bl.output, by rw [← hw7, setCell_size]; exact hR6.bl.size, fun j hj => (ho7 j (by omega)).trans (hR6.bl.block j hj)⟩, by rw [← hw7]; exact setCell_blk hR6.k0 _, (ho7 _ (by omega)).trans hR6.k1⟩
  have ho7' : OwnB w7 w.heap.size 5 (.slice ra n rc) b := by
    have h9 := ownsRow_keep ho6 (w' := w7) (fun k e => ho7 k (by have := (ho6.lt k e).1; have := lt_of_block hR5.k0; omega))
    exact ownsRow_base h9 (fun k e => by have := (h9.lt k e).1; have := hR5.bl.size; omega)
  have HR7 := Lib.hid (And.intro hR7 ho7')
  have K4 := Lib.hid k40
  have HR6 := Lib.hid hr6
  have HQN := Lib.hid (And.intro hq hn)
  clear hb4 k40 k41 ho5 hb4w hR5 hqn hrd hdb hr6 ho6 hb6 hR6 ho7 hR7 ho7' hq hn HNM hwb
  go_upto_region 8 with (first | (refine wpList_store_row rfl _ _ _ rfl w.heap.size _ rfl rfl _ _ K4.out infoCu rfl (by simp [Value.oneCell']) ?_; rw [hw5]) | (at_builtin; refine wpList_append_eq rfl rfl HR6.out rfl rfl ?_; clear HR6) | fail)
  try rw [hw7]
  clear hw5 hw7 z0 z1 z2 y1 f1 hsl hcn
  have hRd : NmR w w7.drew (.slice ba bn bc) (q + n) := ⟨below_drewN HR7.out.1.bl 1, HR7.out.1.k0, HR7.out.1.k1⟩
  have hS0 : w7.drew.cell? ⟨w.heap.size, 0, none⟩ = some (.slice ba bn bc) ∧ w7.drew.cell? ⟨w.heap.size, 1, none⟩ = some (.int .i64 (q + n : Nat)) ∧ w7.drew.cell? ⟨w.heap.size, 2, none⟩ = some (.bool true) :=
    ⟨cell_of_row _ _ 0 _ _ _ hRd.k0, cell_of_row _ _ 1 _ _ _ hRd.k0, cell_of_row _ _ 2 _ _ _ hRd.k0⟩
  obtain ⟨w8, hw8⟩ : ∃ w8, w7.drew.setRow (w.heap.size + 1) (curC (.slice ba bn bc) (q + n)) = w8 := ⟨_, rfl⟩
  have k8 : Hid (w8.heap[w.heap.size + 1]? = some (.cells (curC (.slice ba bn bc) (q + n)) 123 (0, 0))) := by
    show _ = _
    rw [← hw8]; exact setRow_heap _ _ _ _ _ _ hRd.k1
  have ho8 : ∀ j, j ≠ w.heap.size + 1 → w8.heap[j]? = w7.drew.heap[j]? := fun j hj => by rw [← hw8]; exact setRow_other hj
  have hpost : Hid (CutPost7 w (.slice ba bn bc) A b (.returned (.tuple #[.slice ra n rc, .agg (curC (.slice ba bn bc) (q + n))])) w8) := by
    refine ⟨ra, rc, ?_, ?_, ⟨by rw [← hw8]; exact hRd.bl.os, by rw [← hw8]; exact hRd.bl.tape, by rw [← hw8]; exact hRd.bl.output, by rw [← hw8, setRow_size]; exact hRd.bl.size, fun j hj => (ho8 j (by omega)).trans (hRd.bl.block j hj)⟩⟩
    · have e : A + (txt b).length = q + n := by unfold txt; rw [List.length_append, ← HQN.out.1, ← HQN.out.2]; omega
      rw [e, HQN.out.2]
    · rw [HQN.out.2]
      refine ownsRow_keep HR7.out.2 (fun k e => ho8 k (fun e2 => ?_))
      subst e2
      obtain ⟨cur, hc⟩ := ownsRow_blk HR7.out.2 e
      exact blk_ne HR7.out.1.k1 hc (by decide) rfl
  have HK1 := Lib.hid hRd.k1
  clear hRd ho8
  refine wp_region_U (fun W => W.cell? ⟨w.heap.size, 0, none⟩ = some (.slice ba bn bc) ∧ W.cell? ⟨w.heap.size, 1, none⟩ = some (.int .i64 (q + n : Nat)) ∧ W.cell? ⟨w.heap.size, 2, none⟩ = some (.bool true)) [3] (by kernel_rfl) ?_
  refine wpAnyU_take (i := 0) [2, 3] rfl (by as_aux_lemma => kernel_rfl) (by as_aux_lemma => kernel_rfl) (by as_aux_lemma => kernel_rfl) (by as_aux_lemma => kernel_rfl) (by as_aux_lemma => kernel_rfl) (by as_aux_lemma => kernel_rfl) (fun _ _ _ h => h) (Or.inl ⟨by rfl, (by intro W hSW; (try dsimp only at hSW); (try go_split_ands); go_simp <;> with_reducible rfl)⟩) hS0 ?_
  try simp only [Act.put, List.getElem_toArray, List.getElem_cons_succ, List.getElem_cons_zero, List.setIfInBounds_toArray, List.set_cons_zero, List.set_cons_succ]
  refine wpAnyU_take (i := 1) [3] rfl (by as_aux_lemma => kernel_rfl) (by as_aux_lemma => kernel_rfl) (by as_aux_lemma => kernel_rfl) (by as_aux_lemma => kernel_rfl) (by as_aux_lemma => kernel_rfl) (by as_aux_lemma => kernel_rfl) (fun _ _ _ h => h) (Or.inl ⟨by rfl, (by intro W hSW; (try dsimp only at hSW); (try go_split_ands); go_simp <;> with_reducible rfl)⟩) hS0 ?_
  try simp only [Act.put, List.getElem_toArray, List.getElem_cons_succ, List.getElem_cons_zero, List.setIfInBounds_toArray, List.set_cons_zero, List.set_cons_succ]
  refine wpAnyU_take (i := 2) [3] rfl (by as_aux_lemma => kernel_rfl) (by as_aux_lemma => kernel_rfl) (by as_aux_lemma => kernel_rfl) (by as_aux_lemma => kernel_rfl) (by as_aux_lemma => kernel_rfl) (by as_aux_lemma => kernel_rfl) (fun _ _ _ h => h) (Or.inl ⟨by rfl, (by intro W hSW; (try dsimp only at hSW); (try go_split_ands); go_simp <;> with_reducible rfl)⟩) hS0 ?_
  try simp only [Act.put, List.getElem_toArray, List.getElem_cons_succ, List.getElem_cons_zero, List.setIfInBounds_toArray, List.set_cons_zero, List.set_cons_succ]
  refine wpAnyU_one (i := 3) (by kernel_rfl) rfl (fun K hK => ?_)
  refine step_store_is rfl _ _ _ rfl (w.heap.size + 1) (curC (.slice ba bn bc) (q + n)) (by simp [Act.eval, Act.put]) (by simp [Act.eval, Act.put]) _ _ HK1.out infoCu rfl (by simp [Value.oneCell']) ?_
  rw [hw8]
  refine hK.out _ _ (fun h => absurd h (by decide)) (fun _ => ?_)
  clear hK K
  try simp only [Act.put, List.getElem_toArray, List.getElem_cons_succ, List.getElem_cons_zero, List.setIfInBounds_toArray, List.set_cons_zero, List.set_cons_succ]
  refine wpAnyU_done (by kernel_rfl) ?_ _
  clear hS0
  go_wp2
  exact bodyPost_ret (v := .tuple #[.slice ra n rc, .agg (curC (.slice ba bn bc) (q + n))]) (by simp [results, Try.results73, asAddr, run_loadVar_row w8 (w.heap.size + 1) 123 123 _ (0, 0) _ k8.out Try.underlying123 rfl infoCu]) rfl hpost.out
end Mun
