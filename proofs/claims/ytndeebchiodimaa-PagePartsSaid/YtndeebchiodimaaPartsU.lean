/- Uniform contracts of package page, further. -/
import Derived.Test.YtndeebchiodimaaPagesU
set_option maxRecDepth 100000
set_option linter.unusedVariables false
set_option linter.unusedSimpArgs false
namespace Mun
open Go Go.RowKit
open Go.Proofs

theorem pcount_no {F : Foot} (w : World) (v : Value) (p : List UInt8) (hv : RdB F w v p) (hg : ¬ GoodP p) : Calls Try.prog 33 #[v] w fun e w' => e = .returned (.tuple #[.int .i64 0, .int .i64 4]) ∧ Below w.heap.size w w' := by
  have hgo := pof_no w v p hv hg
  obtain ⟨a, n, c, rfl, HN, -, -⟩ := hv.formN
  have HG := Lib.hid hgo
  clear hgo hv hg HN
  go_enter Try.func33, Try.ntmps33
  go_wp2_with fail
  refine HG.out.mono ?_
  rintro e w2 ⟨rfl, hb⟩
  have HB := Lib.hid hb
  clear hb
  go_wp2
  go_ret2
  exact ⟨rfl, HB.out.alloc HB.out.size _⟩
theorem pfree_no {F : Foot} (w : World) (v : Value) (p : List UInt8) (hv : RdB F w v p) (hg : ¬ GoodP p) : Calls Try.prog 15 #[v] w fun e w' => e = .returned (.tuple #[.int .i64 0, .int .i64 4]) ∧ Below w.heap.size w w' := by
  have hgo := pof_no w v p hv hg
  obtain ⟨a, n, c, rfl, HN, -, -⟩ := hv.formN
  have HG := Lib.hid hgo
  clear hgo hv hg HN
  go_enter Try.func15, Try.ntmps15
  go_wp2_with fail
  refine HG.out.mono ?_
  rintro e w2 ⟨rfl, hb⟩
  have HB := Lib.hid hb
  clear hb
  go_wp2
  go_ret2
  exact ⟨rfl, HB.out.alloc HB.out.size _⟩

open Classical in
noncomputable def newO (k : Int) : PBytes × Int := if k < 0 ∨ 255 < k then ([], 1) else (newP k.toNat, 0)
open Classical in
noncomputable def cntO (p : PBytes) : Int × Int := if GoodP p then ((cnt p : Int), 0) else (0, 4)
open Classical in
noncomputable def freO (p : PBytes) : Int × Int := if GoodP p then (freeP p, 0) else (0, 4)
open Classical in
noncomputable def celO (p : PBytes) (i : Int) : PBytes × Int := if ¬ GoodP p then ([], 4) else if i < 0 ∨ (cnt p : Int) ≤ i then ([], 1) else (cellP p i.toNat, 0)
open Classical in
noncomputable def lstO (p : PBytes) : List PBytes × Int := if GoodP p then (cellsP p (cnt p), 0) else ([], 4)
open Classical in
noncomputable def comO (p : PBytes) : PBytes × Int := if GoodP p then (anewP p, 0) else ([], 4)
open Classical in
noncomputable def seaO (p : PBytes) (l : Nat) : PBytes × Int := if GoodP p then (sealP p l, 0) else ([], 4)
def setBad (l x : Int) : Prop := l < 0 ∨ 4294967296 ≤ l ∨ x < 0 ∨ 4294967296 ≤ x
open Classical in
noncomputable def setO (p : PBytes) (l x : Int) : PBytes × Int := if ¬ GoodP p then ([], 4) else if setBad l x then ([], 1) else (setP p l.toNat x.toNat, 0)
structure Hd where
  k : Int
  l : Int
  a : Int
  b : Int
  e : Int
open Classical in
noncomputable def hedO (p : PBytes) : Hd := if GoodP p then ⟨gt p 12 1, gt p 4 8, gt p 18 4, gt p 22 4, 0⟩ else ⟨0, 0, 0, 0, 4⟩

section
variable {w : World} {v : Value} {p : List UInt8}
theorem new_u (k : Int) : Calls Try.prog 30 #[.int .i64 k] w (Out1 w (newO k)) := by
  unfold newO
  by_cases hb : k < 0 ∨ 255 < k
  · rw [if_pos hb]; exact (new_no w k hb).mono fun _ _ h => h.out1
  · rw [if_neg hb]
    obtain ⟨j, rfl⟩ := Int.eq_ofNat_of_zero_le (show 0 ≤ k by omega)
    exact (new_yes w j (by omega)).mono fun _ _ h => h.out1
theorem count_u (hv : RdB NoF w v p) : Calls Try.prog 33 #[v] w fun e w' => e = .returned (.tuple #[.int .i64 (cntO p).1, .int .i64 (cntO p).2]) ∧ Below w.heap.size w w' := by
  unfold cntO
  by_cases hg : GoodP p
  · rw [if_pos hg]; exact pcount_yes w v p hv hg
  · rw [if_neg hg]; exact pcount_no w v p hv hg
theorem free_u (hv : RdB NoF w v p) : Calls Try.prog 15 #[v] w fun e w' => e = .returned (.tuple #[.int .i64 (freO p).1, .int .i64 (freO p).2]) ∧ Below w.heap.size w w' := by
  unfold freO
  by_cases hg : GoodP p
  · rw [if_pos hg]; exact pfree_yes w v p hv hg
  · rw [if_neg hg]; exact pfree_no w v p hv hg
theorem BytesOut.out1 {w' : World} {c : PBytes} {e : Ending} (h : BytesOut w c e w') (hm : c.length ≤ maxLen) : Out1 w (c, 0) e w' := by
  obtain ⟨g, rfl, hp, hg, hb⟩ := h
  exact ⟨_, _, _, rfl, bobj_rdAt hp _ rfl hm (noF _), hb⟩
theorem cell_u (i : Int) (hv : RdB NoF w v p) : Calls Try.prog 34 #[v, .int .i64 i] w (Out1 w (celO p i)) := by
  unfold celO
  by_cases hg : GoodP p
  · rw [if_neg (by simpa using hg)]
    by_cases hb : i < 0 ∨ (cnt p : Int) ≤ i
    · rw [if_pos hb]
      exact (cell_bad w v p i hv hg (by omega)).mono fun _ _ h => h.out1
    · rw [if_neg hb]
      obtain ⟨j, rfl⟩ := Int.eq_ofNat_of_zero_le (show 0 ≤ i by omega)
      exact (cell_yes w v p j hv hg (by omega)).mono fun _ _ h => h.out1 (by unfold cellP; rw [List.length_take, List.length_drop, hg.len]; unfold maxLen; omega)
  · rw [if_pos hg]
    exact (cell_no w v p i hv hg).mono fun _ _ h => h.out1
theorem cells_u (hv : RdB NoF w v p) : Calls Try.prog 14 #[v] w fun e w' => ∃ a n c us, e = .returned (.tuple #[.slice a n c, .int .i64 (lstO p).2]) ∧ ListsAt NoF w' (.slice a n c) (lstO p).1 us ∧ Below w.heap.size w w' := by
  unfold lstO
  by_cases hg : GoodP p
  · rw [if_pos hg]
    refine (cells_yes w v p hv hg).mono ?_
    rintro e w' ⟨u, gs, rfl, hc, hb⟩
    have hl := hc.lists (cells_max hg)
    obtain ⟨a, n, c, rfl, -, -, -⟩ := hl.form
    exact ⟨a, n, c, _, rfl, hl, hb⟩
  · rw [if_neg hg]
    refine (cells_no w v p hv hg).mono ?_
    rintro e w' ⟨rfl, hb⟩
    exact ⟨_, _, _, [], rfl, ⟨RdV.nil _ _ _, fun i h => by simp at h⟩, hb⟩
theorem compact_u (hv : RdB NoF w v p) : Calls Try.prog 12 #[v] w (Out1 w (comO p)) := by
  unfold comO
  by_cases hg : GoodP p
  · rw [if_pos hg]; exact (compact_yes w v p hv hg (good_anewOk hg)).mono fun _ _ h => h.out1
  · rw [if_neg hg]; exact (compact_no w v p hv hg).mono fun _ _ h => h.out1
theorem seal_u (l : Nat) (hv : RdB NoF w v p) : Calls Try.prog 27 #[v, .int .u64 l] w (Out1 w (seaO p l)) := by
  unfold seaO
  by_cases hg : GoodP p
  · rw [if_pos hg]; exact (seal_yes w v p l hv hg).mono fun _ _ h => h.out1
  · rw [if_neg hg]; exact (seal_no w v p l hv hg).mono fun _ _ h => h.out1
theorem set_u (l x : Int) (hv : RdB NoF w v p) : Calls Try.prog 32 #[v, .int .i64 l, .int .i64 x] w (Out1 w (setO p l x)) := by
  unfold setO
  by_cases hg : GoodP p
  · rw [if_neg (by simpa using hg)]
    by_cases hb : setBad l x
    · rw [if_pos hb]
      unfold setBad at hb
      exact (set_bad w v p l x hv hg (by omega)).mono fun _ _ h => h.out1
    · rw [if_neg hb]
      unfold setBad at hb
      obtain ⟨j, rfl⟩ := Int.eq_ofNat_of_zero_le (show 0 ≤ l by omega)
      obtain ⟨y, rfl⟩ := Int.eq_ofNat_of_zero_le (show 0 ≤ x by omega)
      exact (set_yes w v p j y hv hg (by omega) (by omega)).mono fun _ _ h => h.out1
  · rw [if_pos hg]
    exact (set_no w v p l x hv hg).mono fun _ _ h => h.out1
theorem head_u (hv : RdB NoF w v p) : Calls Try.prog 28 #[v] w fun e w' => e = .returned (.tuple #[.int .i64 (hedO p).k, .int .u64 (hedO p).l, .int .i64 (hedO p).a, .int .i64 (hedO p).b, .int .i64 (hedO p).e]) ∧ Below w.heap.size w w' := by
  unfold hedO
  by_cases hg : GoodP p
  · rw [if_pos hg]; exact head_yes w v p hv hg
  · rw [if_neg hg]; exact head_no w v p hv hg
end
theorem rnew_u (w : World) (k : Nat) (h : k ≤ 255) : Calls Try.prog 36 #[.int .i64 k] w (Out0 w (newP k)) := (r5new w k h).mono fun _ _ h => h.out0
theorem rset_u {w : World} {v : Value} {p : List UInt8} (l x : Nat) (hv : RdB NoF w v p) (hp : p.length = 512) (hl : l < 4294967296) (hx : x < 4294967296) : Calls Try.prog 39 #[v, .int .i64 l, .int .i64 x] w (Out0 w (setP p l x)) := (r5set w v p l x hv hp hl hx).mono fun _ _ h => h.out0
theorem rcompact_u {w : World} {v : Value} {p : List UInt8} (hv : RdB NoF w v p) (hg : GoodP p) : Calls Try.prog 40 #[v] w (Out0 w (anewP p)) := by
  have h := r5compact w v p hv (good_anewOk hg)
  rw [rcomp_eq (good_anewOk hg)] at h
  exact h.mono fun _ _ h => h.out0
theorem rseal_u {w : World} {v : Value} {p : List UInt8} (l : Nat) (hv : RdB NoF w v p) (hp : p.length = 512) (hl : l < 18446744073709551616) : Calls Try.prog 41 #[v, .int .u64 l] w (Out0 w (sealP p l)) := (r5seal w v p l hv hp hl).mono fun _ _ h => h.out0
theorem rdb_n {F : Foot} {w : World} {a : Option Addr} {n c : Nat} {l : List UInt8} (h : RdB F w (.slice a n c) l) : n = l.length := by
  obtain ⟨a', c', e, -⟩ := h.form
  injection e
theorem lists_n {F : Foot} {w : World} {a : Option Addr} {n c : Nat} {cs : List (List UInt8)} {vs : List Value} (h : ListsAt F w (.slice a n c) cs vs) : n = cs.length := by
  obtain ⟨a', c', e, -⟩ := h.row.form
  injection e
end Mun
