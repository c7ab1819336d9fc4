/- A row of numbers of which the head is cut off and behind which is laid. -/
import Derived.Test.YtjfepmohoijalaaMgC
import Derived.Laws.Append
set_option maxRecDepth 100000
set_option linter.unusedVariables false
set_option linter.unusedSimpArgs false
namespace Mun
open Go Go.RowKit
open Go.Proofs

/-- the block of a slice -/
def qblk : Value → Option Nat
  | .slice (some a) _ _ => some a.block
  | _ => none
theorem zv_length (l : List Int) : (zv l).length = l.length := by simp [zv]
/-- a row of numbers, in a block of numbers, its spare room in that block too -/
def HAt (w : World) (q : Value) (l : List Int) : Prop :=
  (q = .slice none 0 0 ∧ l = []) ∨ ∃ g off c cur, q = .slice (some ⟨g, off, none⟩) l.length c ∧ w.heap[g]? = some (.cells cur 3 (0, 0)) ∧ l.length ≤ c ∧ c ≤ maxLen ∧ off + c * 1 ≤ cur.size ∧ (cur.toList.drop off).take (l.length * 1) = zv l
theorem HAt.keep {w w' : World} {q : Value} {l : List Int} (h : HAt w q l) (hk : ∀ g, qblk q = some g → w'.heap[g]? = w.heap[g]?) : HAt w' q l := by
  rcases h with h | ⟨g, off, c, cur, rfl, h1, rest⟩
  · exact .inl h
  · exact .inr ⟨g, off, c, cur, rfl, (hk g rfl).trans h1, rest⟩
theorem HAt.blk {w : World} {q : Value} {l : List Int} (h : HAt w q l) {g : Nat} (hg : qblk q = some g) : ∃ cur, w.heap[g]? = some (.cells cur 3 (0, 0)) := by
  rcases h with ⟨rfl, _⟩ | ⟨g', off, c, cur, rfl, h1, rest⟩
  · simp [qblk] at hg
  · simp only [qblk, Option.some.injEq] at hg
    subst hg
    exact ⟨cur, h1⟩
/-- its form, and its numbers -/
theorem HAt.form {w : World} {q : Value} {l : List Int} (h : HAt w q l) : ∃ a n c, q = .slice a n c ∧ n = l.length ∧ n ≤ c := by
  rcases h with ⟨rfl, rfl⟩ | ⟨g, off, c, cur, rfl, h1, h2, rest⟩
  · exact ⟨none, 0, 0, rfl, rfl, Nat.le_refl _⟩
  · exact ⟨_, _, c, rfl, rfl, h2⟩
theorem HAt.at_ {w : World} {q : Value} {l : List Int} (h : HAt w q l) (j : Nat) (x : Int) (hx : l[j]? = some x) : ∃ g off c, q = .slice (some ⟨g, off, none⟩) l.length c ∧ l.length ≤ c ∧ w.cell? ⟨g, off + j, none⟩ = some (.int .i64 x) := by
  have hj := (List.getElem?_eq_some_iff.1 hx).1
  rcases h with ⟨rfl, rfl⟩ | ⟨g, off, c, cur, rfl, h1, h2, h3, h4, h5⟩
  · simp at hj
  · refine ⟨g, off, c, rfl, h2, ?_⟩
    rw [cell_of_row w g _ _ _ _ h1, ← Array.getElem?_toList]
    have h6 : (zv l)[j]? = some (.int .i64 x) := by simp [zv, hx]
    rw [← h5, List.getElem?_take, if_pos (by omega), List.getElem?_drop] at h6
    exact h6
/-- its head cut off -/
theorem HAt.tail {w : World} {g off c : Nat} {x : Int} {l : List Int} (h : HAt w (.slice (some ⟨g, off, none⟩) (l.length + 1) c) (x :: l)) : HAt w (.slice (some ⟨g, off + 1, none⟩) l.length (c - 1)) l := by
  rcases h with ⟨e, _⟩ | ⟨g', off', c', cur, e, h1, h2, h3, h4, h5⟩
  · cases e
  · injection e with e1 e2 e3
    injection e1 with e1
    injection e1 with e1 e4 e5
    subst e1 e3 e4
    simp only [List.length_cons] at h2 h5
    refine .inr ⟨g, off + 1, c - 1, cur, rfl, h1, by omega, by omega, by omega, ?_⟩
    have h6 : (zv (x :: l)).drop 1 = zv l := rfl
    rw [← h6, ← h5, List.drop_take, List.drop_drop]
    congr 1

/-- an append where there is room, the slice beginning at whatever cell of its block -/
theorem run_append_room_off {P : Program} (w : World) (t ty e : TypeId) (i : TypeInfo) (ht : P.underlying t = some (.slice e)) (hi : P.info? e = some i)
    (g off sLen sCap : Nat) (cur : Array Value) (hg : w.heap[g]? = some (.cells cur e (0, 0)))
    (a : Addr) (m c : Nat) (news : List Value) (hl : news.length = m * i.size) (hnews : ∀ j u, news[j]? = some u → w.cell? (a.add j) = some u) (h1 : ∀ u ∈ news, u.oneCell' = true)
    (hroom : sLen + m ≤ sCap) (hfit : off + sLen * i.size + news.length ≤ cur.size) :
    (Builtin.append_ #[t, t] ty #[.slice (some ⟨g, off, none⟩) sLen sCap, .slice (some a) m c]).run P w =
      .ok (.slice (some ⟨g, off, none⟩) (sLen + m) sCap) (w.setRow g (cur.toList.take (off + sLen * i.size) ++ news ++ cur.toList.drop (off + sLen * i.size + news.length)).toArray) := by
  have hf := run_firstCells_some (P := P) w i.size m a m c news hl hnews
  have hst := run_storeCells_at P g (off + sLen * i.size) e news 0 cur w hg (by simpa using hfit) h1
  simp only [Nat.add_zero] at hst
  have ha : (⟨g, off, none⟩ : Addr).add (sLen * i.size) = ⟨g, off + sLen * i.size, none⟩ := addr_add _ _ _
  simp [Builtin.append_, run_underlying ht, Go.sizeOf, typeInfo, hi, Builtin.lenOf, hroom, hf, ha, hst]

theorem held_push {w : World} {q : Value} {l : List Int} (h : HAt w q l) (hn : l.length ≤ 8796093022200) (o : Int) (ty : TypeId) :
    ∃ q' w', (Builtin.append_ #[22, 22] ty #[q, .slice (some ⟨w.heap.size, 0, none⟩) 1 1]).run Try.prog (w.alloc (.cells #[.int .i64 o] 3)) = .ok q' w' ∧
      HAt w' q' (l ++ [o]) ∧ (∀ g, qblk q' = some g → qblk q = some g ∨ w.heap.size ≤ g) ∧ (∀ k, k < w.heap.size → (∀ g, qblk q = some g → k ≠ g) → w'.heap[k]? = w.heap[k]?) ∧ w.heap.size ≤ w'.heap.size ∧
      (w'.os = w.os ∧ w'.tape = w.tape ∧ w'.output = w.output) ∧ ∃ a c, q' = .slice (some a) (l.length + 1) c := by
  obtain ⟨i, hi, hz, h1, h2⟩ := info_of infoI
  have hnb : (w.alloc (.cells #[.int .i64 o] 3)).heap[w.heap.size]? = some (.cells #[.int .i64 o] 3 (0, 0)) := heap_alloc_new w _
  have hnews : ∀ j u, [Value.int .i64 o][j]? = some u → (w.alloc (.cells #[.int .i64 o] 3)).cell? ((⟨w.heap.size, 0, none⟩ : Addr).add j) = some u := by
    intro j u hu
    rw [addr_add, Nat.zero_add, cell_of_row _ _ _ _ _ _ hnb]
    simpa using hu
  have hone : ∀ u ∈ [Value.int .i64 o], u.oneCell' = true := by intro u hu; simp at hu; subst hu; rfl
  rcases h with ⟨rfl, rfl⟩ | ⟨g, off, c, cur, rfl, hg, hlc, hcm, hfit, hrd⟩
  · have hr := run_append_nil (P := Try.prog) (w := w.alloc (.cells #[.int .i64 o] 3)) 22 ty 3 i _ Try.underlying22 hi hz ⟨w.heap.size, 0, none⟩ 1 1 [.int .i64 o] (by rw [h1]; rfl) hnews (by decide) (by decide) (by rw [h2]; decide)
    have hcap := grownCap_ge (w.alloc (.cells #[.int .i64 o] 3)) 1 0 3
    have hcap2 := grownCap_le_maxLen (w.alloc (.cells #[.int .i64 o] 3)) 1 0 3 (by decide)
    refine ⟨_, _, hr, .inr ⟨_, 0, _, _, rfl, heap_alloc_new _ _, hcap, hcap2, ?_, ?_⟩, fun g hg => ?_, fun k hk _ => ?_, ?_, ⟨rfl, rfl, rfl⟩, _, _, rfl⟩
    · have hz2 : (Value.int .i64 0).cells.size = 1 := rfl
      simp only [Array.size_append, List.size_toArray, List.length_cons, List.length_nil, size_zeroCells, hz2]
      omega
    · simp [zv]
    · simp only [qblk, Option.some.injEq] at hg
      right
      rw [← hg]
      simp
    · rw [heap_alloc_old _ _ (by simp; omega)]
      exact heap_alloc_old _ _ hk
    · simp [World.size_alloc]; omega
  · have hga : (w.alloc (.cells #[.int .i64 o] 3)).heap[g]? = some (.cells cur 3 (0, 0)) := (heap_alloc_old _ _ (Array.getElem?_eq_some_iff.1 hg).1).trans hg
    have hgl := (Array.getElem?_eq_some_iff.1 hg).1
    have hal := zv_length l
    by_cases hroom : l.length + 1 ≤ c
    · have hr := run_append_room_off (P := Try.prog) (w.alloc (.cells #[.int .i64 o] 3)) 22 ty 3 i Try.underlying22 hi g off l.length c cur hga ⟨w.heap.size, 0, none⟩ 1 1 [.int .i64 o] (by rw [h1]; rfl) hnews hone hroom (by rw [h1]; simp; omega)
      rw [h1] at hr
      refine ⟨_, _, hr, .inr ⟨g, off, c, _, by rw [List.length_append]; rfl, setRow_heap _ _ _ _ _ _ hga, by rw [List.length_append]; exact hroom, hcm, ?_, ?_⟩, fun g2 hg2 => .inl hg2, fun k hk hkg => ?_, ?_, ⟨rfl, rfl, rfl⟩, _, _, rfl⟩
      · simp only [List.size_toArray, List.length_append, List.length_take, List.length_drop, Array.length_toList, List.length_cons, List.length_nil]
        omega
      · rw [zv_append, List.length_append]
        simp only [List.toList_toArray, List.length_cons, List.length_nil]
        have hlen1 : (cur.toList.take (off + l.length * 1)).length = off + l.length * 1 := by rw [List.length_take, show cur.toList.length = cur.size from Array.length_toList]; omega
        rw [List.append_assoc, List.drop_append_of_le_length (by rw [hlen1]; omega)]
        have e1 : (cur.toList.take (off + l.length * 1)).drop off = zv l := by rw [List.drop_take, Nat.add_sub_cancel_left]; exact hrd
        rw [e1, ← List.append_assoc, List.take_append_of_le_length (by simp [zv] <;> omega), List.take_of_length_le (by simp [zv] <;> omega)]
        rfl
      · rw [setRow_other _ _ _ _ (hkg g rfl)]
        exact heap_alloc_old _ _ hk
      · simp [World.setRow, World.size_alloc]
    · have hcn : c = l.length := by omega
      have holds : ∀ j u, (zv l)[j]? = some u → (w.alloc (.cells #[.int .i64 o] 3)).cell? ((⟨g, off, none⟩ : Addr).add j) = some u := by
        intro j u hu
        rw [addr_add, cell_of_row _ _ _ _ _ _ hga, ← Array.getElem?_toList]
        rw [← hrd, List.getElem?_take] at hu
        split at hu
        · rw [List.getElem?_drop] at hu; exact hu
        · cases hu
      have hr := run_append_grow (P := Try.prog) (w := w.alloc (.cells #[.int .i64 o] 3)) 22 ty 3 i _ Try.underlying22 hi hz ⟨g, off, none⟩ l.length c (zv l) (by rw [h1, Nat.mul_one]; exact hal) holds ⟨w.heap.size, 0, none⟩ 1 1 [.int .i64 o] (by rw [h1]; rfl) hnews (by omega) (by omega) (growslice_fits (by omega) (by rw [h2]; omega))
      have hcap := grownCap_ge (w.alloc (.cells #[.int .i64 o] 3)) (l.length + 1) c 3
      have hcap2 := grownCap_le_maxLen (w.alloc (.cells #[.int .i64 o] 3)) (l.length + 1) c 3 (by unfold maxLen; omega)
      refine ⟨_, _, hr, .inr ⟨_, 0, _, _, by rw [List.length_append]; rfl, heap_alloc_new _ _, by rw [List.length_append]; exact hcap, hcap2, ?_, ?_⟩, fun g2 hg2 => ?_, fun k hk _ => ?_, ?_, ⟨rfl, rfl, rfl⟩, _, _, rfl⟩
      · have hz2 : (Value.int .i64 0).cells.size = 1 := rfl
        simp only [Array.size_append, List.size_toArray, List.length_cons, List.length_nil, size_zeroCells, hz2, hal]
        omega
      · rw [zv_append, List.length_append]
        simp only [Array.toList_append, List.drop_zero, List.toList_toArray, List.length_cons, List.length_nil]
        rw [List.take_append_of_le_length (by simp [zv] <;> omega), List.take_of_length_le (by simp [zv] <;> omega)]
        rfl
      · simp only [qblk, Option.some.injEq] at hg2
        right
        rw [← hg2]
        simp
      · rw [heap_alloc_old _ _ (by simp; omega)]
        exact heap_alloc_old _ _ hk
      · simp [World.size_alloc]; omega
end Mun
