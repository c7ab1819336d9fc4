/- An ask laid behind a queue. -/
import Derived.Test.YtbdkhegfmnladaaLockT
import Derived.Laws.Append
set_option maxRecDepth 100000
set_option linter.unusedVariables false
set_option linter.unusedSimpArgs false
namespace Mun
open Go Go.RowKit
open Go.Proofs

/-- an append where there is room, the slice beginning at whatever cell of its block -/
theorem run_append_room_off {P : Program} (w : World) (t ty e : TypeId) (i : TypeInfo) (ht : P.underlying t = some (.slice e)) (hi : P.info? e = some i)
    (g off sLen sCap : Nat) (cur : Array Value) (hg : w.heap[g]? = some (.cells cur e (0, 0)))
    (a : Addr) (m c : Nat) (news : List Value) (hl : news.length = m * i.size) (hnews : ∀ j u, news[j]? = some u → w.cell? (a.add j) = some u) (h1 : ∀ u ∈ news, u.oneCell' = true)
    (hroom : sLen + m ≤ sCap) (hfit : off + sLen * i.size + news.length ≤ cur.size) :
    (Builtin.append_ #[t, t] ty #[.slice (some ⟨g, off, none⟩) sLen sCap, .slice (some a) m c]).run P w =
      .ok (.slice (some ⟨g, off, none⟩) (sLen + m) sCap) (w.setRow g (cur.toList.take (off + sLen * i.size) ++ news ++ cur.toList.drop (off + sLen * i.size + news.length)).toArray) := by
  have hf := run_firstCells_some (P := P) w i.size m a m c news hl hnews
  have hst := run_storeCells_at P g (off + sLen * i.size) e news 0 cur w hg (by simpa using hfit) h1
  simp only [Nat.add_zero] at hst
  have ha : (⟨g, off, none⟩ : Addr).add (sLen * i.size) = ⟨g, off + sLen * i.size, none⟩ := addr_add _ _ _
  simp [Builtin.append_, run_underlying ht, Go.sizeOf, typeInfo, hi, Builtin.lenOf, hroom, hf, ha, hst]

theorem info_ask : (Try.prog.info? 77).map (fun i => (i.zero, i.size, i.bytes)) = some (some (.agg #[.int .u64 0, .int .i64 0]), 2, 16) := by kernel_rfl

theorem acells_snoc (l : List (Int × Int)) (o m : Int) : acells (l ++ [(o, m)]) = acells l ++ [.int .u64 o, .int .i64 m] := by simp [acells]

theorem setRow_otherL (w : World) (b : Nat) (cs : Array Value) (k : Nat) (hk : k ≠ b) : (w.setRow b cs).heap[k]? = w.heap[k]? := by
  have h : b ≠ k := fun e => hk e.symm
  simp [World.setRow, Array.getElem?_modify, h]

theorem queue_push {w : World} {q : Value} {l : List (Int × Int)} (h : QAt w q l) (hn : l.length ≤ 4398046511104) (o m : Int) (ty : TypeId) :
    ∃ q' w', (Builtin.append_ #[69, 69] ty #[q, .slice (some ⟨w.heap.size, 0, none⟩) 1 1]).run Try.prog (w.alloc (.cells #[.int .u64 o, .int .i64 m] 77)) = .ok q' w' ∧
      QAt w' q' (l ++ [(o, m)]) ∧ (∀ g, qblk q' = some g → qblk q = some g ∨ w.heap.size ≤ g) ∧ (∀ k, k < w.heap.size → (∀ g, qblk q = some g → k ≠ g) → w'.heap[k]? = w.heap[k]?) ∧ w.heap.size ≤ w'.heap.size ∧
      (w'.os = w.os ∧ w'.tape = w.tape ∧ w'.output = w.output) ∧ ∃ a c, q' = .slice (some a) (l.length + 1) c := by
  obtain ⟨i, hi, hz, h1, h2⟩ := info_of info_ask
  have hnb : (w.alloc (.cells #[.int .u64 o, .int .i64 m] 77)).heap[w.heap.size]? = some (.cells #[.int .u64 o, .int .i64 m] 77 (0, 0)) := heap_alloc_new w _
  have hnews : ∀ j u, [Value.int .u64 o, .int .i64 m][j]? = some u → (w.alloc (.cells #[.int .u64 o, .int .i64 m] 77)).cell? ((⟨w.heap.size, 0, none⟩ : Addr).add j) = some u := by
    intro j u hu
    rw [addr_add, Nat.zero_add, cell_of_row _ _ _ _ _ _ hnb]
    simpa using hu
  have hone : ∀ u ∈ [Value.int .u64 o, .int .i64 m], u.oneCell' = true := by intro u hu; simp at hu; rcases hu with rfl | rfl <;> rfl
  rcases h with ⟨rfl, rfl⟩ | ⟨g, off, c, cur, rfl, hg, hlc, hcm, hfit, hrd⟩
  · have hr := run_append_nil (P := Try.prog) (w := w.alloc (.cells #[.int .u64 o, .int .i64 m] 77)) 69 ty 77 i _ Try.underlying69 hi hz ⟨w.heap.size, 0, none⟩ 1 1 [.int .u64 o, .int .i64 m] (by rw [h1]; rfl) hnews (by decide) (by decide) (by rw [h2]; decide)
    have hcap := grownCap_ge (w.alloc (.cells #[.int .u64 o, .int .i64 m] 77)) 1 0 77
    have hcap2 := grownCap_le_maxLen (w.alloc (.cells #[.int .u64 o, .int .i64 m] 77)) 1 0 77 (by decide)
    refine ⟨_, _, hr, .inr ⟨_, 0, _, _, rfl, heap_alloc_new _ _, hcap, hcap2, ?_, ?_⟩, fun g hg => ?_, fun k hk _ => ?_, ?_, ⟨rfl, rfl, rfl⟩, _, _, rfl⟩
    · have hz2 : (Value.agg #[.int .u64 0, .int .i64 0]).cells.size = 2 := rfl
      simp only [Array.size_append, List.size_toArray, List.length_cons, List.length_nil, size_zeroCells, hz2]
      omega
    · simp [acells]
    · simp only [qblk, Option.some.injEq] at hg
      right
      rw [← hg]
      simp
    · rw [heap_alloc_old _ _ (by simp; omega)]
      exact heap_alloc_old _ _ hk
    · simp [World.size_alloc]; omega
  · have hga : (w.alloc (.cells #[.int .u64 o, .int .i64 m] 77)).heap[g]? = some (.cells cur 77 (0, 0)) := (heap_alloc_old _ _ (Array.getElem?_eq_some_iff.1 hg).1).trans hg
    have hgl := (Array.getElem?_eq_some_iff.1 hg).1
    have hal := acells_length l
    by_cases hroom : l.length + 1 ≤ c
    · have hr := run_append_room_off (P := Try.prog) (w.alloc (.cells #[.int .u64 o, .int .i64 m] 77)) 69 ty 77 i Try.underlying69 hi g off l.length c cur hga ⟨w.heap.size, 0, none⟩ 1 1 [.int .u64 o, .int .i64 m] (by rw [h1]; rfl) hnews hone hroom (by rw [h1]; simp; omega)
      rw [h1] at hr
      refine ⟨_, _, hr, .inr ⟨g, off, c, _, by rw [List.length_append]; rfl, setRow_heap _ _ _ _ _ _ hga, by rw [List.length_append]; exact hroom, hcm, ?_, ?_⟩, fun g2 hg2 => .inl hg2, fun k hk hkg => ?_, ?_, ⟨rfl, rfl, rfl⟩, _, _, rfl⟩
      · simp only [List.size_toArray, List.length_append, List.length_take, List.length_drop, Array.length_toList, List.length_cons, List.length_nil]
        omega
      · rw [acells_snoc, List.length_append]
        simp only [List.toList_toArray, List.length_cons, List.length_nil]
        have hlen1 : (cur.toList.take (off + l.length * 2)).length = off + l.length * 2 := by rw [List.length_take, show cur.toList.length = cur.size from Array.length_toList]; omega
        rw [List.append_assoc, List.drop_append_of_le_length (by rw [hlen1]; omega)]
        have e1 : (cur.toList.take (off + l.length * 2)).drop off = acells l := by rw [List.drop_take, Nat.add_sub_cancel_left]; exact hrd
        rw [e1, ← List.append_assoc, List.take_append_of_le_length (by rw [List.length_append, hal]; simp; omega), List.take_of_length_le (by rw [List.length_append, hal]; simp; omega)]
      · rw [setRow_otherL _ _ _ _ (hkg g rfl)]
        exact heap_alloc_old _ _ hk
      · simp [World.setRow, World.size_alloc]
    · have hcn : c = l.length := by omega
      have holds : ∀ j u, (acells l)[j]? = some u → (w.alloc (.cells #[.int .u64 o, .int .i64 m] 77)).cell? ((⟨g, off, none⟩ : Addr).add j) = some u := by
        intro j u hu
        rw [addr_add, cell_of_row _ _ _ _ _ _ hga, ← Array.getElem?_toList]
        rw [← hrd, List.getElem?_take] at hu
        split at hu
        · rw [List.getElem?_drop] at hu; exact hu
        · cases hu
      have hr := run_append_grow (P := Try.prog) (w := w.alloc (.cells #[.int .u64 o, .int .i64 m] 77)) 69 ty 77 i _ Try.underlying69 hi hz ⟨g, off, none⟩ l.length c (acells l) (by rw [h1]; exact hal) holds ⟨w.heap.size, 0, none⟩ 1 1 [.int .u64 o, .int .i64 m] (by rw [h1]; rfl) hnews (by omega) (by omega) (growslice_fits (by omega) (by rw [h2]; omega))
      have hcap := grownCap_ge (w.alloc (.cells #[.int .u64 o, .int .i64 m] 77)) (l.length + 1) c 77
      have hcap2 := grownCap_le_maxLen (w.alloc (.cells #[.int .u64 o, .int .i64 m] 77)) (l.length + 1) c 77 (by unfold maxLen; omega)
      refine ⟨_, _, hr, .inr ⟨_, 0, _, _, by rw [List.length_append]; rfl, heap_alloc_new _ _, by rw [List.length_append]; exact hcap, hcap2, ?_, ?_⟩, fun g2 hg2 => ?_, fun k hk _ => ?_, ?_, ⟨rfl, rfl, rfl⟩, _, _, rfl⟩
      · have hz2 : (Value.agg #[.int .u64 0, .int .i64 0]).cells.size = 2 := rfl
        simp only [Array.size_append, List.size_toArray, List.length_cons, List.length_nil, size_zeroCells, hz2, hal]
        omega
      · rw [acells_snoc, List.length_append]
        simp only [Array.toList_append, List.drop_zero, List.toList_toArray, List.length_cons, List.length_nil]
        rw [List.take_append_of_le_length (by rw [List.length_append, hal]; simp; omega), List.take_of_length_le (by rw [List.length_append, hal]; simp; omega)]
      · simp only [qblk, Option.some.injEq] at hg2
        right
        rw [← hg2]
        simp
      · rw [heap_alloc_old _ _ (by simp; omega)]
        exact heap_alloc_old _ _ hk
      · simp [World.size_alloc]; omega
end Mun
