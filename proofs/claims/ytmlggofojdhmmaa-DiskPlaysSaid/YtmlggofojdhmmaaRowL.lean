/- Rows of byte strings in new memory. -/
import Derived.Test.YtmlggofojdhmmaaRowD
set_option maxRecDepth 100000
set_option linter.unusedVariables false
set_option linter.unusedSimpArgs false
namespace Mun
open Go Go.RowKit
open Go.Proofs

theorem OwnB.lower {w : World} {B B' : Nat} {v : Value} {L : Bytes} (h : OwnB w B 5 v L) (hB : B' ≤ B) : OwnB w B' 5 v L := ownsRow_base h (fun k hk => Nat.le_trans hB (h.lt k hk).1)
theorem getElem?_append_cases {α : Type} {l1 l2 : List α} {i : Nat} {x : α} (h : (l1 ++ l2)[i]? = some x) : (i < l1.length ∧ l1[i]? = some x) ∨ (l1.length ≤ i ∧ l2[i - l1.length]? = some x) := by
  rcases Nat.lt_or_ge i l1.length with hl | hl
  · rw [List.getElem?_append_left hl] at h; exact .inl ⟨hl, h⟩
  · rw [List.getElem?_append_right hl] at h; exact .inr ⟨hl, h⟩
theorem own_blk {w : World} {B k : Nat} {v : Value} {L : Bytes} (h : OwnB w B 5 v L) (hk : v.ownBlock = some k) : ∃ cur, w.heap[k]? = some (.cells cur 5 (0, 0)) := by
  rcases h.2 with ⟨rfl, _⟩ | ⟨g, cap, cur, rfl, hbg, hg, rest⟩
  · simp [Value.ownBlock] at hk
  · simp only [Value.ownBlock, Option.some.injEq] at hk
    subst hk
    exact ⟨cur, hg⟩
theorem row_blk {w : World} {B k : Nat} {v : Value} {vs : List Value} (h : OwnV w B v vs) (hk : v.ownBlock = some k) : ∃ cur, w.heap[k]? = some (.cells cur 28 (0, 0)) := by
  rcases h.2 with ⟨rfl, _⟩ | ⟨g, cap, cur, rfl, hbg, hg, rest⟩
  · simp [Value.ownBlock] at hk
  · simp only [Value.ownBlock, Option.some.injEq] at hk
    subst hk
    exact ⟨cur, hg⟩
theorem own_row_ne {w : World} {B B' k : Nat} {v u : Value} {L : Bytes} {vs : List Value} (h : OwnB w B 5 v L) (hr : OwnV w B' u vs) (hk : v.ownBlock = some k) : u.ownBlock ≠ some k := by
  intro hk2
  obtain ⟨c1, h1⟩ := own_blk h hk
  obtain ⟨c2, h2⟩ := row_blk hr hk2
  rw [h1] at h2
  injection h2 with h2
  injection h2 with _ h2 _
  exact absurd h2 (by decide)
theorem OwnB.same {w w' : World} {B : Nat} {v : Value} {L : Bytes} (h : OwnB w B 5 v L) (hk : ∀ k, v.ownBlock = some k → w'.heap[k]? = w.heap[k]?) : OwnB w' B 5 v L := by
  refine ⟨h.1, ?_⟩
  rcases h.2 with hn | ⟨g, cap, cur, rfl, hbg, hg, rest⟩
  · exact .inl hn
  · exact .inr ⟨g, cap, cur, rfl, hbg, (hk g rfl).trans hg, rest⟩
theorem OwnV.same {w w' : World} {B : Nat} {v : Value} {vs : List Value} (h : OwnV w B v vs) (hk : ∀ k, v.ownBlock = some k → w'.heap[k]? = w.heap[k]?) : OwnV w' B v vs := by
  refine ⟨h.1, ?_⟩
  rcases h.2 with hn | ⟨g, cap, cur, rfl, hbg, hg, rest⟩
  · exact .inl hn
  · exact .inr ⟨g, cap, cur, rfl, hbg, (hk g rfl).trans hg, rest⟩
structure NewL (B : Nat) (w0 wr : World) (v : Value) (us : List Value) (cs : List Bytes) : Prop where
  row : OwnV wr B v us
  len : us.length = cs.length
  own : ∀ (i : Nat) (u : Value), us[i]? = some u → ∃ c, cs[i]? = some c ∧ OwnB wr B 5 u c
  bl : Below B w0 wr
theorem NewL.nil {B : Nat} {w0 wr : World} (h : Below B w0 wr) : NewL B w0 wr (.slice none 0 0) [] [] := ⟨World.ownsRow_nil wr B _ 1, rfl, fun i u h => by simp at h, h⟩
theorem NewL.below {B : Nat} {w0 wr w' : World} {v : Value} {us : List Value} {cs : List Bytes} (h : NewL B w0 wr v us cs) (hB : B ≤ wr.heap.size) (hb : Below wr.heap.size wr w') : NewL B w0 w' v us cs :=
  ⟨h.row.same (fun k hk => hb.block k (h.row.lt k hk).2), h.len, fun i u hu => by obtain ⟨c, h1, h2⟩ := h.own i u hu; exact ⟨c, h1, h2.below hb⟩, h.bl.trans (hb.mono hB)⟩
theorem NewL.form {B : Nat} {w0 wr : World} {v : Value} {us : List Value} {cs : List Bytes} (h : NewL B w0 wr v us cs) : ∃ a c, v = .slice a us.length c := by
  rcases h.row.2 with ⟨rfl, h0⟩ | ⟨g, cap, cur, rfl, _⟩
  · exact ⟨none, 0, by rw [h0]⟩
  · exact ⟨_, _, rfl⟩
theorem NewL.push {B : Nat} {w0 wr : World} {ty : TypeId} {v u : Value} {us : List Value} {cs : List Bytes} {c : Bytes} (h : NewL B w0 wr v us cs) (hB : B ≤ wr.heap.size) (ho : OwnB wr B 5 u c) (hl : us.length < 1000000) :
    ∃ g cp w', (Builtin.append_ #[47, 47] ty #[v, .slice (some ⟨wr.heap.size, 0, none⟩) 1 1]).run Try.prog (wr.alloc (.cells #[u] 28)) = .ok (.slice (some ⟨g, 0, none⟩) (us.length + 1) cp) w' ∧
      NewL B w0 w' (.slice (some ⟨g, 0, none⟩) (us.length + 1) cp) (us ++ [u]) (cs ++ [c]) := by
  obtain ⟨a, cc, e, -⟩ := (OwnB.rd (F := NoF) ho (fun _ _ => noF _)).form
  obtain ⟨v', w', hr, h1, h2, h3, g, cp, rfl⟩ := append_one (ty := ty) (x := u) (by subst e; rfl) h.row hl hB
  refine ⟨g, cp, w', hr, h1, by simp [h.len], fun i x hx => ?_, ?_⟩
  · have hkeep : ∀ k, k < wr.heap.size → some k ≠ v.ownBlock → w'.heap[k]? = wr.heap[k]? := fun k hk hne => by rw [h2.block k (by simp; omega) hne, heap_alloc_old _ _ hk]
    rcases getElem?_append_cases hx with ⟨h4, h5⟩ | ⟨h4, h5⟩
    · obtain ⟨d, h6, h7⟩ := h.own i x h5
      refine ⟨d, by rw [List.getElem?_append_left (by rw [← h.len]; exact h4)]; exact h6, h7.same (fun k hk => hkeep k (h7.lt k hk).2 (fun he => own_row_ne h7 h.row hk he.symm))⟩
    · have hi0 : i - us.length = 0 := by
        rcases Nat.eq_zero_or_pos (i - us.length) with h0 | h0
        · exact h0
        · rw [List.getElem?_eq_none (by simp; omega)] at h5; cases h5
      rw [hi0] at h5
      simp only [List.getElem?_cons_zero, Option.some.injEq] at h5
      subst h5
      refine ⟨c, by rw [List.getElem?_append_right (by rw [← h.len]; exact h4), ← h.len, hi0]; rfl, ho.same (fun k hk => hkeep k (ho.lt k hk).2 (fun he => own_row_ne ho h.row hk he.symm))⟩
  · exact (h.bl.alloc hB _).grown h2 (by simp; omega) (fun k hk => (h.row.lt k hk).1)
theorem NewL.push2 {B : Nat} {w0 wr : World} {ty : TypeId} {v u : Value} {us : List Value} {cs : List Bytes} {c : Bytes} (h : NewL B w0 wr v us cs) (hB : B ≤ wr.heap.size) (ho : OwnB wr B 5 u c) (hl : us.length < 1000000) :
    ∃ g cp w', (Builtin.append_ #[47, 47] ty #[v, .slice (some ⟨wr.heap.size, 0, none⟩) 1 1]).run Try.prog (wr.alloc (.cells #[u] 28)) = .ok (.slice (some ⟨g, 0, none⟩) (us.length + 1) cp) w' ∧
      NewL B w0 w' (.slice (some ⟨g, 0, none⟩) (us.length + 1) cp) (us ++ [u]) (cs ++ [c]) ∧ (∀ k, k < wr.heap.size → some k ≠ v.ownBlock → w'.heap[k]? = wr.heap[k]?) ∧ wr.heap.size ≤ w'.heap.size := by
  obtain ⟨a, cc, e, -⟩ := (OwnB.rd (F := NoF) ho (fun _ _ => noF _)).form
  obtain ⟨v', w', hr, h1, h2, h3, g, cp, rfl⟩ := append_one (ty := ty) (x := u) (by subst e; rfl) h.row hl hB
  refine ⟨g, cp, w', hr, ⟨h1, by simp [h.len], fun i x hx => ?_, ?_⟩, fun k hk hne => by rw [h2.block k (by simp; omega) hne, heap_alloc_old _ _ hk], by have := h2.size; simp at this; omega⟩
  · have hkeep : ∀ k, k < wr.heap.size → some k ≠ v.ownBlock → w'.heap[k]? = wr.heap[k]? := fun k hk hne => by rw [h2.block k (by simp; omega) hne, heap_alloc_old _ _ hk]
    rcases getElem?_append_cases hx with ⟨h4, h5⟩ | ⟨h4, h5⟩
    · obtain ⟨d, h6, h7⟩ := h.own i x h5
      refine ⟨d, by rw [List.getElem?_append_left (by rw [← h.len]; exact h4)]; exact h6, h7.same (fun k hk => hkeep k (h7.lt k hk).2 (fun he => own_row_ne h7 h.row hk he.symm))⟩
    · have hi0 : i - us.length = 0 := by
        rcases Nat.eq_zero_or_pos (i - us.length) with h0 | h0
        · exact h0
        · rw [List.getElem?_eq_none (by simp; omega)] at h5; cases h5
      rw [hi0] at h5
      simp only [List.getElem?_cons_zero, Option.some.injEq] at h5
      subst h5
      refine ⟨c, by rw [List.getElem?_append_right (by rw [← h.len]; exact h4), ← h.len, hi0]; rfl, ho.same (fun k hk => hkeep k (ho.lt k hk).2 (fun he => own_row_ne ho h.row hk he.symm))⟩
  · exact (h.bl.alloc hB _).grown h2 (by simp; omega) (fun k hk => (h.row.lt k hk).1)
def OldF (B : Nat) : Foot := fun k => k < B
theorem NewL.lists {B : Nat} {w0 wr : World} {v : Value} {us : List Value} {cs : List Bytes} (h : NewL B w0 wr v us cs) : ListsAt (OldF B) wr v cs us := by
  refine ⟨by rw [← h.len]; exact RdV.of_own' h.row (fun k hk hF => by have := (h.row.lt k hk).1; unfold OldF at hF; omega), fun i hi => ?_⟩
  obtain ⟨c, h1, h2⟩ := h.own i (us[i]'(by rw [h.len]; exact hi)) (List.getElem?_eq_getElem _)
  rw [List.getElem?_eq_getElem hi] at h1
  injection h1 with h1
  subst h1
  exact ⟨_, List.getElem?_eq_getElem _, RdV.of_own' h2 (fun k hk hF => by have := (h2.lt k hk).1; unfold OldF at hF; omega)⟩
theorem ListsAt.chg {F F' : Foot} {w w' : World} {v : Value} {cs : List (List UInt8)} {vs : List Value} (h : ListsAt F w v cs vs) (hc : Chg F F' w w') : ListsAt F' w' v cs vs :=
  ⟨h.row.chg hc, fun i hi => by obtain ⟨u, h1, h2⟩ := h.rd i hi; exact ⟨u, h1, RdB.chg h2 hc⟩⟩
theorem ListsAt.mono {F F' : Foot} {w : World} {v : Value} {cs : List (List UInt8)} {vs : List Value} (h : ListsAt F w v cs vs) (hF : ∀ k, k < w.heap.size → F' k → F k) : ListsAt F' w v cs vs :=
  ⟨h.row.mono hF, fun i hi => by obtain ⟨u, h1, h2⟩ := h.rd i hi; exact ⟨u, h1, RdB.mono h2 hF⟩⟩
end Mun
