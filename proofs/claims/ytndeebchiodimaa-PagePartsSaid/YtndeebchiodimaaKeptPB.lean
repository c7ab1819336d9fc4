/- A row of rows of the call's own: bytes written, a byte appended. -/
import Derived.Test.YtndeebchiodimaaKeptPA
set_option maxRecDepth 100000
set_option linter.unusedVariables false
set_option linter.unusedSimpArgs false
namespace Mun
open Go Go.RowKit
open Go.Proofs

/-- an append of several to a row -/
theorem append_many {w : World} {B : Nat} {ty : TypeId} {v : Value} {vs ys : List Value} (hy : ∀ u ∈ ys, u.oneCell' = true) (hpos : 0 < ys.length) (hown : OwnV w B v vs) (hbytes : vs.length + ys.length < 1000000) (hbase : B ≤ w.heap.size) :
    ∃ v' w', (Builtin.append_ #[28, 28] ty #[v, .slice (some ⟨w.heap.size, 0, none⟩) ys.length ys.length]).run Try.prog (w.alloc (.cells ys.toArray 22)) = .ok v' w' ∧
      OwnV w' B v' (vs ++ ys) ∧ (w.alloc (.cells ys.toArray 22)).grownBy w' v.ownBlock ∧ ∃ g c, v' = .slice (some ⟨g, 0, none⟩) (vs.length + ys.length) c := by
  obtain ⟨i, hi, hz, h1, h2⟩ := info_of info_bs
  have hx' : RdV (fun _ => False) (w.alloc (.cells ys.toArray 22)) 1 (.slice (some ⟨w.heap.size, 0, none⟩) ys.length ys.length) ys.length ys :=
    ⟨by omega, _, _, rfl, Nat.le_refl _, by unfold maxLen; omega, by simp, fun _ => ⟨_, 0, _, _, _, rfl, fun h => h, heap_alloc_new w _, by simp⟩⟩
  obtain ⟨v', w', hr, h3, h4, h5, h6⟩ := run_append_rd (P := Try.prog) (ty := ty) Try.underlying28 hi hz h1 h2 (by rfl) (by omega) (World.ownsRow.alloc hown _) hx' hy (by omega) (by omega) (by simp; omega)
  refine ⟨v', w', hr, by unfold OwnV; rw [List.length_append]; exact h3, h4, ?_⟩
  rcases h3.2 with ⟨_, h0⟩ | ⟨g, cap, cur, hv, _⟩
  · omega
  · exact ⟨g, cap, hv⟩

theorem own_blk {w : World} {B k : Nat} {v : Value} {L : PBytes} (h : OwnB w B 5 v L) (hk : v.ownBlock = some k) : ∃ cur, w.heap[k]? = some (.cells cur 5 (0, 0)) := by
  rcases h.2 with ⟨rfl, _⟩ | ⟨g, cap, cur, rfl, hbg, hg, rest⟩
  · simp [Value.ownBlock] at hk
  · simp only [Value.ownBlock, Option.some.injEq] at hk
    subst hk
    exact ⟨cur, hg⟩
theorem row_blk {w : World} {B k : Nat} {v : Value} {vs : List Value} (h : OwnV w B v vs) (hk : v.ownBlock = some k) : ∃ cur, w.heap[k]? = some (.cells cur 22 (0, 0)) := by
  rcases h.2 with ⟨rfl, _⟩ | ⟨g, cap, cur, rfl, hbg, hg, rest⟩
  · simp [Value.ownBlock] at hk
  · simp only [Value.ownBlock, Option.some.injEq] at hk
    subst hk
    exact ⟨cur, hg⟩
theorem own_row_ne {w : World} {B B' k : Nat} {v u : Value} {L : PBytes} {vs : List Value} (h : OwnB w B 5 v L) (hr : OwnV w B' u vs) (hk : v.ownBlock = some k) : u.ownBlock ≠ some k := by
  intro hk2
  obtain ⟨c1, h1⟩ := own_blk h hk
  obtain ⟨c2, h2⟩ := row_blk hr hk2
  rw [h1] at h2
  injection h2 with h2
  injection h2 with _ h2 _
  exact absurd h2 (by decide)
theorem OwnB.same {w w' : World} {B : Nat} {v : Value} {L : PBytes} (h : OwnB w B 5 v L) (hk : ∀ k, v.ownBlock = some k → w'.heap[k]? = w.heap[k]?) : OwnB w' B 5 v L := by
  refine ⟨h.1, ?_⟩
  rcases h.2 with hn | ⟨g, cap, cur, rfl, hbg, hg, rest⟩
  · exact .inl hn
  · exact .inr ⟨g, cap, cur, rfl, hbg, (hk g rfl).trans hg, rest⟩
theorem OwnV.same {w w' : World} {B : Nat} {v : Value} {vs : List Value} (h : OwnV w B v vs) (hk : ∀ k, v.ownBlock = some k → w'.heap[k]? = w.heap[k]?) : OwnV w' B v vs := by
  refine ⟨h.1, ?_⟩
  rcases h.2 with hn | ⟨g, cap, cur, rfl, hbg, hg, rest⟩
  · exact .inl hn
  · exact .inr ⟨g, cap, cur, rfl, hbg, (hk g rfl).trans hg, rest⟩

/-- the list, and what its elements hold -/
structure KeptR (B : Nat) (w0 wr : World) (v : Value) (vs : List Value) (Ls : List PBytes) : Prop where
  own : OwnL B w0 wr vs Ls
  row : OwnV wr B v vs

/-- the row joined with values of an older time -/
theorem KeptR.make {B : Nat} {w0 w wr : World} {u : Value} {us ys : List Value} {Us Ys : List PBytes} {ty : TypeId} (hB : B ≤ w.heap.size) (hold : OwnL B w0 w ys Ys) (hb : Below w.heap.size w wr) (hrow : OwnV wr w.heap.size u us) (hnew : OwnL w.heap.size w wr us Us)
    (hy : ∀ x ∈ ys, x.oneCell' = true) (hpos : 0 < ys.length) (hlen : us.length + ys.length < 1000000) :
    ∃ v' w', (Builtin.append_ #[28, 28] ty #[u, .slice (some ⟨wr.heap.size, 0, none⟩) ys.length ys.length]).run Try.prog (wr.alloc (.cells ys.toArray 22)) = .ok v' w' ∧ KeptR B w0 w' v' (us ++ ys) (Us ++ Ys) ∧ ∃ g c, v' = .slice (some ⟨g, 0, none⟩) (us.length + ys.length) c := by
  have hsz := hb.size
  obtain ⟨v', w', hr, h1, h2, h3⟩ := append_many (ty := ty) hy hpos hrow hlen hsz
  have hall : OwnL B w0 wr (us ++ ys) (Us ++ Ys) := (hold.below hB hb).app hnew hB (fun i v hv j hj => (hold.lt i v hv j hj).2)
  have hkeep : ∀ k, k < wr.heap.size → some k ≠ u.ownBlock → w'.heap[k]? = wr.heap[k]? := fun k hk hne => by rw [h2.block k (by simp; omega) hne, heap_alloc_old _ _ hk]
  refine ⟨v', w', hr, ⟨⟨?_, hall.len, fun i v hv => ?_, hall.apart⟩, ?_⟩, h3⟩
  · exact (hall.bl.alloc (by omega) _).grown h2 (by simp; omega) (fun k hk => Nat.le_trans hB (hrow.lt k hk).1)
  · obtain ⟨L, hL, ho⟩ := hall.own i v hv
    refine ⟨L, hL, ho.same (fun k hk => hkeep k (ho.lt k hk).2 (fun he => own_row_ne ho hrow hk he.symm))⟩
  · exact ownsRow_base h1 (fun k hk => Nat.le_trans hB (h1.lt k hk).1)

section
variable {B : Nat} {w0 wr : World} {g n c : Nat} {vs : List Value} {Ls : List PBytes}

theorem KeptR.cell (h : KeptR B w0 wr (.slice (some ⟨g, 0, none⟩) n c) vs Ls) (i : Nat) (v : Value) (hv : vs[i]? = some v) : wr.cell? ⟨g, i, none⟩ = some v ∧ wr.frozen? ⟨g, i, none⟩ = false := by
  rcases h.row.2 with ⟨h0, _⟩ | ⟨g', cap, cur, e, hbg, hg, h1, h2, h3, h4⟩
  · cases h0
  · injection e with e1 _ _
    injection e1 with e1
    injection e1 with e1 _ _
    subst e1
    refine ⟨?_, by simp [World.frozen?, hg]⟩
    rw [cell_of_row wr g i _ _ _ hg]
    rw [← h4, List.getElem?_take] at hv
    split at hv
    · simpa using hv
    · cases hv

/-- a byte written into an element -/
theorem KeptR.put (h : KeptR B w0 wr (.slice (some ⟨g, 0, none⟩) n c) vs Ls) (i b m : Nat) (nn cc : Nat) (L : PBytes) (hv : vs[i]? = some (.slice (some ⟨b, 0, none⟩) nn cc)) (hL : Ls[i]? = some L) (hm : m < L.length) (x : UInt8) (X : Int) (hX : X = x.toNat) :
    KeptR B w0 (wr.setCell ⟨b, m, none⟩ (.int .u8 X)) (.slice (some ⟨g, 0, none⟩) n c) vs (Ls.set i (L.set m x)) := by
  obtain ⟨L', hL', ho⟩ := h.own.own i _ hv
  rw [hL] at hL'
  injection hL' with hL'
  subst hL'
  have hs : ∀ k, k ≠ b → (wr.setCell ⟨b, m, none⟩ (.int .u8 X)).heap[k]? = wr.heap[k]? := fun k hk => Below.heap_setCell _ _ _ _ hk
  have hbB : B ≤ b := (ho.lt b rfl).1
  refine ⟨⟨h.own.bl.setCell hbB _, by rw [List.length_set]; exact h.own.len, fun j v hj => ?_, h.own.apart⟩, h.row.same (fun k hk => hs k (fun e => own_row_ne ho h.row rfl (e ▸ hk)))⟩
  by_cases hji : j = i
  · subst hji
    rw [hv] at hj
    injection hj with hj
    subst hj
    have hlt : j < Ls.length := by
      rcases Nat.lt_or_ge j Ls.length with h | h
      · exact h
      · rw [List.getElem?_eq_none h] at hL; cases hL
    exact ⟨L.set m x, by rw [List.getElem?_set_self hlt], OwnB.set ho rfl hm x X hX⟩
  · obtain ⟨M, hM, hoM⟩ := h.own.own j v hj
    exact ⟨M, by rw [List.getElem?_set_ne (Ne.symm hji)]; exact hM, hoM.same (fun k hk => hs k (fun e => h.own.apart j i v _ hj hv hji k hk (by rw [e]; rfl)))⟩

/-- a byte appended to an element, and the element laid back -/
theorem KeptR.more {ty : TypeId} (h : KeptR B w0 wr (.slice (some ⟨g, 0, none⟩) n c) vs Ls) (hB : B ≤ wr.heap.size) (i : Nat) (v : Value) (L : PBytes) (hv : vs[i]? = some v) (hL : Ls[i]? = some L) (hm : L.length ≤ 1000) (x : UInt8) (X : Int) (hX : X = x.toNat) :
    ∃ b cap w', (Builtin.append_ #[22, 22] ty #[v, .slice (some ⟨wr.heap.size, 0, none⟩) 1 1]).run Try.prog (wr.alloc (.cells #[.int .u8 X] 5)) = .ok (.slice (some ⟨b, 0, none⟩) (L.length + 1) cap) w' ∧
      (∃ u, w'.cell? ⟨g, i, none⟩ = some u) ∧ w'.frozen? ⟨g, i, none⟩ = false ∧
      KeptR B w0 (w'.setCell ⟨g, i, none⟩ (.slice (some ⟨b, 0, none⟩) (L.length + 1) cap)) (.slice (some ⟨g, 0, none⟩) n c) (vs.set i (.slice (some ⟨b, 0, none⟩) (L.length + 1) cap)) (Ls.set i (L ++ [x])) := by
  obtain ⟨L', hL', ho⟩ := h.own.own i _ hv
  rw [hL] at hL'
  injection hL' with hL'
  subst hL'
  have hne := fun k (hk : v.ownBlock = some k) => own_row_ne ho h.row hk
  obtain ⟨b, cap, w', hr, h1, h2, h3, h4, h5⟩ := append_byte (ty := ty) x X hX ho (by omega) hB
  have hgk : (.slice (some ⟨g, 0, none⟩) n c : Value).ownBlock = some g := rfl
  have hgl := (h.row.lt g hgk).2
  have hkeep : ∀ k, k < wr.heap.size → some k ≠ v.ownBlock → w'.heap[k]? = wr.heap[k]? := fun k hk he => by rw [h2.block k (by simp; omega) he, heap_alloc_old _ _ hk]
  have hgb : w'.heap[g]? = wr.heap[g]? := hkeep g hgl (fun he => hne g he.symm rfl)
  have hcell := h.cell i v hv
  obtain ⟨rc, hrc⟩ := row_blk h.row hgk
  have hrow' : w'.heap[g]? = some (.cells rc 22 (0, 0)) := hgb.trans hrc
  have hbl : Below B w0 w' := (h.own.bl.alloc hB _).grown h2 (by simp; omega) (fun k hk => (ho.lt k hk).1)
  have hcell' : w'.cell? ⟨g, i, none⟩ = some v := by
    have h6 := hcell.1
    rw [cell_of_row wr g i _ _ _ hrc] at h6
    rw [cell_of_row w' g i _ _ _ hrow']
    exact h6
  have hbg : b ≠ g := by
    rintro rfl
    obtain ⟨c1, hc1⟩ := own_blk h1 rfl
    rw [hrow'] at hc1
    injection hc1 with hc1
    injection hc1 with _ hc1 _
    exact absurd hc1 (by decide)
  have hs : ∀ k, k ≠ g → (w'.setCell ⟨g, i, none⟩ (.slice (some ⟨b, 0, none⟩) (L.length + 1) cap)).heap[k]? = w'.heap[k]? := fun k hk => Below.heap_setCell _ _ _ _ hk
  have hil : i < vs.length := by
    rcases Nat.lt_or_ge i vs.length with h | h
    · exact h
    · rw [List.getElem?_eq_none h] at hv; cases hv
  refine ⟨b, cap, w', hr, ⟨_, hcell'⟩, by simp [World.frozen?, hrow'], ⟨⟨hbl.setCell (h.row.lt g hgk).1 _, by simp [h.own.len], fun j u hu => ?_, fun j k u z hu hz hjk t ht ht2 => ?_⟩, ?_⟩⟩
  · by_cases hji : j = i
    · subst hji
      rw [List.getElem?_set_self hil] at hu
      injection hu with hu
      subst hu
      refine ⟨L ++ [x], by rw [List.getElem?_set_self (by rw [h.own.len]; exact hil)], h1.same (fun k hk => hs k (fun e => ?_))⟩
      simp only [Value.ownBlock, Option.some.injEq] at hk
      omega
    · rw [List.getElem?_set_ne (Ne.symm hji)] at hu
      obtain ⟨M, hM, hoM⟩ := h.own.own j u hu
      refine ⟨M, by rw [List.getElem?_set_ne (Ne.symm hji)]; exact hM, (hoM.same (fun k hk => hkeep k (hoM.lt k hk).2 (fun he => h.own.apart j i u v hu hv hji k hk he.symm))).same (fun k hk => hs k (fun e => own_row_ne hoM h.row hk (by rw [e]; rfl)))⟩
  · have hnew : ∀ j (u : Value), vs[j]? = some u → j ≠ i → ∀ t, u.ownBlock = some t → t ≠ b := by
      intro j' u' hu' hji' t' ht' e
      have hlt := (h.own.lt j' u' hu' t' ht').2
      rcases h5 with h5 | h5
      · rw [e] at ht'
        exact h.own.apart j' i u' v hu' hv hji' b ht' h5
      · omega
    by_cases hji : j = i
    · subst hji
      rw [List.getElem?_set_self hil] at hu
      injection hu with hu
      subst hu
      rw [List.getElem?_set_ne hjk] at hz
      simp only [Value.ownBlock, Option.some.injEq] at ht
      exact hnew k z hz (Ne.symm hjk) t ht2 ht.symm
    · rw [List.getElem?_set_ne (Ne.symm hji)] at hu
      by_cases hki : k = i
      · subst hki
        rw [List.getElem?_set_self hil] at hz
        injection hz with hz
        subst hz
        simp only [Value.ownBlock, Option.some.injEq] at ht2
        exact hnew j u hu hji t ht ht2.symm
      · rw [List.getElem?_set_ne (Ne.symm hki)] at hz
        exact h.own.apart j k u z hu hz hjk t ht ht2
  · have hr0 := h.row
    rcases hr0.2 with ⟨h0, _⟩ | ⟨g', cap', cur, e, hbg', hg', h6, h7, h8, h9⟩
    · cases h0
    · injection e with e1 e2 e3
      injection e1 with e1
      injection e1 with e1 _ _
      subst e1
      rw [hrc] at hg'
      injection hg' with hg'
      injection hg' with hg' _ _
      subst hg'
      refine ⟨by simp, .inr ⟨g, cap', rc.setIfInBounds i (.slice (some ⟨b, 0, none⟩) (L.length + 1) cap), by rw [List.length_set]; congr 1, hbg', ?_, by rw [List.length_set]; exact h6, h7, by simpa using h8, ?_⟩⟩
      · simp [World.setCell, Array.getElem?_modify, hrow']
      · rw [List.length_set, Array.toList_setIfInBounds, List.take_set, h9]
end
end Mun
