/- The new device's pages on their way: what a store does. -/
import Derived.Test.YtmlggofojdhmmaaRefF
set_option maxRecDepth 100000
set_option linter.unusedVariables false
set_option linter.unusedSimpArgs false
namespace Mun
open Go Go.RowKit
open Go.Proofs

theorem ownV_set {w : World} {B g n c : Nat} {xs : List Value} (h : OwnV w B (.slice (some ⟨g, 0, none⟩) n c) xs) (i : Nat) (hi : i < xs.length) (x : Value) : OwnV (w.setCell ⟨g, i, none⟩ x) B (.slice (some ⟨g, 0, none⟩) n c) (xs.set i x) := by
  have h1 := h.1
  rcases h.2 with ⟨hn, _⟩ | ⟨g', cap, cur, e, hbg, hg, hnc, hcm, hcs, htake⟩
  · simp at hn
  · injection e with e1 e2 e3
    injection e1 with e1
    injection e1 with e1 _ _
    subst e1 e3
    unfold OwnV
    rw [List.length_set]
    refine ⟨by rw [List.length_set]; exact h1, .inr ⟨g, c, cur.setIfInBounds i x, by rw [e2], hbg, setCell_blk hg x, hnc, hcm, by rw [Array.size_setIfInBounds]; exact hcs, ?_⟩⟩
    rw [Array.toList_setIfInBounds, List.take_set, htake]

/-- pages of the new device: rows of its own; the first q are apart from all others -/
structure CrP (B : Nat) (w wr : World) (q : Nat) (v : Value) (us : List Value) (cs : List Bytes) : Prop where
  new : NewL B w wr v us cs
  ap : ∀ (i j : Nat) (u x : Value), us[i]? = some u → us[j]? = some x → i ≠ j → i < q ∨ j < q → ∀ k, u.ownBlock = some k → x.ownBlock ≠ some k

theorem CrP.below {B q : Nat} {w wr w' : World} {v : Value} {us : List Value} {cs : List Bytes} (h : CrP B w wr q v us cs) (hB : B ≤ wr.heap.size) (hb : Below wr.heap.size wr w') : CrP B w w' q v us cs := ⟨h.new.below hB hb, h.ap⟩

/-- a page laid in -/
theorem CrP.put {B q q2 : Nat} {w wr w1 : World} {g n c : Nat} {us : List Value} {cs : List Bytes} (h : CrP B w wr q (.slice (some ⟨g, 0, none⟩) n c) us cs) (hB : B ≤ wr.heap.size) (hb : Below wr.heap.size wr w1) (i : Nat) (hi : i < us.length) (hq : ∀ a, a < q2 → a < q ∨ a = i) {x : Value} {l : Bytes} (ho : OwnB w1 wr.heap.size 5 x l) :
    CrP B w (w1.setCell ⟨g, i, none⟩ x) q2 (.slice (some ⟨g, 0, none⟩) n c) (us.set i x) (cs.set i l) := by
  have h1 := h.below hB hb
  have hgk : ∀ {u : Value} {d : Bytes} {B' : Nat}, OwnB w1 B' 5 u d → ∀ k, u.ownBlock = some k → k ≠ g := fun hu k hk e => own_row_ne hu h1.new.row hk (by rw [e]; rfl)
  refine ⟨⟨ownV_set h1.new.row i hi x, by rw [List.length_set, List.length_set]; exact h.new.len, fun j u hu => ?_, (h1.new.bl).setCell (h1.new.row.lt g rfl).1 _⟩, fun j k u y hu hy hjk hq2 b hb1 hb2 => ?_⟩
  · by_cases hij : i = j
    · subst hij
      rw [List.getElem?_set_self hi] at hu
      injection hu with hu
      subst hu
      refine ⟨l, by rw [List.getElem?_set_self (by rw [← h.new.len]; exact hi)], (ho.lower hB).same (fun k hk => setCell_heap _ _ _ _ (hgk ho k hk))⟩
    · rw [List.getElem?_set_ne hij] at hu
      obtain ⟨d, h2, h3⟩ := h1.new.own j u hu
      exact ⟨d, by rw [List.getElem?_set_ne hij]; exact h2, h3.same (fun k hk => setCell_heap _ _ _ _ (hgk h3 k hk))⟩
  · have hold : ∀ q (z : Value), us[q]? = some z → ∀ b, z.ownBlock = some b → b < wr.heap.size := fun q z hz b hb => by
      obtain ⟨d, _, h3⟩ := h.new.own q z hz
      exact (h3.lt b hb).2
    by_cases h2 : i = j
    · subst h2
      rw [List.getElem?_set_self hi] at hu
      injection hu with hu
      subst hu
      rw [List.getElem?_set_ne hjk] at hy
      have := hold k y hy b hb2
      have := (ho.lt b hb1).1
      omega
    · rw [List.getElem?_set_ne h2] at hu
      by_cases h3 : i = k
      · subst h3
        rw [List.getElem?_set_self hi] at hy
        injection hy with hy
        subst hy
        have := hold j u hu b hb1
        have := (ho.lt b hb2).1
        omega
      · rw [List.getElem?_set_ne h3] at hy
        exact h.ap j k u y hu hy hjk (hq2.imp (fun e => (hq _ e).resolve_right (fun e => h2 e.symm)) (fun e => (hq _ e).resolve_right (fun e => h3 e.symm))) b hb1 hb2

/-- a byte of a page set -/
theorem CrP.byte {B n : Nat} {w wr : World} {v : Value} {us : List Value} {cs : List Bytes} (h : CrP B w wr n v us cs) (i : Nat) (hin : i < n) {p q c : Nat} (hu : us[i]? = some (.slice (some ⟨p, 0, none⟩) q c)) {l : Bytes} (hl : cs[i]? = some l) (j : Nat) (hj : j < l.length) (b : UInt8) (x : Int) (hx : x = b.toNat) :
    CrP B w (wr.setCell ⟨p, j, none⟩ (.int .u8 x)) n v us (cs.set i (l.set j b)) := by
  obtain ⟨d, h1, h2⟩ := h.new.own i _ hu
  rw [hl] at h1
  injection h1 with h1
  subst h1
  have hil : i < cs.length := (List.getElem?_eq_some_iff.1 hl).1
  refine ⟨⟨h.new.row.same (fun k hk => setCell_heap _ _ _ _ (fun e => own_row_ne h2 h.new.row (show (Value.slice (some ⟨p, 0, none⟩) q c).ownBlock = some p from rfl) (by have e' : k = p := e; rw [← e']; exact hk))), by rw [List.length_set]; exact h.new.len, fun k u hk => ?_, h.new.bl.setCell (h2.lt p rfl).1 _⟩, h.ap⟩
  by_cases hik : i = k
  · subst hik
    rw [hu] at hk
    injection hk with hk
    subst hk
    exact ⟨_, List.getElem?_set_self hil, h2.set rfl hj b x hx⟩
  · obtain ⟨d, h3, h4⟩ := h.new.own k u hk
    refine ⟨d, by rw [List.getElem?_set_ne hik]; exact h3, h4.same (fun z hz => setCell_heap _ _ _ _ (fun e => ?_))⟩
    exact h.ap i k _ u hu hk hik (.inl hin) p rfl (by have e' : z = p := e; rw [← e']; exact hz)
theorem CrP.boxSet {B q : Nat} {w wr : World} {v : Value} {us : List Value} {cs : List Bytes} {b : Nat} {bc : Array Value} (h : CrP B w wr q v us cs) (hb : BoxAt wr b bc) (hB : B ≤ b) (i : Nat) (x : Value) : CrP B w (wr.setCell ⟨b, i, none⟩ x) q v us cs := ⟨h.new.boxSet hb hB i x, h.ap⟩
end Mun
