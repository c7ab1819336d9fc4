/- What calls tell is new memory: uniform contracts; rows of rows of the call's own. -/
import Derived.Test.YtjfepmohoijalaaPageAw
import Derived.Test.YtjfepmohoijalaaPageJ
import Derived.Test.YtjfepmohoijalaaP10
import Derived.Test.YtjfepmohoijalaaP13
import Derived.Test.YtjfepmohoijalaaP15
import Derived.Test.YtjfepmohoijalaaP16
set_option maxRecDepth 100000
set_option linter.unusedVariables false
set_option linter.unusedSimpArgs false
namespace Mun
open Go Go.RowKit
open Go.Proofs

/-- bytes in new memory, or nil, and a number -/
def Kept1 (w : World) (e : Ending) (w' : World) : Prop := ∃ v k L, e = .returned (.tuple #[v, .int .i64 k]) ∧ OwnB w' w.heap.size 5 v L ∧ Below w.heap.size w w' ∧ L.length ≤ 512

theorem own_block {w : World} {B g : Nat} {c : PBytes} (h : w.heap[g]? = some (bobj c)) (n : Nat) (hn : c.length = n) (hm : n ≤ maxLen) (hB : B ≤ g) : OwnB w B 5 (.slice (some ⟨g, 0, none⟩) n n) c := by
  subst hn
  refine ⟨by simp [bv], .inr ⟨g, c.length, _, rfl, hB, h, Nat.le_refl _, hm, by simp [bv], ?_⟩⟩
  rw [List.take_of_length_le (by simp [bv])]
theorem PageOut.kept {w w' : World} {p : PBytes} {e : Ending} (h : PageOut w p e w') : Kept1 w e w' := by
  obtain ⟨g, rfl, hp, hg, hb⟩ := h
  exact ⟨_, 0, p, rfl, own_block hp.1 512 hp.2 (by decide) hg, hb, by rw [hp.2]; exact Nat.le_refl _⟩
theorem PageNo.kept {w w' : World} {k : Int} {e : Ending} (h : PageNo w k e w') : Kept1 w e w' := by
  obtain ⟨rfl, hb⟩ := h
  exact ⟨_, k, [], rfl, OwnB.nil _ _ _, hb, by simp⟩
theorem BytesOut.kept {w w' : World} {c : PBytes} {e : Ending} (h : BytesOut w c e w') (hm : c.length ≤ 512) : Kept1 w e w' := by
  obtain ⟨g, rfl, hp, hg, hb⟩ := h
  exact ⟨_, 0, c, rfl, own_block hp _ rfl (by unfold maxLen; omega) hg, hb, hm⟩

section
variable {F : Foot} (w : World) (v u : Value) (p c : List UInt8) (i : Int)
theorem seal_kept (l : Nat) (hv : RdB F w v p) : Calls Try.prog 24 #[v, .int .u64 l] w (Kept1 w) := by
  by_cases hg : GoodP p
  · exact (seal_yes w v p l hv hg).mono fun _ _ h => h.kept
  · exact (seal_no w v p l hv hg).mono fun _ _ h => PageNo.kept h
end

/-- values of the call's own, apart -/
structure OwnL (B : Nat) (w0 wr : World) (vs : List Value) (Ls : List PBytes) : Prop where
  bl : Below B w0 wr
  len : Ls.length = vs.length
  own : ∀ (i : Nat) (v : Value), vs[i]? = some v → ∃ L, Ls[i]? = some L ∧ OwnB wr B 5 v L
  apart : ∀ (i j : Nat) (v u : Value), vs[i]? = some v → vs[j]? = some u → i ≠ j → ∀ k, v.ownBlock = some k → u.ownBlock ≠ some k

theorem OwnL.nil {B : Nat} {w0 wr : World} (h : Below B w0 wr) : OwnL B w0 wr [] [] := ⟨h, rfl, fun i v h => by simp at h, fun i j v u h => by simp at h⟩
theorem OwnL.below {B : Nat} {w0 wr w' : World} {vs : List Value} {Ls : List PBytes} (h : OwnL B w0 wr vs Ls) (hB : B ≤ wr.heap.size) (hb : Below wr.heap.size wr w') : OwnL B w0 w' vs Ls :=
  ⟨h.bl.trans (hb.mono hB), h.len, fun i v hv => by obtain ⟨L, h1, h2⟩ := h.own i v hv; exact ⟨L, h1, h2.below hb⟩, h.apart⟩
theorem OwnB.lower {w : World} {B B' : Nat} {v : Value} {L : PBytes} (h : OwnB w B 5 v L) (hB : B' ≤ B) : OwnB w B' 5 v L := ownsRow_base h (fun k hk => Nat.le_trans hB (h.lt k hk).1)

theorem getElem?_append_cases {α : Type} {l1 l2 : List α} {i : Nat} {x : α} (h : (l1 ++ l2)[i]? = some x) : (i < l1.length ∧ l1[i]? = some x) ∨ (l1.length ≤ i ∧ l2[i - l1.length]? = some x) := by
  rcases Nat.lt_or_ge i l1.length with hl | hl
  · rw [List.getElem?_append_left hl] at h; exact .inl ⟨hl, h⟩
  · rw [List.getElem?_append_right hl] at h; exact .inr ⟨hl, h⟩

/-- two of them, the blocks of the latter newer -/
theorem OwnL.app {B : Nat} {w0 w1 wr : World} {vs us : List Value} {Ls Us : List PBytes} (h : OwnL B w0 wr vs Ls) (k : OwnL w1.heap.size w1 wr us Us) (hB : B ≤ w1.heap.size) (hold : ∀ (i : Nat) (v : Value), vs[i]? = some v → ∀ j, v.ownBlock = some j → j < w1.heap.size) : OwnL B w0 wr (us ++ vs) (Us ++ Ls) := by
  refine ⟨h.bl, by simp [h.len, k.len], fun i v hv => ?_, fun i j v u hv hu hij b hb hb2 => ?_⟩
  · rcases getElem?_append_cases hv with ⟨h1, h2⟩ | ⟨h1, h2⟩
    · obtain ⟨L, h3, h4⟩ := k.own i v h2
      exact ⟨L, by rw [List.getElem?_append_left (by rw [k.len]; exact h1)]; exact h3, h4.lower hB⟩
    · obtain ⟨L, h3, h4⟩ := h.own _ v h2
      exact ⟨L, by rw [List.getElem?_append_right (by rw [k.len]; exact h1), k.len]; exact h3, h4⟩
  · rcases getElem?_append_cases hv with ⟨h1, h2⟩ | ⟨h1, h2⟩ <;> rcases getElem?_append_cases hu with ⟨h3, h4⟩ | ⟨h3, h4⟩
    · exact k.apart i j v u h2 h4 hij b hb hb2
    · obtain ⟨L, _, h6⟩ := k.own i v h2
      have := (h6.lt b hb).1
      have := hold _ u h4 b hb2
      omega
    · obtain ⟨L, _, h6⟩ := k.own j u h4
      have := (h6.lt b hb2).1
      have := hold _ v h2 b hb
      omega
    · exact h.apart _ _ v u h2 h4 (by omega) b hb hb2

theorem OwnL.lt {B : Nat} {w0 wr : World} {vs : List Value} {Ls : List PBytes} (h : OwnL B w0 wr vs Ls) (i : Nat) (v : Value) (hv : vs[i]? = some v) (j : Nat) (hj : v.ownBlock = some j) : B ≤ j ∧ j < wr.heap.size := by
  obtain ⟨L, _, h2⟩ := h.own i v hv
  exact h2.lt j hj

/-- one more -/
theorem OwnL.snoc {B : Nat} {w0 w w' : World} {vs : List Value} {Ls : List PBytes} {v : Value} {L : PBytes} (h : OwnL B w0 w vs Ls) (hB : B ≤ w.heap.size) (ho : OwnB w' w.heap.size 5 v L) (hb : Below w.heap.size w w') : OwnL B w0 w' (vs ++ [v]) (Ls ++ [L]) := by
  have h' := h.below hB hb
  refine ⟨h'.bl, by simp [h.len], fun i x hx => ?_, fun i j x y hx hy hij b hb1 hb2 => ?_⟩
  · rcases getElem?_append_cases hx with ⟨h1, h2⟩ | ⟨h1, h2⟩
    · obtain ⟨M, h3, h4⟩ := h'.own i x h2
      exact ⟨M, by rw [List.getElem?_append_left (by rw [h.len]; exact h1)]; exact h3, h4⟩
    · have hi0 : i - vs.length = 0 := by
        rcases Nat.eq_zero_or_pos (i - vs.length) with h0 | h0
        · exact h0
        · rw [List.getElem?_eq_none (by simp; omega)] at h2; cases h2
      rw [hi0] at h2
      simp only [List.getElem?_cons_zero, Option.some.injEq] at h2
      subst h2
      exact ⟨L, by rw [List.getElem?_append_right (by rw [h.len]; exact h1), h.len, hi0]; rfl, ho.lower hB⟩
  · have hlast : ∀ k (z : Value), vs.length ≤ k → [v][k - vs.length]? = some z → k = vs.length ∧ z = v := by
      intro k z h1 h2
      have hi0 : k - vs.length = 0 := by
        rcases Nat.eq_zero_or_pos (k - vs.length) with h0 | h0
        · exact h0
        · rw [List.getElem?_eq_none (by simp; omega)] at h2; cases h2
      rw [hi0] at h2
      simp only [List.getElem?_cons_zero, Option.some.injEq] at h2
      exact ⟨by omega, h2.symm⟩
    rcases getElem?_append_cases hx with ⟨h1, h2⟩ | ⟨h1, h2⟩ <;> rcases getElem?_append_cases hy with ⟨h3, h4⟩ | ⟨h3, h4⟩
    · exact h.apart i j x y h2 h4 hij b hb1 hb2
    · obtain ⟨_, rfl⟩ := hlast j y h3 h4
      have := (h.lt i x h2 b hb1).2
      have := (ho.lt b hb2).1
      omega
    · obtain ⟨_, rfl⟩ := hlast i x h1 h2
      have := (h.lt j y h4 b hb2).2
      have := (ho.lt b hb1).1
      omega
    · obtain ⟨e1, _⟩ := hlast i x h1 h2
      obtain ⟨e2, _⟩ := hlast j y h3 h4
      omega

/-- a row of new rows, or nil -/
def KeptL (w : World) (e : Ending) (w' : World) : Prop := ∃ u k us Us, e = .returned (.tuple #[u, .int .i64 k]) ∧ OwnV w' w.heap.size u us ∧ OwnL w.heap.size w w' us Us ∧ us.length ≤ 121 ∧ ∀ L ∈ Us, L.length ≤ 512

end Mun
