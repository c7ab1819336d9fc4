/- What calls tell is new memory: uniform contracts; rows of rows of the call's own. -/
import Derived.Test.YtndeebchiodimaaPageAw
import Derived.Test.YtndeebchiodimaaPageJ
import Derived.Test.YtndeebchiodimaaP10
import Derived.Test.YtndeebchiodimaaP13
import Derived.Test.YtndeebchiodimaaP15
import Derived.Test.YtndeebchiodimaaP16
set_option maxRecDepth 100000
set_option linter.unusedVariables false
set_option linter.unusedSimpArgs false
namespace Mun
open Go Go.RowKit
open Go.Proofs

/-- bytes in new memory, or nil, and a number -/
def Kept1 (w : World) (e : Ending) (w' : World) : Prop := ∃ v k L, e = .returned (.tuple #[v, .int .i64 k]) ∧ OwnB w' w.heap.size 5 v L ∧ Below w.heap.size w w' ∧ L.length ≤ 512

theorem own_block {w : World} {B g : Nat} {c : PBytes} (h : w.heap[g]? = some (bobj c)) (n : Nat) (hn : c.length = n) (hm : n ≤ maxLen) (hB : B ≤ g) : OwnB w B 5 (.slice (some ⟨g, 0, none⟩) n n) c := by
  subst hn
  refine ⟨by simp [bv], .inr ⟨g, c.length, _, rfl, hB, h, Nat.le_refl _, hm, by simp [bv], ?_⟩⟩
  rw [List.take_of_length_le (by simp [bv])]
theorem PageOut.kept {w w' : World} {p : PBytes} {e : Ending} (h : PageOut w p e w') : Kept1 w e w' := by
  obtain ⟨g, rfl, hp, hg, hb⟩ := h
  exact ⟨_, 0, p, rfl, own_block hp.1 512 hp.2 (by decide) hg, hb, by rw [hp.2]; exact Nat.le_refl _⟩
theorem PageNo.kept {w w' : World} {k : Int} {e : Ending} (h : PageNo w k e w') : Kept1 w e w' := by
  obtain ⟨rfl, hb⟩ := h
  exact ⟨_, k, [], rfl, OwnB.nil _ _ _, hb, by simp⟩
theorem BytesOut.kept {w w' : World} {c : PBytes} {e : Ending} (h : BytesOut w c e w') (hm : c.length ≤ 512) : Kept1 w e w' := by
  obtain ⟨g, rfl, hp, hg, hb⟩ := h
  exact ⟨_, 0, c, rfl, own_block hp _ rfl (by unfold maxLen; omega) hg, hb, hm⟩

section
variable {F : Foot} (w : World) (v u : Value) (p c : List UInt8) (i : Int)
theorem insert_kept (hv : RdB F w v p) (hu : RdB F w u c) (hcl : c.length ≤ 140737488355328) : Calls Try.prog 17 #[v, .int .i64 i, u] w (Kept1 w) := by
  by_cases hg : GoodP p
  · by_cases hi : 0 ≤ i ∧ i ≤ cnt p
    · obtain ⟨k, rfl⟩ := Int.eq_ofNat_of_zero_le hi.1
      by_cases hf : (c.length : Int) + 4 ≤ freeP p
      · exact (insert_yes w v u p c k hv hu hg (by omega) hf).mono fun _ _ h => h.kept
      · exact (insert_full w v u p c k hv hu hg (by omega) (by omega) hcl).mono fun _ _ h => PageNo.kept h
    · exact (insert_bad w v u p c i hv hu hg (by omega)).mono fun _ _ h => PageNo.kept h
  · exact (insert_no w v u p c i hv hu hg).mono fun _ _ h => PageNo.kept h
theorem remove_kept (hv : RdB F w v p) : Calls Try.prog 19 #[v, .int .i64 i] w (Kept1 w) := by
  by_cases hg : GoodP p
  · by_cases hi : 0 ≤ i ∧ i < cnt p
    · obtain ⟨k, rfl⟩ := Int.eq_ofNat_of_zero_le hi.1
      exact (remove_yes w v p k hv hg (by omega)).mono fun _ _ h => h.kept
    · exact (remove_bad w v p i hv hg (by omega)).mono fun _ _ h => PageNo.kept h
  · exact (remove_no w v p i hv hg).mono fun _ _ h => PageNo.kept h
theorem replace_kept (hv : RdB F w v p) (hu : RdB F w u c) (hcl : c.length ≤ 140737488355328) : Calls Try.prog 20 #[v, .int .i64 i, u] w (Kept1 w) := by
  by_cases hg : GoodP p
  · by_cases hi : 0 ≤ i ∧ i < cnt p
    · obtain ⟨k, rfl⟩ := Int.eq_ofNat_of_zero_le hi.1
      by_cases hs : c.length ≤ sSize p k
      · exact (replace_fits w v u p c k hv hu hg (by omega) hs).mono fun _ _ h => h.kept
      · by_cases hf : (c.length : Int) - sSize p k ≤ freeP p
        · exact (replace_yes w v u p c k hv hu hg (by omega) (by omega) hf).mono fun _ _ h => h.kept
        · exact (replace_full w v u p c k hv hu hg (by omega) (by omega) (by omega) hcl).mono fun _ _ h => PageNo.kept h
    · exact (replace_bad w v u p c i hv hu hg (by omega)).mono fun _ _ h => PageNo.kept h
  · exact (replace_no w v u p c i hv hu hg).mono fun _ _ h => PageNo.kept h
theorem compact_kept (hv : RdB F w v p) : Calls Try.prog 12 #[v] w (Kept1 w) := by
  by_cases hg : GoodP p
  · exact (compact_yes w v p hv hg (good_anewOk hg)).mono fun _ _ h => h.kept
  · exact (compact_no w v p hv hg).mono fun _ _ h => PageNo.kept h
theorem seal_kept (l : Nat) (hv : RdB F w v p) : Calls Try.prog 27 #[v, .int .u64 l] w (Kept1 w) := by
  by_cases hg : GoodP p
  · exact (seal_yes w v p l hv hg).mono fun _ _ h => h.kept
  · exact (seal_no w v p l hv hg).mono fun _ _ h => PageNo.kept h
theorem set_kept (l x : Nat) (hv : RdB F w v p) (hl : l < 4294967296) (hx : x < 4294967296) : Calls Try.prog 32 #[v, .int .i64 l, .int .i64 x] w (Kept1 w) := by
  by_cases hg : GoodP p
  · exact (set_yes w v p l x hv hg hl hx).mono fun _ _ h => h.kept
  · exact (set_no w v p l x hv hg).mono fun _ _ h => PageNo.kept h
theorem cell_kept (hv : RdB F w v p) : Calls Try.prog 34 #[v, .int .i64 i] w (Kept1 w) := by
  by_cases hg : GoodP p
  · by_cases hi : 0 ≤ i ∧ i < cnt p
    · obtain ⟨k, rfl⟩ := Int.eq_ofNat_of_zero_le hi.1
      exact (cell_yes w v p k hv hg (by omega)).mono fun _ _ h => h.kept (by unfold cellP; rw [List.length_take, List.length_drop]; have := hg.len; omega)
    · exact (cell_bad w v p i hv hg (by omega)).mono fun _ _ h => PageNo.kept h
  · exact (cell_no w v p i hv hg).mono fun _ _ h => PageNo.kept h
end

/-- values of the call's own, apart -/
structure OwnL (B : Nat) (w0 wr : World) (vs : List Value) (Ls : List PBytes) : Prop where
  bl : Below B w0 wr
  len : Ls.length = vs.length
  own : ∀ (i : Nat) (v : Value), vs[i]? = some v → ∃ L, Ls[i]? = some L ∧ OwnB wr B 5 v L
  apart : ∀ (i j : Nat) (v u : Value), vs[i]? = some v → vs[j]? = some u → i ≠ j → ∀ k, v.ownBlock = some k → u.ownBlock ≠ some k

theorem OwnL.nil {B : Nat} {w0 wr : World} (h : Below B w0 wr) : OwnL B w0 wr [] [] := ⟨h, rfl, fun i v h => by simp at h, fun i j v u h => by simp at h⟩
theorem OwnL.below {B : Nat} {w0 wr w' : World} {vs : List Value} {Ls : List PBytes} (h : OwnL B w0 wr vs Ls) (hB : B ≤ wr.heap.size) (hb : Below wr.heap.size wr w') : OwnL B w0 w' vs Ls :=
  ⟨h.bl.trans (hb.mono hB), h.len, fun i v hv => by obtain ⟨L, h1, h2⟩ := h.own i v hv; exact ⟨L, h1, h2.below hb⟩, h.apart⟩
theorem OwnB.lower {w : World} {B B' : Nat} {v : Value} {L : PBytes} (h : OwnB w B 5 v L) (hB : B' ≤ B) : OwnB w B' 5 v L := ownsRow_base h (fun k hk => Nat.le_trans hB (h.lt k hk).1)

theorem getElem?_append_cases {α : Type} {l1 l2 : List α} {i : Nat} {x : α} (h : (l1 ++ l2)[i]? = some x) : (i < l1.length ∧ l1[i]? = some x) ∨ (l1.length ≤ i ∧ l2[i - l1.length]? = some x) := by
  rcases Nat.lt_or_ge i l1.length with hl | hl
  · rw [List.getElem?_append_left hl] at h; exact .inl ⟨hl, h⟩
  · rw [List.getElem?_append_right hl] at h; exact .inr ⟨hl, h⟩

/-- two of them, the blocks of the latter newer -/
theorem OwnL.app {B : Nat} {w0 w1 wr : World} {vs us : List Value} {Ls Us : List PBytes} (h : OwnL B w0 wr vs Ls) (k : OwnL w1.heap.size w1 wr us Us) (hB : B ≤ w1.heap.size) (hold : ∀ (i : Nat) (v : Value), vs[i]? = some v → ∀ j, v.ownBlock = some j → j < w1.heap.size) : OwnL B w0 wr (us ++ vs) (Us ++ Ls) := by
  refine ⟨h.bl, by simp [h.len, k.len], fun i v hv => ?_, fun i j v u hv hu hij b hb hb2 => ?_⟩
  · rcases getElem?_append_cases hv with ⟨h1, h2⟩ | ⟨h1, h2⟩
    · obtain ⟨L, h3, h4⟩ := k.own i v h2
      exact ⟨L, by rw [List.getElem?_append_left (by rw [k.len]; exact h1)]; exact h3, h4.lower hB⟩
    · obtain ⟨L, h3, h4⟩ := h.own _ v h2
      exact ⟨L, by rw [List.getElem?_append_right (by rw [k.len]; exact h1), k.len]; exact h3, h4⟩
  · rcases getElem?_append_cases hv with ⟨h1, h2⟩ | ⟨h1, h2⟩ <;> rcases getElem?_append_cases hu with ⟨h3, h4⟩ | ⟨h3, h4⟩
    · exact k.apart i j v u h2 h4 hij b hb hb2
    · obtain ⟨L, _, h6⟩ := k.own i v h2
      have := (h6.lt b hb).1
      have := hold _ u h4 b hb2
      omega
    · obtain ⟨L, _, h6⟩ := k.own j u h4
      have := (h6.lt b hb2).1
      have := hold _ v h2 b hb
      omega
    · exact h.apart _ _ v u h2 h4 (by omega) b hb hb2

theorem OwnL.lt {B : Nat} {w0 wr : World} {vs : List Value} {Ls : List PBytes} (h : OwnL B w0 wr vs Ls) (i : Nat) (v : Value) (hv : vs[i]? = some v) (j : Nat) (hj : v.ownBlock = some j) : B ≤ j ∧ j < wr.heap.size := by
  obtain ⟨L, _, h2⟩ := h.own i v hv
  exact h2.lt j hj

/-- one more -/
theorem OwnL.snoc {B : Nat} {w0 w w' : World} {vs : List Value} {Ls : List PBytes} {v : Value} {L : PBytes} (h : OwnL B w0 w vs Ls) (hB : B ≤ w.heap.size) (ho : OwnB w' w.heap.size 5 v L) (hb : Below w.heap.size w w') : OwnL B w0 w' (vs ++ [v]) (Ls ++ [L]) := by
  have h' := h.below hB hb
  refine ⟨h'.bl, by simp [h.len], fun i x hx => ?_, fun i j x y hx hy hij b hb1 hb2 => ?_⟩
  · rcases getElem?_append_cases hx with ⟨h1, h2⟩ | ⟨h1, h2⟩
    · obtain ⟨M, h3, h4⟩ := h'.own i x h2
      exact ⟨M, by rw [List.getElem?_append_left (by rw [h.len]; exact h1)]; exact h3, h4⟩
    · have hi0 : i - vs.length = 0 := by
        rcases Nat.eq_zero_or_pos (i - vs.length) with h0 | h0
        · exact h0
        · rw [List.getElem?_eq_none (by simp; omega)] at h2; cases h2
      rw [hi0] at h2
      simp only [List.getElem?_cons_zero, Option.some.injEq] at h2
      subst h2
      exact ⟨L, by rw [List.getElem?_append_right (by rw [h.len]; exact h1), h.len, hi0]; rfl, ho.lower hB⟩
  · have hlast : ∀ k (z : Value), vs.length ≤ k → [v][k - vs.length]? = some z → k = vs.length ∧ z = v := by
      intro k z h1 h2
      have hi0 : k - vs.length = 0 := by
        rcases Nat.eq_zero_or_pos (k - vs.length) with h0 | h0
        · exact h0
        · rw [List.getElem?_eq_none (by simp; omega)] at h2; cases h2
      rw [hi0] at h2
      simp only [List.getElem?_cons_zero, Option.some.injEq] at h2
      exact ⟨by omega, h2.symm⟩
    rcases getElem?_append_cases hx with ⟨h1, h2⟩ | ⟨h1, h2⟩ <;> rcases getElem?_append_cases hy with ⟨h3, h4⟩ | ⟨h3, h4⟩
    · exact h.apart i j x y h2 h4 hij b hb1 hb2
    · obtain ⟨_, rfl⟩ := hlast j y h3 h4
      have := (h.lt i x h2 b hb1).2
      have := (ho.lt b hb2).1
      omega
    · obtain ⟨_, rfl⟩ := hlast i x h1 h2
      have := (h.lt j y h4 b hb2).2
      have := (ho.lt b hb1).1
      omega
    · obtain ⟨e1, _⟩ := hlast i x h1 h2
      obtain ⟨e2, _⟩ := hlast j y h3 h4
      omega

/-- a row of new rows, or nil -/
def KeptL (w : World) (e : Ending) (w' : World) : Prop := ∃ u k us Us, e = .returned (.tuple #[u, .int .i64 k]) ∧ OwnV w' w.heap.size u us ∧ OwnL w.heap.size w w' us Us ∧ us.length ≤ 121 ∧ ∀ L ∈ Us, L.length ≤ 512

theorem cells_kept {F : Foot} (w : World) (v : Value) (p : List UInt8) (hv : RdB F w v p) : Calls Try.prog 14 #[v] w (KeptL w) := by
  by_cases hg : GoodP p
  · refine (cells_yes w v p hv hg).mono ?_
    rintro e w' ⟨u, gs, rfl, hc, hb⟩
    have hzl : (List.zipWith cval gs (cellsP p (cnt p))).length = cnt p := by rw [List.length_zipWith, hc.len, cellsP_length, Nat.min_self]
    have hget : ∀ (i : Nat) (x : Value), (List.zipWith cval gs (cellsP p (cnt p)))[i]? = some x → ∃ g c, gs[i]? = some g ∧ (cellsP p (cnt p))[i]? = some c ∧ x = cval g c := by
      intro i x hx
      rw [List.getElem?_zipWith] at hx
      cases h1 : gs[i]? with
      | none => simp [h1] at hx
      | some g =>
        cases h2 : (cellsP p (cnt p))[i]? with
        | none => simp [h1, h2] at hx
        | some c => simp [h1, h2] at hx; exact ⟨g, c, rfl, rfl, hx.symm⟩
    refine ⟨u, 0, _, cellsP p (cnt p), rfl, hc.row, ⟨hb, by rw [cellsP_length, hzl], fun i x hx => ?_, fun i j x y hx hy hij b hb1 hb2 => ?_⟩, by rw [hzl]; have := hg.fit; have := hg.low; omega, fun c hc => ?_⟩
    · obtain ⟨g, c, h1, h2, rfl⟩ := hget i x hx
      refine ⟨c, h2, ?_⟩
      have hm : c.length ≤ 512 := by
        have hmem := List.mem_of_getElem? h2
        unfold cellsP at hmem
        obtain ⟨q, _, rfl⟩ := List.mem_map.1 hmem
        unfold cellP
        rw [List.length_take, List.length_drop, hg.len]
        omega
      have hi : i < (cellsP p (cnt p)).length := by
        rcases Nat.lt_or_ge i (cellsP p (cnt p)).length with h | h
        · exact h
        · rw [List.getElem?_eq_none h] at h2; cases h2
      obtain ⟨g', h3, h4⟩ := hc.blk i hi
      rw [h1] at h3
      injection h3 with h3
      subst h3
      rw [List.getElem?_eq_getElem hi] at h2
      injection h2 with h2
      rw [h2] at h4
      exact own_block h4 _ rfl (by unfold maxLen; omega) (hc.new g (List.mem_of_getElem? h1)).1
    · obtain ⟨g, c, h1, h2, rfl⟩ := hget i x hx
      obtain ⟨g', c', h3, h4, rfl⟩ := hget j y hy
      simp only [cval, Value.ownBlock, Option.some.injEq] at hb1 hb2
      subst hb1
      subst hb2
      have hi : i < gs.length := by
        rcases Nat.lt_or_ge i gs.length with h | h
        · exact h
        · rw [List.getElem?_eq_none h] at h1; cases h1
      exact hij ((List.getElem?_inj hi hc.nodup).1 (h1.trans h3.symm))
    · unfold cellsP at hc
      obtain ⟨q, _, rfl⟩ := List.mem_map.1 hc
      unfold cellP
      rw [List.length_take, List.length_drop, hg.len]
      omega
  · refine (cells_no w v p hv hg).mono ?_
    rintro e w' ⟨rfl, hb⟩
    exact ⟨_, 4, [], [], rfl, World.ownsRow_nil _ _ _ _, OwnL.nil hb, by simp, by simp⟩
end Mun
