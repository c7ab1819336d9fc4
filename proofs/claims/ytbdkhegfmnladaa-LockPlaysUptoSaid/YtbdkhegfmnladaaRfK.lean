/- The reference's tables in new memory: what a step that turns one lock does. -/
import Derived.Test.YtbdkhegfmnladaaRfW
import Derived.Deep.MidRow
set_option maxRecDepth 100000
set_option linter.unusedVariables false
set_option linter.unusedSimpArgs false
namespace Mun
open Go Go.RowKit
open Go.Proofs

theorem split_at {X : List LX} {k : Nat} {x : LX} (h : X[k]? = some x) : X.take k ++ x :: X.drop (k + 1) = X := by
  obtain ⟨hl, he⟩ := List.getElem?_eq_some_iff.1 h
  rw [← he, ← List.drop_eq_getElem_cons hl, List.take_append_drop]
theorem set_at {X : List LX} {k : Nat} {x : LX} (h : X[k]? = some x) (x' : LX) : X.set k x' = X.take k ++ x' :: X.drop (k + 1) := by
  rw [List.set_eq_take_append_cons_drop, if_pos (List.getElem?_eq_some_iff.1 h).1]
theorem blX_cat (T D : List LX) (x : LX) : blX (T ++ x :: D) = blX T ++ (x.bl ++ blX D) := by simp [blX]
theorem nodup_swap {T D a a' : List Nat} {N : Nat} (h : (T ++ (a ++ D)).Nodup) (hN : ∀ k ∈ T ++ (a ++ D), k < N) (ha' : a'.Nodup) (hs : ∀ k ∈ a', k ∈ a ∨ N ≤ k) : (T ++ (a' ++ D)).Nodup := by
  rw [List.nodup_append, List.nodup_append] at h
  obtain ⟨h1, ⟨h2, h3, h4⟩, h5⟩ := h
  rw [List.nodup_append, List.nodup_append]
  refine ⟨h1, ⟨ha', h3, fun x hx y hy e => ?_⟩, fun x hx y hy e => ?_⟩
  · rcases hs x hx with h9 | h9
    · exact h4 x h9 y hy e
    · have := hN y (List.mem_append_right _ (List.mem_append_right _ hy)); omega
  · rcases List.mem_append.1 hy with hy | hy
    · rcases hs y hy with h9 | h9
      · exact h5 x hx y (List.mem_append_left _ h9) e
      · have := hN x (List.mem_append_left _ hx); omega
    · exact h5 x hx y (List.mem_append_right _ hy) e
theorem mem_bl {x : LX} {k : Nat} : k ∈ x.bl ↔ x.hv.ownBlock = some k ∨ x.qv.ownBlock = some k := by
  unfold LX.bl
  rw [List.mem_append, Option.mem_toList, Option.mem_toList]
theorem bl_nodup {x : LX} : x.bl.Nodup ↔ ∀ k, x.hv.ownBlock = some k → x.qv.ownBlock ≠ some k := by
  unfold LX.bl
  rw [List.nodup_append]
  constructor
  · rintro ⟨-, -, h⟩ k h1 h2
    exact h k (Option.mem_toList.2 h1) k (Option.mem_toList.2 h2) rfl
  · intro h
    refine ⟨toList_nodup _, toList_nodup _, fun a ha b hb e => ?_⟩
    subst e
    exact h a (Option.mem_toList.1 ha) (Option.mem_toList.1 hb)
/-- others' blocks -/
theorem nd_apart {T D : List LX} {x y : LX} (h : (blX (T ++ x :: D)).Nodup) (hy : y ∈ T ∨ y ∈ D) {k : Nat} (h1 : k ∈ x.bl) : k ∉ y.bl := by
  rw [blX_cat, List.nodup_append, List.nodup_append] at h
  obtain ⟨-, ⟨-, -, h4⟩, h5⟩ := h
  intro h2
  have hm : ∀ Y : List LX, y ∈ Y → k ∈ blX Y := fun Y hY => List.mem_flatMap.2 ⟨y, hY, h2⟩
  rcases hy with hy | hy
  · exact h5 k (hm T hy) k (List.mem_append_left _ h1) rfl
  · exact h4 k h1 k (hm D hy) rfl

section
variable {B : Nat} {w w1 w2 : World} {v : Value} {T D : List LX} {x : LX}
theorem mem_cat {x y : LX} {T D : List LX} (hy : y ∈ T ++ x :: D) : y = x ∨ y ∈ T ∨ y ∈ D := by
  rcases List.mem_append.1 hy with h | h
  · exact .inr (.inl h)
  · rcases List.mem_cons.1 h with h | h
    · exact .inl h
    · exact .inr (.inr h)
/-- a lock's holders have turned (in their own block, or in a new one) -/
theorem TabO.setH (h : TabO B w v (T ++ x :: D)) (hs' : List (Int × Int)) (hv' : Value) (hg : w.grownBy w1 x.hv.ownBlock) (ho : w1.ownsRow B 103 2 hv' hs'.length (gC hs'))
    (hob : ∀ j, hv'.ownBlock = some j → x.hv.ownBlock = some j ∨ w.heap.size ≤ j)
    (hrow : w1.ownsRow B 98 3 v (T ++ x :: D).length (lxC (T ++ x :: D)) → w2.ownsRow B 98 3 v (T ++ x :: D).length (lxC (T ++ ⟨x.name, hs', x.qs, hv', x.qv⟩ :: D)))
    (hk : ∀ j, j < w1.heap.size → v.ownBlock ≠ some j → w2.heap[j]? = w1.heap[j]?) : TabO B w2 v (T ++ ⟨x.name, hs', x.qs, hv', x.qv⟩ :: D) := by
  have hxm : x ∈ T ++ x :: D := by simp
  have hl9 : (T ++ (⟨x.name, hs', x.qs, hv', x.qv⟩ : LX) :: D).length = (T ++ x :: D).length := by simp
  have hrow1 : w1.ownsRow B 98 3 v (T ++ x :: D).length (lxC (T ++ x :: D)) := rowU_keep h.row (fun k e => hg.block k (h.row.lt k e).2 (fun e9 => row_apart (h.hr x hxm) h.row (by decide) k e9.symm e))
  have hkp : ∀ {u : Value} {n : Nat} {xs : List Value}, w.ownsRow B 103 2 u n xs → (∀ k, u.ownBlock = some k → x.hv.ownBlock ≠ some k) → w2.ownsRow B 103 2 u n xs := fun {u n xs} hu hne =>
    rowU_keep hu (fun k e => (hk k (Nat.lt_of_lt_of_le (hu.lt k e).2 hg.size) (row_apart hu h.row (by decide) k e)).trans (hg.block k (hu.lt k e).2 (fun e9 => hne k e e9.symm)))
  refine ⟨by rw [hl9]; exact hrow hrow1, fun y hy => ?_, fun y hy => ?_, ?_⟩
  · rcases mem_cat hy with rfl | h9
    · exact rowU_keep ho (fun k e => hk k (ho.lt k e).2 (row_apart ho hrow1 (by decide) k e))
    · exact hkp (h.hr y (by rcases h9 with h9 | h9 <;> simp [h9])) (fun k e e2 => nd_apart h.nd h9 (mem_bl.2 (.inl e2)) (mem_bl.2 (.inl e)))
  · rcases mem_cat hy with rfl | h9
    · exact hkp (h.qr x hxm) (fun k e e2 => by
        have h8 := h.nd
        rw [blX_cat, List.nodup_append, List.nodup_append] at h8
        exact bl_nodup.1 h8.2.1.1 k e2 e)
    · exact hkp (h.qr y (by rcases h9 with h9 | h9 <;> simp [h9])) (fun k e e2 => nd_apart h.nd h9 (mem_bl.2 (.inl e2)) (mem_bl.2 (.inr e)))
  · have h8 := h.nd
    have h7 := h.lt
    rw [blX_cat] at h8 h7 ⊢
    have hxb := h8
    rw [List.nodup_append, List.nodup_append] at hxb
    refine nodup_swap h8 h7 (bl_nodup.2 (fun k e e2 => ?_)) (fun k hk => ?_)
    · rcases hob k e with h9 | h9
      · exact bl_nodup.1 hxb.2.1.1 k h9 e2
      · have h6 : k < w.heap.size := ((h.qr x hxm).lt k e2).2
        omega
    · rcases mem_bl.1 hk with e | e
      · rcases hob k e with h9 | h9
        · exact .inl (mem_bl.2 (.inl h9))
        · exact .inr h9
      · exact .inl (mem_bl.2 (.inr e))
/-- a lock's queue has turned -/
theorem TabO.setQ (h : TabO B w v (T ++ x :: D)) (qs' : List (Int × Int)) (qv' : Value) (hg : w.grownBy w1 x.qv.ownBlock) (ho : w1.ownsRow B 103 2 qv' qs'.length (gC qs'))
    (hob : ∀ j, qv'.ownBlock = some j → x.qv.ownBlock = some j ∨ w.heap.size ≤ j)
    (hrow : w1.ownsRow B 98 3 v (T ++ x :: D).length (lxC (T ++ x :: D)) → w2.ownsRow B 98 3 v (T ++ x :: D).length (lxC (T ++ ⟨x.name, x.hs, qs', x.hv, qv'⟩ :: D)))
    (hk : ∀ j, j < w1.heap.size → v.ownBlock ≠ some j → w2.heap[j]? = w1.heap[j]?) : TabO B w2 v (T ++ ⟨x.name, x.hs, qs', x.hv, qv'⟩ :: D) := by
  have hxm : x ∈ T ++ x :: D := by simp
  have hl9 : (T ++ (⟨x.name, x.hs, qs', x.hv, qv'⟩ : LX) :: D).length = (T ++ x :: D).length := by simp
  have hrow1 : w1.ownsRow B 98 3 v (T ++ x :: D).length (lxC (T ++ x :: D)) := rowU_keep h.row (fun k e => hg.block k (h.row.lt k e).2 (fun e9 => row_apart (h.qr x hxm) h.row (by decide) k e9.symm e))
  have hkp : ∀ {u : Value} {n : Nat} {xs : List Value}, w.ownsRow B 103 2 u n xs → (∀ k, u.ownBlock = some k → x.qv.ownBlock ≠ some k) → w2.ownsRow B 103 2 u n xs := fun {u n xs} hu hne =>
    rowU_keep hu (fun k e => (hk k (Nat.lt_of_lt_of_le (hu.lt k e).2 hg.size) (row_apart hu h.row (by decide) k e)).trans (hg.block k (hu.lt k e).2 (fun e9 => hne k e e9.symm)))
  refine ⟨by rw [hl9]; exact hrow hrow1, fun y hy => ?_, fun y hy => ?_, ?_⟩
  · rcases mem_cat hy with rfl | h9
    · exact hkp (h.hr x hxm) (fun k e e2 => by
        have h8 := h.nd
        rw [blX_cat, List.nodup_append, List.nodup_append] at h8
        exact bl_nodup.1 h8.2.1.1 k e e2)
    · exact hkp (h.hr y (by rcases h9 with h9 | h9 <;> simp [h9])) (fun k e e2 => nd_apart h.nd h9 (mem_bl.2 (.inr e2)) (mem_bl.2 (.inl e)))
  · rcases mem_cat hy with rfl | h9
    · exact rowU_keep ho (fun k e => hk k (ho.lt k e).2 (row_apart ho hrow1 (by decide) k e))
    · exact hkp (h.qr y (by rcases h9 with h9 | h9 <;> simp [h9])) (fun k e e2 => nd_apart h.nd h9 (mem_bl.2 (.inr e2)) (mem_bl.2 (.inr e)))
  · have h8 := h.nd
    have h7 := h.lt
    rw [blX_cat] at h8 h7 ⊢
    have hxb := h8
    rw [List.nodup_append, List.nodup_append] at hxb
    refine nodup_swap h8 h7 (bl_nodup.2 (fun k e e2 => ?_)) (fun k hk => ?_)
    · rcases hob k e2 with h9 | h9
      · exact bl_nodup.1 hxb.2.1.1 k e h9
      · have h6 : k < w.heap.size := ((h.hr x hxm).lt k e).2
        omega
    · rcases mem_bl.1 hk with e | e
      · exact .inl (mem_bl.2 (.inl e))
      · rcases hob k e with h9 | h9
        · exact .inl (mem_bl.2 (.inr h9))
        · exact .inr h9
end

/-! a row's cells turned -/
theorem lxC_set3 : ∀ {X : List LX} {k : Nat} (x' : LX), k < X.length → (((lxC X).set (k * 3) (.string x'.name)).set (k * 3 + 1) x'.hv).set (k * 3 + 2) x'.qv = lxC (X.set k x')
  | [], k, x', h => by simp at h
  | y :: X, 0, x', h => by simp [lxC, LX.cells]
  | y :: X, k + 1, x', h => by
    have ih := lxC_set3 (X := X) (k := k) x' (by simpa using h)
    have e1 : lxC (y :: X) = .string y.name :: y.hv :: y.qv :: lxC X := rfl
    have e2 : lxC ((y :: X).set (k + 1) x') = .string y.name :: y.hv :: y.qv :: lxC (X.set k x') := rfl
    rw [e1, e2, ← ih, show (k + 1) * 3 = k * 3 + 1 + 1 + 1 by omega, show k * 3 + 1 + 1 + 1 + 1 = (k * 3 + 1) + 1 + 1 + 1 by omega, show k * 3 + 1 + 1 + 1 + 2 = (k * 3 + 2) + 1 + 1 + 1 by omega]
    rfl
theorem lxC_setQ : ∀ {X : List LX} {k : Nat} {x : LX} (qs' : List (Int × Int)) (qv' : Value), X[k]? = some x → (lxC X).set (k * 3 + 2) qv' = lxC (X.set k ⟨x.name, x.hs, qs', x.hv, qv'⟩)
  | [], k, x, qs', qv', h => by simp at h
  | y :: X, 0, x, qs', qv', h => by
    simp at h
    subst h
    simp [lxC, LX.cells]
  | y :: X, k + 1, x, qs', qv', h => by
    have ih := lxC_setQ (X := X) (k := k) qs' qv' (by simpa using h)
    have e1 : lxC (y :: X) = .string y.name :: y.hv :: y.qv :: lxC X := rfl
    have e2 : lxC ((y :: X).set (k + 1) ⟨x.name, x.hs, qs', x.hv, qv'⟩) = .string y.name :: y.hv :: y.qv :: lxC (X.set k ⟨x.name, x.hs, qs', x.hv, qv'⟩) := rfl
    rw [e1, e2, ← ih, show (k + 1) * 3 + 2 = (k * 3 + 2) + 1 + 1 + 1 by omega]
    rfl
theorem lxC_setH : ∀ {X : List LX} {k : Nat} {x : LX} (hs' : List (Int × Int)) (hv' : Value), X[k]? = some x → (lxC X).set (k * 3 + 1) hv' = lxC (X.set k ⟨x.name, hs', x.qs, hv', x.qv⟩)
  | [], k, x, hs', hv', h => by simp at h
  | y :: X, 0, x, hs', hv', h => by
    simp at h
    subst h
    simp [lxC, LX.cells]
  | y :: X, k + 1, x, hs', hv', h => by
    have ih := lxC_setH (X := X) (k := k) hs' hv' (by simpa using h)
    have e1 : lxC (y :: X) = .string y.name :: y.hv :: y.qv :: lxC X := rfl
    have e2 : lxC ((y :: X).set (k + 1) ⟨x.name, hs', x.qs, hv', x.qv⟩) = .string y.name :: y.hv :: y.qv :: lxC (X.set k ⟨x.name, hs', x.qs, hv', x.qv⟩) := rfl
    rw [e1, e2, ← ih, show (k + 1) * 3 + 1 = (k * 3 + 1) + 1 + 1 + 1 by omega]
    rfl
section
variable {B : Nat} {w : World} {g n c : Nat} {X : List LX}
/-- a lock stored whole -/
theorem lx_store3 (h : w.ownsRow B 98 3 (.slice (some ⟨g, 0, none⟩) n c) n (lxC X)) {k : Nat} (hk : k < X.length) (x' : LX) :
    (w.setCells g (k * 3) [.string x'.name, x'.hv, x'.qv]).ownsRow B 98 3 (.slice (some ⟨g, 0, none⟩) n c) n (lxC (X.set k x')) ∧ w.grownBy (w.setCells g (k * 3) [.string x'.name, x'.hv, x'.qv]) (some g) := by
  obtain ⟨h1, g1⟩ := h.stored (k * 3) (.string x'.name)
  obtain ⟨h2, g2⟩ := h1.stored (k * 3 + 1) x'.hv
  obtain ⟨h3, g3⟩ := h2.stored (k * 3 + 2) x'.qv
  rw [lxC_set3 x' hk] at h3
  exact ⟨h3, grown_trans (grown_trans g1 g2) g3⟩
theorem lx_there (h : w.ownsRow B 98 3 (.slice (some ⟨g, 0, none⟩) n c) n (lxC X)) {k : Nat} (hk : k < X.length) : w.there g (k * 3) 3 := by
  intro j hj
  rcases h.2 with ⟨e, -⟩ | ⟨g', cap, cur, e, hb, hg, h1, h2, h3, h4⟩
  · cases e
  · injection e with e1 e2 e3
    injection e1 with e1
    injection e1 with e1 _ _
    subst e1
    have hl := h.1
    have hlx := lxC_len X
    have hsz : k * 3 + j < cur.size := by
      have h5 := congrArg List.length h4
      rw [List.length_take, Array.length_toList] at h5
      omega
    refine ⟨?_, by simp [World.frozen?, hg]⟩
    rw [cell_of_row w g (k * 3 + j) cur _ _ hg]
    simp [hsz]
theorem lx_cells (h : w.ownsRow B 98 3 (.slice (some ⟨g, 0, none⟩) n c) n (lxC X)) {k : Nat} {x : LX} (hk : X[k]? = some x) (hn : X.length = n) :
    w.cell? ⟨g, k * 3, none⟩ = some (.string x.name) ∧ w.cell? ⟨g, k * 3 + 1, none⟩ = some x.hv ∧ w.cell? ⟨g, k * 3 + 2, none⟩ = some x.qv := by
  obtain ⟨hil, he⟩ := List.getElem?_eq_some_iff.1 hk
  have hrd := RdV.of_own (F := NoF) h (fun _ _ => noF _)
  obtain ⟨g', off, c', hv, -, -, -, -, hc⟩ := hrd.at_ (by omega)
  injection hv with e1 e2 e3
  injection e1 with e1
  injection e1 with e1 e4 _
  subst e1 e4
  have k0 := hc (k * 3 + 0) _ (by rw [lxC_get X k 0 hil (by decide)]; rfl)
  have k1 := hc (k * 3 + 1) _ (by rw [lxC_get X k 1 hil (by decide)]; rfl)
  have k2 := hc (k * 3 + 2) _ (by rw [lxC_get X k 2 hil (by decide)]; rfl)
  rw [Nat.zero_add] at k0 k1 k2
  rw [he] at k0 k1 k2
  exact ⟨k0, k1, k2⟩
end
/-- a row that holds something has its block -/
theorem ownsRow_some {w : World} {B : Nat} {e : TypeId} {size n : Nat} {v : Value} {xs : List Value} (h : w.ownsRow B e size v n xs) (hn : 0 < n) : ∃ g c, v = .slice (some ⟨g, 0, none⟩) n c ∧ B ≤ g ∧ g < w.heap.size ∧ ∃ cur, w.heap[g]? = some (.cells cur e (0, 0)) := by
  rcases h.2 with ⟨-, e2⟩ | ⟨g, cap, cur, e1, hb, hg, -⟩
  · omega
  · exact ⟨g, cap, e1, hb, (Array.getElem?_eq_some_iff.1 hg).1, cur, hg⟩
/-- a row with one grant more in its midst, laid anew -/
theorem gr_insert {F : Foot} {w : World} {a : Option Addr} {n c : Nat} {l : List (Int × Int)} (h : GAt F w (.slice a n c) l) (hn : l.length = n) (j : Nat) (hj : j ≤ n) (y : Int × Int) (hl : n ≤ 1048576) :
    ∃ (b6 : Option Addr) (c6 : Nat) (w6 : World) (R7 c7 : Nat) (w7 : World) (b8 : Option Addr) (c8 : Nat) (w8 : World),
      (Builtin.append_ #[96, 96] 96 #[.slice none 0 0, sliced a 0 j c 2]).run Try.prog w = .ok (.slice b6 j c6) w6 ∧
      (Builtin.append_ #[96, 96] 96 #[.slice b6 j c6, .slice (some ⟨w6.heap.size, 0, none⟩) 1 1]).run Try.prog (w6.alloc (.cells #[.int .u64 y.1, .int .i64 y.2] 103)) = .ok (.slice (some ⟨R7, 0, none⟩) (j + 1) c7) w7 ∧
      (Builtin.append_ #[96, 96] 96 #[.slice (some ⟨R7, 0, none⟩) (j + 1) c7, sliced a j n c 2]).run Try.prog w7.drew = .ok (.slice b8 (n + 1) c8) w8 ∧
      Below w.heap.size w w6 ∧ Below w.heap.size w w7 ∧ Below w.heap.size w w8 ∧ w8.ownsRow w.heap.size 103 2 (.slice b8 (n + 1) c8) (n + 1) (gC (qins l j y)) := by
  have p1 := h.part hn 0 j (Nat.zero_le _) hj
  have hl1 : ((l.drop 0).take (j - 0)).length = j := by rw [List.drop_zero, Nat.sub_zero, List.length_take]; omega
  have hr1 := p1.rd
  rw [hl1] at hr1
  rw [List.drop_zero, Nat.sub_zero] at hr1
  obtain ⟨b6, c6, w6, hr6, ho6, hg6, hob6⟩ := app_rw (ty := 96) (B := w.heap.size) info_gC Try.underlying96 rfl (by decide) (by decide) (World.ownsRow_nil w w.heap.size _ _) hr1 (gC_one _) (Nat.le_refl _) (by omega)
  rw [Nat.zero_add] at hr6 ho6 hob6
  rw [List.nil_append] at ho6
  have hb6 : Below w.heap.size w w6 := below_grown (Below.refl _ _) hg6 (fun i e => by have e9 : (none : Option Nat) = some i := e; cases e9)
  obtain ⟨R7, c7, w7, hr7, ho7, hg7, hob7⟩ := push_rw (ty := 96) info_gC Try.underlying96 rfl (by decide) (by decide) ho6 #[.int .u64 y.1, .int .i64 y.2] rfl (by intro u hu; simp at hu; rcases hu with rfl | rfl <;> rfl) hb6.size (by omega)
  have hb7 : Below w.heap.size w w7 := below_grown hb6 hg7 (fun i e => (ho6.lt i e).1)
  have hbd : Below w.heap.size w w7.drew := below_drewN hb7 1
  have p2 := (h.below hbd).part hn j n hj (Nat.le_refl _)
  have hl2 : ((l.drop j).take (n - j)) = l.drop j := List.take_of_length_le (by rw [List.length_drop]; omega)
  rw [hl2] at p2
  have hr2 := p2.rd
  have hl3 : (l.drop j).length = n - j := by rw [List.length_drop]; omega
  rw [hl3] at hr2
  obtain ⟨b8, c8, w8, hr8, ho8, hg8, hob8⟩ := app_rw (ty := 96) info_gC Try.underlying96 rfl (by decide) (by decide) (rowU_keep ho7 (fun _ _ => rfl) : w7.drew.ownsRow w.heap.size _ _ _ _ _) hr2 (gC_one _) hbd.size (by omega)
  have hb8 : Below w.heap.size w w8 := below_grown hbd hg8 (fun i e => (ho7.lt i e).1)
  rw [show j + 1 + (n - j) = n + 1 by omega] at hr8 ho8
  refine ⟨b6, c6, w6, R7, c7, w7, b8, c8, w8, hr6, hr7, hr8, hb6, hb7, hb8, ?_⟩
  have e9 : gC (l.take j) ++ (#[Value.int .u64 y.1, .int .i64 y.2]).toList ++ gC (l.drop j) = gC (qins l j y) := by
    unfold qins
    rw [gC_app, List.append_assoc]
    congr 1
  rw [← e9]
  exact ho8
theorem findIdx_at {α : Type} {l : List α} {p : α → Bool} {j : Nat} (h : ∀ a ∈ l.take j, p a = false) (he : l.length = j ∨ ∃ hj : j < l.length, p l[j] = true) : l.findIdx p = j := by
  have hjl : j ≤ l.length := by rcases he with e | ⟨hj, -⟩ <;> omega
  have h0 : (l.take j).findIdx p = (l.take j).length := by
    rw [List.findIdx_eq_length]
    exact h
  have hl : (l.take j).length = j := by rw [List.length_take]; omega
  conv => lhs; rw [← List.take_append_drop j l]
  rw [List.findIdx_append, h0, if_neg (Nat.lt_irrefl _), hl]
  rcases he with e | ⟨hj, hp⟩
  · rw [List.drop_of_length_le (by omega)]; simp
  · rw [List.drop_eq_getElem_cons hj, List.findIdx_cons, hp]; simp
end Mun
