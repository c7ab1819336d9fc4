/- The reference's Free: what its loops keep. -/
import Derived.Test.YtbdkhegfmnladaaRfQ
set_option maxRecDepth 100000
set_option linter.unusedVariables false
set_option linter.unusedSimpArgs false
namespace Mun
open Go Go.RowKit
open Go.Proofs

theorem klook_filter (l : List (Int × Int)) (o : Int) : klook (l.filter (neO o)) = upd (klook l) o none := by
  funext u
  unfold upd
  induction l with
  | nil => simp [klook]
  | cons a l ih =>
    by_cases h : a.1 = o
    · rw [List.filter_cons_of_neg (by unfold neO; simp [h]), ih, klook_cons]
      by_cases hu : u = o
      · simp [hu]
      · rw [if_neg hu, if_neg hu, if_neg (fun e => hu (by rw [← e, h]))]
    · rw [List.filter_cons_of_pos (by unfold neO; simp [h]), klook_cons, klook_cons, ih]
      by_cases hu : a.1 = u
      · rw [if_pos hu, if_pos hu, if_neg (fun e => h (by rw [hu, e]))]
      · rw [if_neg hu, if_neg hu]
theorem filter_same {l : List (Int × Int)} {o : Int} (h : decide (o ∈ l.map (·.1)) = false) : l.filter (neO o) = l := by
  rw [List.filter_eq_self]
  intro a ha
  unfold neO
  have h9 := of_decide_eq_false h
  have : a.1 ≠ o := fun e => h9 (by rw [← e]; exact List.mem_map_of_mem ha)
  simp [this]

abbrev oldF (w : World) : Foot := fun k => k < w.heap.size
abbrev othF (w : World) (b0 : Nat) : Foot := fun k => k < w.heap.size ∨ b0 ≤ k
abbrev ownF (w : World) (v : Value) : Foot := fun k => k < w.heap.size ∨ v.ownBlock = some k

/-- within Free's outer loop -/
structure FoR (w wr : World) (a1 : Option Addr) (n c : Nat) (X : List LX) (ov_ : Value) (l : List (Int × Int)) : Prop where
  bl : Below w.heap.size w wr
  k0 : wr.heap[w.heap.size]? = some (.cells #[.slice a1 n c] 51 (0, 0))
  k1 : wr.heap[w.heap.size + 1]? = some (.cells #[.slice none 0 0] 51 (0, 0))
  row : wr.ownsRow (w.heap.size + 1 + 1) 98 3 (.slice a1 n c) n (lxC X)
  hr : ∀ x ∈ X, GAt (oldF w) wr x.hv x.hs
  qr : ∀ x ∈ X, GAt (oldF w) wr x.qv x.qs
  out : wr.ownsRow (w.heap.size + 1 + 1) 29 1 ov_ l.length (ov l)
  ln : X.length = n
/-- within the inner one: lock i has turned -/
structure FiR (w wr : World) (g n c : Nat) (X : List LX) (i : Nat) (x : LX) (b0 : Nat) (ov_ : Value) (l : List (Int × Int)) (y : LX) : Prop where
  bl : Below w.heap.size w wr
  k0 : wr.heap[w.heap.size]? = some (.cells #[.slice (some ⟨g, 0, none⟩) n c] 51 (0, 0))
  k1 : wr.heap[w.heap.size + 1]? = some (.cells #[.slice none 0 0] 51 (0, 0))
  row : wr.ownsRow (w.heap.size + 1 + 1) 98 3 (.slice (some ⟨g, 0, none⟩) n c) n (lxC (X.set i y))
  hi : wr.ownsRow b0 103 2 y.hv y.hs.length (gC y.hs)
  qi : GAt (ownF w y.hv) wr y.qv y.qs
  hr : ∀ z ∈ X, GAt (othF w b0) wr z.hv z.hs
  qr : ∀ z ∈ X, GAt (othF w b0) wr z.qv z.qs
  out : wr.ownsRow (w.heap.size + 1 + 1) 29 1 ov_ l.length (ov l)
  ln : X.length = n
  at_ : X[i]? = some x
  b0l : w.heap.size + 1 + 1 ≤ b0
  b0s : b0 ≤ wr.heap.size
section
variable {w wr w' : World} {a1 : Option Addr} {g n c i b0 : Nat} {X : List LX} {x y : LX} {ov_ : Value} {l : List (Int × Int)}
theorem FoR.below (h : FoR w wr a1 n c X ov_ l) (hb : Below wr.heap.size wr w') : FoR w w' a1 n c X ov_ l :=
  ⟨h.bl.trans (hb.mono h.bl.size), (hb.block _ (lt_of_block h.k0)).trans h.k0, (hb.block _ (lt_of_block h.k1)).trans h.k1, rowU_keep h.row (fun k e => hb.block k (h.row.lt k e).2), fun x hx => (h.hr x hx).below hb, fun x hx => (h.qr x hx).below hb, rowU_keep h.out (fun k e => hb.block k (h.out.lt k e).2), h.ln⟩
theorem FiR.below (h : FiR w wr g n c X i x b0 ov_ l y) (hb : Below wr.heap.size wr w') : FiR w w' g n c X i x b0 ov_ l y :=
  ⟨h.bl.trans (hb.mono h.bl.size), (hb.block _ (lt_of_block h.k0)).trans h.k0, (hb.block _ (lt_of_block h.k1)).trans h.k1, rowU_keep h.row (fun k e => hb.block k (h.row.lt k e).2), rowU_keep h.hi (fun k e => hb.block k (h.hi.lt k e).2), h.qi.below hb, fun z hz => (h.hr z hz).below hb, fun z hz => (h.qr z hz).below hb, rowU_keep h.out (fun k e => hb.block k (h.out.lt k e).2), h.ln, h.at_, h.b0l, Nat.le_trans h.b0s hb.size⟩
theorem FiR.il (h : FiR w wr g n c X i x b0 ov_ l y) : i < X.length := (List.getElem?_eq_some_iff.1 h.at_).1
theorem FiR.g0 (h : FiR w wr g n c X i x b0 ov_ l y) : w.heap.size + 1 + 1 ≤ g := (h.row.lt g rfl).1
theorem FiR.yat (h : FiR w wr g n c X i x b0 ov_ l y) : (X.set i y)[i]? = some y := by
  rw [List.getElem?_set_self h.il]
theorem FiR.yln (h : FiR w wr g n c X i x b0 ov_ l y) : (X.set i y).length = n := by rw [List.length_set]; exact h.ln
/-- the lock's block alone has turned -/
theorem FiR.lock (h : FiR w wr g n c X i x b0 ov_ l y) {y' : LX} (h1 : w'.heap.size = wr.heap.size) (h2 : w'.os = wr.os ∧ w'.tape = wr.tape ∧ w'.output = wr.output) (hk : ∀ k, k ≠ g → w'.heap[k]? = wr.heap[k]?)
    (hrow : w'.ownsRow (w.heap.size + 1 + 1) 98 3 (.slice (some ⟨g, 0, none⟩) n c) n (lxC (X.set i y'))) (hh : wr.ownsRow b0 103 2 y'.hv y'.hs.length (gC y'.hs)) (hq : GAt (ownF w y'.hv) wr y'.qv y'.qs) : FiR w w' g n c X i x b0 ov_ l y' := by
  have hg0 := h.g0
  have hgt : ∀ (k : Nat) (cur : Array Value) (fr : Nat × Nat), wr.heap[k]? = some (.cells cur 103 fr) → k ≠ g := fun k cur fr hc e => by
    subst e
    rcases h.row.2 with ⟨e, -⟩ | ⟨g', cap, cur', e, -, hg', -⟩
    · cases e
    · injection e with e _ _
      injection e with e
      injection e with e _ _
      subst e
      rw [hg'] at hc
      injection hc with hc
      injection hc with _ hc _
      exact absurd hc (by decide)
  refine ⟨⟨h2.1.trans h.bl.os, h2.2.1.trans h.bl.tape, h2.2.2.trans h.bl.output, by rw [h1]; exact h.bl.size, fun k hk2 => (hk k (by omega)).trans (h.bl.block k hk2)⟩, (hk _ (by omega)).trans h.k0, (hk _ (by omega)).trans h.k1, hrow, rowU_keep hh (fun k e => hk k (fun e2 => ?_)), ?_, fun z hz => ?_, fun z hz => ?_, rowU_keep h.out (fun k e => hk k (fun e2 => ?_)), h.ln, h.at_, h.b0l, by rw [h1]; exact h.b0s⟩
  · subst e2; exact row_apart hh h.row (by decide) k e rfl
  · exact hq.keepT (fun k cur fr _ hc => hk k (hgt k cur fr hc)) (fun k _ h9 => h9)
  · exact (h.hr z hz).keepT (fun k cur fr _ hc => hk k (hgt k cur fr hc)) (fun k _ h9 => h9)
  · exact (h.qr z hz).keepT (fun k cur fr _ hc => hk k (hgt k cur fr hc)) (fun k _ h9 => h9)
  · subst e2; exact row_apart h.out h.row (by decide) k e rfl
/-- hold has turned the lock's holders -/
theorem FiR.held (h : FiR w wr g n c X i x b0 ov_ l y) {w5 : World} (hs' : List (Int × Int)) (hv' : Value) (hg : wr.grownBy w5 y.hv.ownBlock) (ho : w5.ownsRow b0 103 2 hv' hs'.length (gC hs'))
    (hob : ∀ j, hv'.ownBlock = some j → y.hv.ownBlock = some j ∨ wr.heap.size ≤ j) :
    w5.there g (i * 3) 3 ∧ w5.heap[w.heap.size]? = some (.cells #[.slice (some ⟨g, 0, none⟩) n c] 51 (0, 0)) ∧ w5.ownsRow (w.heap.size + 1 + 1) 98 3 (.slice (some ⟨g, 0, none⟩) n c) n (lxC (X.set i y)) ∧ FiR w (w5.setCells g (i * 3) [.string y.name, hv', y.qv]) g n c X i x b0 ov_ l ⟨y.name, hs', y.qs, hv', y.qv⟩ := by
  have hb5 : ∀ k, k < b0 → k < wr.heap.size → w5.heap[k]? = wr.heap[k]? := fun k hk hl => hg.block k hl (fun e => by have := (h.hi.lt k e.symm).1; omega)
  have hg0 := h.g0
  have hb0 := h.b0l
  have hrow5 : w5.ownsRow (w.heap.size + 1 + 1) 98 3 (.slice (some ⟨g, 0, none⟩) n c) n (lxC (X.set i y)) := rowU_keep h.row (fun j e => hg.block j (h.row.lt j e).2 (fun e9 => row_apart h.hi h.row (by decide) j e9.symm e))
  have hout5 : w5.ownsRow (w.heap.size + 1 + 1) 29 1 ov_ l.length (ov l) := rowU_keep h.out (fun j e => hg.block j (h.out.lt j e).2 (fun e9 => row_apart h.hi h.out (by decide) j e9.symm e))
  have hq5 : GAt (ownF w hv') w5 y.qv y.qs := h.qi.keep (fun k hk hn => hg.block k hk (fun e => hn (.inr e.symm))) (fun k hk h9 => h9.elim .inl (fun e => (hob k e).elim .inr (fun h8 => by omega)))
  have hoth : ∀ {v : Value} {L : List (Int × Int)}, GAt (othF w b0) wr v L → GAt (othF w b0) w5 v L := fun {v L} hv => hv.keep (fun k hk hn => hb5 k (by simp only [not_or] at hn; omega) hk) (fun k _ h9 => h9)
  have hyl : i < (X.set i y).length := by rw [List.length_set]; exact h.il
  obtain ⟨q1, q2⟩ := lx_store3 hrow5 hyl ⟨y.name, hs', y.qs, hv', y.qv⟩
  have hsset : (X.set i y).set i ⟨y.name, hs', y.qs, hv', y.qv⟩ = X.set i ⟨y.name, hs', y.qs, hv', y.qv⟩ := by rw [List.set_set]
  rw [hsset] at q1
  have hk6 : ∀ k, k < w5.heap.size → k ≠ g → (w5.setCells g (i * 3) [.string y.name, hv', y.qv]).heap[k]? = w5.heap[k]? := fun k hk hne => q2.block k hk (fun e => hne (by injection e))
  have hgt : ∀ (k : Nat) (cur : Array Value) (fr : Nat × Nat), w5.heap[k]? = some (.cells cur 103 fr) → k ≠ g := fun k cur fr hc e => by
    subst e
    rcases hrow5.2 with ⟨e, -⟩ | ⟨g', cap, cur', e, -, hg', -⟩
    · cases e
    · injection e with e _ _
      injection e with e
      injection e with e _ _
      subst e
      rw [hg'] at hc
      injection hc with hc
      injection hc with _ hc _
      exact absurd hc (by decide)
  have hkT : ∀ {F : Foot} (k : Nat) (cur : Array Value) (fr : Nat × Nat), ¬ F k → w5.heap[k]? = some (.cells cur 103 fr) → (w5.setCells g (i * 3) [.string y.name, hv', y.qv]).heap[k]? = w5.heap[k]? := fun {F} k cur fr _ hc => hk6 k (lt_of_block hc) (hgt k cur fr hc)
  have hbl5 : Below w.heap.size w w5 := below_grown h.bl hg (fun j e => by have := (h.hi.lt j e).1; omega)
  have k50 := (hb5 _ (by omega) (lt_of_block h.k0)).trans h.k0
  have k51 := (hb5 _ (by omega) (lt_of_block h.k1)).trans h.k1
  refine ⟨lx_there hrow5 hyl, k50, hrow5, ⟨below_grown hbl5 q2 (fun j e => by injection e with e; omega), (hk6 _ (lt_of_block k50) (by omega)).trans k50, (hk6 _ (lt_of_block k51) (by omega)).trans k51, q1, rowU_keep ho (fun k e => hk6 k (ho.lt k e).2 (fun e2 => ?_)), hq5.keepT hkT (fun k _ h9 => h9), fun z hz => (hoth (h.hr z hz)).keepT hkT (fun k _ h9 => h9), fun z hz => (hoth (h.qr z hz)).keepT hkT (fun k _ h9 => h9), rowU_keep hout5 (fun k e => hk6 k (hout5.lt k e).2 (fun e2 => ?_)), h.ln, h.at_, hb0, Nat.le_trans h.b0s (Nat.le_trans hg.size q2.size)⟩⟩
  · subst e2; exact row_apart ho hrow5 (by decide) k e rfl
  · subst e2; exact row_apart hout5 hrow5 (by decide) k e rfl
/-- one more is told -/
theorem FiR.tell (h : FiR w wr g n c X i x b0 ov_ l y) (a : Int × Int) (hl : l.length ≤ 1048576) :
    ∃ R cp w', (Builtin.append_ #[36, 36] 36 #[ov_, .slice (some ⟨wr.heap.size, 0, none⟩) 1 1]).run Try.prog (wr.alloc (.cells #[.int .u64 a.1] 29)) = .ok (.slice (some ⟨R, 0, none⟩) (l.length + 1) cp) w' ∧ FiR w w' g n c X i x b0 (.slice (some ⟨R, 0, none⟩) (l.length + 1) cp) (l ++ [a]) y := by
  have hB2 := Nat.le_trans h.b0l h.b0s
  obtain ⟨R, cp, w', hr, ho, hg, hob⟩ := push_rw (ty := 36) info_u64L Try.underlying36 rfl (by decide) (by decide) h.out #[.int .u64 a.1] rfl (by intro u hu; simp at hu; rw [hu]; rfl) hB2 (by omega)
  have hov : ov l ++ (#[Value.int .u64 a.1]).toList = ov (l ++ [a]) := by simp [ov]
  rw [hov] at ho
  have hout := h.out
  have hkO : ∀ (k : Nat) (o : Obj), wr.heap[k]? = some o → (∀ cur fr, o ≠ .cells cur 29 fr) → w'.heap[k]? = wr.heap[k]? := fun k o hk hne => hg.block k (lt_of_block hk) (fun e => by
    rcases hout.2 with ⟨e2, -⟩ | ⟨g', cap, cur', e2, -, hg', -⟩
    · rw [e2] at e; cases e
    · rw [e2] at e
      have e9 : k = g' := by injection e
      subst e9
      rw [hg'] at hk
      injection hk with hk
      exact hne _ _ hk.symm)
  have hkT : ∀ {F : Foot} (k : Nat) (cur : Array Value) (fr : Nat × Nat), ¬ F k → wr.heap[k]? = some (.cells cur 103 fr) → w'.heap[k]? = wr.heap[k]? := fun {F} k cur fr _ hc => hkO k _ hc (fun cur' fr' e => by injection e with _ e _; exact absurd e (by decide))
  refine ⟨R, cp, w', hr, below_grown h.bl hg (fun j e => by have := (hout.lt j e).1; omega), (hkO _ _ h.k0 (fun cur' fr' e => by injection e with _ e _; exact absurd e (by decide))).trans h.k0, (hkO _ _ h.k1 (fun cur' fr' e => by injection e with _ e _; exact absurd e (by decide))).trans h.k1, rowU_keep h.row (fun k e => hg.block k (h.row.lt k e).2 (fun e2 => row_apart h.row hout (by decide) k e e2.symm)), rowU_keep h.hi (fun k e => hg.block k (h.hi.lt k e).2 (fun e2 => row_apart h.hi hout (by decide) k e e2.symm)), h.qi.keepT hkT (fun k _ h9 => h9), fun z hz => (h.hr z hz).keepT hkT (fun k _ h9 => h9), fun z hz => (h.qr z hz).keepT hkT (fun k _ h9 => h9), by rw [List.length_append]; exact ho, h.ln, h.at_, h.b0l, Nat.le_trans h.b0s hg.size⟩
/-- out of the inner loop -/
theorem FiR.out_ (h : FiR w wr g n c X i x b0 ov_ l y) : FoR w wr (some ⟨g, 0, none⟩) n c (X.set i y) ov_ l := by
  refine ⟨h.bl, h.k0, h.k1, h.row, fun z hz => ?_, fun z hz => ?_, h.out, by rw [List.length_set]; exact h.ln⟩
  · rcases List.mem_or_eq_of_mem_set hz with h9 | rfl
    · exact (h.hr z h9).mono (fun k _ h8 => .inl h8)
    · exact GAt.of_own h.hi (fun k hk h8 => by have := (h.hi.lt k hk).1; have := h.b0l; have h8' : k < w.heap.size := h8; omega)
  · rcases List.mem_or_eq_of_mem_set hz with h9 | rfl
    · exact (h.qr z h9).mono (fun k _ h8 => .inl h8)
    · exact h.qi.mono (fun k _ h8 => .inl h8)
/-- into it: both lists laid anew, the holders stored, then the queue -/
theorem FoR.into (h : FoR w wr (some ⟨g, 0, none⟩) n c X ov_ l) (hx : X[i]? = some x) {w4 w5 : World} {hv' qv' : Value} {hs' qs' : List (Int × Int)}
    (hb4 : Below wr.heap.size wr w4) (ho4 : w4.ownsRow wr.heap.size 103 2 hv' hs'.length (gC hs')) (hb5 : Below w4.heap.size w4 w5) (ho5 : w5.ownsRow w4.heap.size 103 2 qv' qs'.length (gC qs')) :
    (∃ u, w5.cell? ⟨g, i * 3 + 1, none⟩ = some u) ∧ w5.frozen? ⟨g, i * 3 + 1, none⟩ = false ∧ (∃ u, (w5.setCell ⟨g, i * 3 + 1, none⟩ hv').cell? ⟨g, i * 3 + 2, none⟩ = some u) ∧ (w5.setCell ⟨g, i * 3 + 1, none⟩ hv').frozen? ⟨g, i * 3 + 2, none⟩ = false ∧
      (w5.setCell ⟨g, i * 3 + 1, none⟩ hv').heap[w.heap.size]? = some (.cells #[.slice (some ⟨g, 0, none⟩) n c] 51 (0, 0)) ∧
      FiR w ((w5.setCell ⟨g, i * 3 + 1, none⟩ hv').setCell ⟨g, i * 3 + 2, none⟩ qv') g n c X i x wr.heap.size ov_ l ⟨x.name, hs', qs', hv', qv'⟩ := by
  have h5 := (h.below hb4).below hb5
  have hil : i < X.length := (List.getElem?_eq_some_iff.1 hx).1
  have hg0 : w.heap.size + 1 + 1 ≤ g := (h.row.lt g rfl).1
  have hgl : g < wr.heap.size := (h.row.lt g rfl).2
  have hbs := lt_of_block h.k1
  obtain ⟨q1, g1⟩ := h5.row.stored (i * 3 + 1) hv'
  rw [lxC_setH hs' hv' hx] at q1
  have hx1 : (X.set i ⟨x.name, hs', x.qs, hv', x.qv⟩)[i]? = some ⟨x.name, hs', x.qs, hv', x.qv⟩ := by rw [List.getElem?_set_self hil]
  have hil1 : i < (X.set i (⟨x.name, hs', x.qs, hv', x.qv⟩ : LX)).length := by rw [List.length_set]; exact hil
  obtain ⟨q2, g2⟩ := q1.stored (i * 3 + 2) qv'
  rw [lxC_setQ qs' qv' hx1, List.set_set] at q2
  have ho6 : ∀ k, k ≠ g → (w5.setCell ⟨g, i * 3 + 1, none⟩ hv').heap[k]? = w5.heap[k]? := fun k hk => setCell_heapL _ _ _ _ hk
  have ho7 : ∀ k, k ≠ g → ((w5.setCell ⟨g, i * 3 + 1, none⟩ hv').setCell ⟨g, i * 3 + 2, none⟩ qv').heap[k]? = w5.heap[k]? := fun k hk => (setCell_heapL _ _ _ _ hk).trans (ho6 k hk)
  refine ⟨⟨_, (lx_cells h5.row hx h.ln).2.1⟩, (lx_there h5.row hil 1 (by decide)).2, ⟨_, (lx_cells q1 hx1 (by rw [List.length_set]; exact h.ln)).2.2⟩, (lx_there q1 hil1 2 (by decide)).2, (ho6 _ (by omega)).trans h5.k0, ?_⟩
  have hgt : ∀ (k : Nat) (cur : Array Value) (fr : Nat × Nat), w5.heap[k]? = some (.cells cur 103 fr) → k ≠ g := fun k cur fr hc e => by
    subst e
    rcases h5.row.2 with ⟨e, -⟩ | ⟨g', cap, cur', e, -, hg', -⟩
    · cases e
    · injection e with e _ _
      injection e with e
      injection e with e _ _
      subst e
      rw [hg'] at hc
      injection hc with hc
      injection hc with _ hc _
      exact absurd hc (by decide)
  have hkT : ∀ {F : Foot} (k : Nat) (cur : Array Value) (fr : Nat × Nat), ¬ F k → w5.heap[k]? = some (.cells cur 103 fr) → ((w5.setCell ⟨g, i * 3 + 1, none⟩ hv').setCell ⟨g, i * 3 + 2, none⟩ qv').heap[k]? = w5.heap[k]? := fun {F} k cur fr _ hc => ho7 k (hgt k cur fr hc)
  have hoth : ∀ {v : Value} {L : List (Int × Int)}, GAt (oldF w) wr v L → GAt (othF w wr.heap.size) ((w5.setCell ⟨g, i * 3 + 1, none⟩ hv').setCell ⟨g, i * 3 + 2, none⟩ qv') v L := fun {v L} hv => by
    have h1 : GAt (othF w wr.heap.size) wr v L := hv.mono (fun k hk h9 => h9.elim id (fun h8 => by omega))
    exact ((h1.below hb4).below hb5).keepT hkT (fun k _ h9 => h9)
  have hbl : Below w.heap.size w ((w5.setCell ⟨g, i * 3 + 1, none⟩ hv').setCell ⟨g, i * 3 + 2, none⟩ qv') := below_grown (below_grown h5.bl g1 (fun j e => by injection e with e; omega)) g2 (fun j e => by injection e with e; omega)
  have ho4' := rowU_keep ho4 (fun k e => hb5.block k (ho4.lt k e).2)
  refine ⟨hbl, (ho7 _ (by omega)).trans h5.k0, (ho7 _ (by omega)).trans h5.k1, q2, rowU_keep ho4' (fun k e => ho7 k (by have := (ho4.lt k e).1; omega)), ?_, fun z hz => hoth (h.hr z hz), fun z hz => hoth (h.qr z hz), rowU_keep h5.out (fun k e => ho7 k (fun e2 => ?_)), h.ln, hx, by omega, Nat.le_trans hb4.size (Nat.le_trans hb5.size (Nat.le_trans g1.size g2.size))⟩
  · refine (GAt.of_own (F := ownF w hv') ho5 (fun k e h9 => ?_)).keepT hkT (fun k _ h9 => h9)
    have h8 := (ho5.lt k e).1
    rcases h9 with h9 | h9
    · have := hb4.size; omega
    · have := (ho4.lt k h9).2; omega
  · subst e2; exact row_apart h5.out h5.row (by decide) k e rfl
/-- nothing has turned: the lists are laid anew all the same -/
theorem FiR.pop (h : FiR w wr g n c X i x b0 ov_ l y) (qs' : List (Int × Int)) (qv' : Value) (hq : GAt (ownF w y.hv) wr qv' qs') :
    (∃ u, wr.cell? ⟨g, i * 3 + 2, none⟩ = some u) ∧ wr.frozen? ⟨g, i * 3 + 2, none⟩ = false ∧ FiR w (wr.setCell ⟨g, i * 3 + 2, none⟩ qv') g n c X i x b0 ov_ l ⟨y.name, y.hs, qs', y.hv, qv'⟩ := by
  have hyl : i < (X.set i y).length := by rw [List.length_set]; exact h.il
  obtain ⟨q1, g1⟩ := h.row.stored (i * 3 + 2) qv'
  rw [lxC_setQ qs' qv' h.yat, List.set_set] at q1
  refine ⟨⟨_, (lx_cells h.row h.yat h.yln).2.2⟩, (lx_there h.row hyl 2 (by decide)).2, h.lock (setCell_sizeL _ _ _) ⟨g1.os, g1.tape, g1.output⟩ (fun k hk => setCell_heapL _ _ _ _ hk) q1 h.hi hq⟩
end
end Mun
