/- The reference's Ask. -/
import Derived.Test.YtbdkhegfmnladaaRfK
set_option maxRecDepth 100000
set_option linter.unusedVariables false
set_option linter.unusedSimpArgs false
namespace Mun
open Go Go.RowKit
open Go.Proofs

def AkPost (F : Foot) (w : World) (X : List LX) (A : AS) (o : Int) (s : ByteArray) (m : Int) (e : Ending) (w' : World) : Prop :=
  ∃ v' X', e = .returned (.tuple #[.agg #[v'], .int .i64 (A.ask o s m).2]) ∧ RelX X' (A.ask o s m).1 ∧ TabF F w' v' X' ∧ Below w.heap.size w w' ∧ X'.length ≤ X.length + 1 ∧ tot X' ≤ tot X + 1

/-- within Ask: the copy, and the lock's own box -/
structure AkM (w wr : World) (g n c : Nat) (X1 : List LX) (k : Nat) (x : LX) (b : Nat) : Prop where
  bl : Below w.heap.size w wr
  k0 : wr.heap[w.heap.size]? = some (.cells #[.slice (some ⟨g, 0, none⟩) n c] 51 (0, 0))
  k1 : wr.heap[w.heap.size + 1]? = some (.cells #[.slice none 0 0] 51 (0, 0))
  kb : wr.heap[b]? = some (.cells #[.string x.name, x.hv, x.qv] 98 (0, 0))
  tb : TabO (w.heap.size + 1 + 1) wr (.slice (some ⟨g, 0, none⟩) n c) X1
  ln : X1.length = n
  at_ : X1[k]? = some x
  gb : g ≠ b
  bb : w.heap.size + 1 < b
section
variable {w wr w' : World} {g n c k b : Nat} {X1 : List LX} {x : LX}
theorem AkM.below (h : AkM w wr g n c X1 k x b) (hb : Below wr.heap.size wr w') : AkM w w' g n c X1 k x b :=
  ⟨h.bl.trans (hb.mono h.bl.size), (hb.block _ (lt_of_block h.k0)).trans h.k0, (hb.block _ (lt_of_block h.k1)).trans h.k1, (hb.block _ (lt_of_block h.kb)).trans h.kb, h.tb.below hb, h.ln, h.at_, h.gb, h.bb⟩
theorem AkM.xm (h : AkM w wr g n c X1 k x b) : x ∈ X1 := List.mem_of_getElem? h.at_
theorem AkM.kl (h : AkM w wr g n c X1 k x b) : k < n := by have := (List.getElem?_eq_some_iff.1 h.at_).1; rw [h.ln] at this; exact this
theorem AkM.g0 (h : AkM w wr g n c X1 k x b) : w.heap.size + 1 + 1 ≤ g := (h.tb.row.lt g rfl).1
theorem AkM.row (h : AkM w wr g n c X1 k x b) : wr.ownsRow (w.heap.size + 1 + 1) 98 3 (.slice (some ⟨g, 0, none⟩) n c) n (lxC X1) := by
  have h9 := h.tb.row
  rw [h.ln] at h9; exact h9
/-- behind it: the holders -/
theorem AkM.holders (h : AkM w wr g n c X1 k x b) (hs' : List (Int × Int)) (hv' : Value) {w5 : World} (hg : wr.grownBy w5 x.hv.ownBlock) (ho : w5.ownsRow (w.heap.size + 1 + 1) 103 2 hv' hs'.length (gC hs'))
    (hob : ∀ j, hv'.ownBlock = some j → x.hv.ownBlock = some j ∨ wr.heap.size ≤ j) :
    w5.there g (k * 3) 3 ∧ w5.heap[w.heap.size]? = some (.cells #[.slice (some ⟨g, 0, none⟩) n c] 51 (0, 0)) ∧ w5.heap[b]? = some (.cells #[.string x.name, x.hv, x.qv] 98 (0, 0)) ∧ Below w.heap.size w w5 ∧
      ∀ w6, w6 = w5.setCells g (k * 3) [.string x.name, hv', x.qv] → w6.heap[w.heap.size]? = some (.cells #[.slice (some ⟨g, 0, none⟩) n c] 51 (0, 0)) ∧ w6.heap[w.heap.size + 1]? = some (.cells #[.slice none 0 0] 51 (0, 0)) ∧
        Below w.heap.size w w6 ∧ TabO (w.heap.size + 1 + 1) w6 (.slice (some ⟨g, 0, none⟩) n c) (X1.set k ⟨x.name, hs', x.qs, hv', x.qv⟩) := by
  have hto := h.tb
  rw [← split_at h.at_] at hto
  have hxm := h.xm
  have hkl : k < X1.length := by rw [h.ln]; exact h.kl
  have hty : ∀ j cs, wr.heap[j]? = some (.cells cs 51 (0, 0)) → x.hv.ownBlock ≠ some j := fun j cs hj e => by
    obtain ⟨a, cc, e1⟩ := ownsRow_form (h.tb.hr x hxm)
    have hlt := ((h.tb.hr x hxm).lt j e)
    rcases (h.tb.hr x hxm).2 with ⟨e2, -⟩ | ⟨g', cap, cur, e2, -, hg', -⟩
    · rw [e2] at e; cases e
    · rw [e2] at e
      simp only [Value.ownBlock, Option.some.injEq] at e
      subst e
      rw [hg'] at hj
      injection hj with hj
      injection hj with _ hj _
      exact absurd hj (by decide)
  have htyL : ∀ j cs, wr.heap[j]? = some (.cells cs 98 (0, 0)) → x.hv.ownBlock ≠ some j := fun j cs hj e => by
    rcases (h.tb.hr x hxm).2 with ⟨e2, -⟩ | ⟨g', cap, cur, e2, -, hg', -⟩
    · rw [e2] at e; cases e
    · rw [e2] at e
      simp only [Value.ownBlock, Option.some.injEq] at e
      subst e
      rw [hg'] at hj
      injection hj with hj
      injection hj with _ hj _
      exact absurd hj (by decide)
  have hrow5 : w5.ownsRow (w.heap.size + 1 + 1) 98 3 (.slice (some ⟨g, 0, none⟩) n c) n (lxC X1) := rowU_keep h.row (fun j e => hg.block j (h.row.lt j e).2 (fun e9 => row_apart (h.tb.hr x hxm) h.row (by decide) j e9.symm e))
  have k50 := (hg.block _ (lt_of_block h.k0) (fun e => hty _ _ h.k0 e.symm)).trans h.k0
  have k51 := (hg.block _ (lt_of_block h.k1) (fun e => hty _ _ h.k1 e.symm)).trans h.k1
  have k5b := (hg.block _ (lt_of_block h.kb) (fun e => htyL _ _ h.kb e.symm)).trans h.kb
  have hb5 : Below w.heap.size w w5 := below_grown h.bl hg (fun i e => by have := ((h.tb.hr x hxm).lt i e).1; omega)
  have hg0 := h.g0
  refine ⟨lx_there hrow5 hkl, k50, k5b, hb5, ?_⟩
  rintro w6 rfl
  obtain ⟨q1, q2⟩ := lx_store3 hrow5 hkl ⟨x.name, hs', x.qs, hv', x.qv⟩
  have hoth : ∀ j, j ≠ g → j < w5.heap.size → (w5.setCells g (k * 3) [.string x.name, hv', x.qv]).heap[j]? = w5.heap[j]? := fun j hj hl => q2.block j hl (fun e => hj (by injection e))
  refine ⟨(hoth _ (by omega) (lt_of_block k50)).trans k50, (hoth _ (by omega) (lt_of_block k51)).trans k51, below_grown hb5 q2 (fun i e => by have e9 : some g = some i := e; injection e9 with e9; omega), ?_⟩
  have h9 := hto.setH (w1 := w5) (w2 := w5.setCells g (k * 3) [.string x.name, hv', x.qv]) hs' hv' hg ho hob (fun _ => by
    rw [split_at h.at_, ← set_at h.at_ ⟨x.name, hs', x.qs, hv', x.qv⟩, h.ln]; exact q1) (fun j hl hj => hoth j (fun e => hj (by rw [e]; rfl)) hl)
  rw [← set_at h.at_] at h9
  exact h9
/-- behind it: the queue -/
theorem AkM.queue (h : AkM w wr g n c X1 k x b) (qs' : List (Int × Int)) (qv' : Value) {w5 : World} (hg : wr.grownBy w5 x.qv.ownBlock) (ho : w5.ownsRow (w.heap.size + 1 + 1) 103 2 qv' qs'.length (gC qs'))
    (hob : ∀ j, qv'.ownBlock = some j → x.qv.ownBlock = some j ∨ wr.heap.size ≤ j) :
    (∃ u, w5.cell? ⟨g, k * 3 + 2, none⟩ = some u) ∧ w5.frozen? ⟨g, k * 3 + 2, none⟩ = false ∧ w5.heap[w.heap.size]? = some (.cells #[.slice (some ⟨g, 0, none⟩) n c] 51 (0, 0)) ∧ w5.heap[b]? = some (.cells #[.string x.name, x.hv, x.qv] 98 (0, 0)) ∧ Below w.heap.size w w5 ∧
      ∀ w6, w6 = w5.setCell ⟨g, k * 3 + 2, none⟩ qv' → w6.heap[w.heap.size]? = some (.cells #[.slice (some ⟨g, 0, none⟩) n c] 51 (0, 0)) ∧ w6.heap[w.heap.size + 1]? = some (.cells #[.slice none 0 0] 51 (0, 0)) ∧
        Below w.heap.size w w6 ∧ TabO (w.heap.size + 1 + 1) w6 (.slice (some ⟨g, 0, none⟩) n c) (X1.set k ⟨x.name, x.hs, qs', x.hv, qv'⟩) := by
  have hto := h.tb
  rw [← split_at h.at_] at hto
  have hxm := h.xm
  have hkl : k < X1.length := by rw [h.ln]; exact h.kl
  have hty : ∀ (j : Nat) (cs : Array Value) (ty : TypeId), wr.heap[j]? = some (.cells cs ty (0, 0)) → ty ≠ 103 → x.qv.ownBlock ≠ some j := fun j cs ty hj hne e => by
    rcases (h.tb.qr x hxm).2 with ⟨e2, -⟩ | ⟨g', cap, cur, e2, -, hg', -⟩
    · rw [e2] at e; cases e
    · rw [e2] at e
      simp only [Value.ownBlock, Option.some.injEq] at e
      subst e
      rw [hg'] at hj
      injection hj with hj
      injection hj with _ hj _
      exact hne hj.symm
  have hrow5 : w5.ownsRow (w.heap.size + 1 + 1) 98 3 (.slice (some ⟨g, 0, none⟩) n c) n (lxC X1) := rowU_keep h.row (fun j e => hg.block j (h.row.lt j e).2 (fun e9 => row_apart (h.tb.qr x hxm) h.row (by decide) j e9.symm e))
  have k50 := (hg.block _ (lt_of_block h.k0) (fun e => hty _ _ _ h.k0 (by decide) e.symm)).trans h.k0
  have k51 := (hg.block _ (lt_of_block h.k1) (fun e => hty _ _ _ h.k1 (by decide) e.symm)).trans h.k1
  have k5b := (hg.block _ (lt_of_block h.kb) (fun e => hty _ _ _ h.kb (by decide) e.symm)).trans h.kb
  have hb5 : Below w.heap.size w w5 := below_grown h.bl hg (fun i e => by have := ((h.tb.qr x hxm).lt i e).1; omega)
  have hg0 := h.g0
  refine ⟨⟨_, (lx_cells hrow5 h.at_ h.ln).2.2⟩, (lx_there hrow5 hkl 2 (by decide)).2, k50, k5b, hb5, ?_⟩
  rintro w6 rfl
  obtain ⟨q1, q2⟩ := hrow5.stored (k * 3 + 2) qv'
  rw [lxC_setQ qs' qv' h.at_] at q1
  have hoth : ∀ j, j ≠ g → (w5.setCell ⟨g, k * 3 + 2, none⟩ qv').heap[j]? = w5.heap[j]? := fun j hj => setCell_heapL _ _ _ _ hj
  refine ⟨(hoth _ (by omega)).trans k50, (hoth _ (by omega)).trans k51, below_grown hb5 q2 (fun i e => by have e9 : some g = some i := e; injection e9 with e9; omega), ?_⟩
  have h9 := hto.setQ (w1 := w5) (w2 := w5.setCell ⟨g, k * 3 + 2, none⟩ qv') qs' qv' hg ho hob (fun _ => by
    rw [split_at h.at_, ← set_at h.at_ ⟨x.name, x.hs, qs', x.hv, qv'⟩, h.ln]; exact q1) (fun j hl hj => hoth j (fun e => hj (by rw [e]; rfl)))
  rw [← set_at h.at_] at h9
  exact h9
end

theorem set_len (X : List LX) (k : Nat) (x : LX) : (X.set k x).length = X.length := List.length_set
theorem isM_pos {m : Int} (h : isM m = true) : 0 < m := by have := (isM_iff m).1 h; omega

theorem step_store_mid14 {P : Program} {ops : Array Oper} {o : Oper} {a : Act} {w : World} {K : Act → World → Prop} {Q : Exit → Act → World → Prop} {E : Prop} (hgd : o.guard = none) (ty : TypeId) (x y : Operand) (ho : o.op = .store ty x y)
    (g off : Nat) (cs : List Value) (hx : a.eval x = .pointer (some ⟨g, off, none⟩)) (hy : a.eval y = .agg cs.toArray) (ht : w.there g off cs.length) (hi : (P.info? ty).map (·.size) = some cs.length) (h1 : cs.toArray.all (·.oneCell') = true)
    (h : K (a.put o.dst undef) (w.setCells g off cs)) : if Region.wanted o (yielded ops a.tmps) = true then Oper.wp P o a w K Q else E := by
  have hw : Region.wanted o (yielded ops a.tmps) = true := by simp [Region.wanted, hgd]
  rw [if_pos hw]
  exact wp_store_mid ty x y ho g off cs.toArray hx hy (by simpa using ht) (by simpa using hi) h1 (by simpa using h)
theorem hold_rel {X : List LX} {A : AS} (hr : RelX X A) {k : Nat} {x : LX} (hx : X[k]? = some x) {s : ByteArray} (hs : x.name = s) (o md : Int) (hv' : Value) : RelX (X.set k ⟨x.name, kset x.hs o md, x.qs, hv', x.qv⟩) (A.setH s (upd (A.H s) o (some md))) := by
  subst hs
  have hxm := List.mem_of_getElem? hx
  have h9 := hr.set hx (x' := ⟨x.name, kset x.hs o md, x.qs, hv', x.qv⟩) rfl (kset_nodup (hr.hk x hxm) o md)
  simp only [klook_kset_upd, (hr.at_ x hxm).1] at h9
  rw [(hr.at_ x hxm).2, updS_same] at h9
  rw [(hr.at_ x hxm).2]
  exact h9
theorem wait_rel {X : List LX} {A : AS} (hr : RelX X A) {k : Nat} {x : LX} (hx : X[k]? = some x) {s : ByteArray} (hs : x.name = s) (qs' : List (Int × Int)) (qv' : Value) : RelX (X.set k ⟨x.name, x.hs, qs', x.hv, qv'⟩) (A.setQ s qs') := by
  subst hs
  have hxm := List.mem_of_getElem? hx
  have h9 := hr.set hx (x' := ⟨x.name, x.hs, qs', x.hv, qv'⟩) rfl (hr.hk x hxm)
  simp only [(hr.at_ x hxm).1, updS_same] at h9
  exact h9
/-- the return of a copy -/
theorem ak_ret {F : Foot} {w wr : World} {X X' : List LX} {A : AS} {o : Int} {s : ByteArray} {m : Int} {g n c : Nat} (hF : ∀ k, F k → k < w.heap.size) (k0 : wr.heap[w.heap.size]? = some (.cells #[.slice (some ⟨g, 0, none⟩) n c] 51 (0, 0))) (k1 : wr.heap[w.heap.size + 1]? = some (.cells #[.slice none 0 0] 51 (0, 0)))
    (hb : Below w.heap.size w wr) (ht : TabO (w.heap.size + 1 + 1) wr (.slice (some ⟨g, 0, none⟩) n c) X') (hr : RelX X' (A.ask o s m).1) (e : Int) (he : (A.ask o s m).2 = e) (hl : X'.length ≤ X.length + 1) (htt : tot X' ≤ tot X + 1) :
    ∃ w6, wr.setRow (w.heap.size + 1) #[.slice (some ⟨g, 0, none⟩) n c] = w6 ∧ w6.heap[w.heap.size + 1]? = some (.cells #[.slice (some ⟨g, 0, none⟩) n c] 51 (0, 0)) ∧ AkPost F w X A o s m (.returned (.tuple #[.agg #[.slice (some ⟨g, 0, none⟩) n c], .int .i64 e])) w6 := by
  have hoth : ∀ k, k ≠ w.heap.size + 1 → (wr.setRow (w.heap.size + 1) #[.slice (some ⟨g, 0, none⟩) n c]).heap[k]? = wr.heap[k]? := fun k hk => setRow_otherL _ _ _ _ hk
  refine ⟨_, rfl, setRow_heap wr _ _ _ _ _ k1, _, X', by rw [he], hr, ?_, ⟨hb.os, hb.tape, hb.output, by rw [setRow_size]; exact hb.size, fun k hk => by rw [hoth k (by omega)]; exact hb.block k hk⟩, hl, htt⟩
  exact (ht.keep (fun k hk hB => hoth k (by omega))).tabF (fun k hB hf => by have := hF k hf; omega)
theorem set_tot {X : List LX} {k : Nat} {x x' : LX} (hx : X[k]? = some x) (h : x'.hs.length + x'.qs.length ≤ x.hs.length + x.qs.length + 1) : tot (X.set k x') ≤ tot X + 1 := by
  have := tot_set x' hx
  omega

set_option maxHeartbeats 8000000 in
theorem r14_ask {F : Foot} (w : World) (v : Value) (X : List LX) (A : AS) (h : TabF F w v X) (hF : ∀ k, F k → k < w.heap.size) (hr : RelX X A) (hok : A.Ok) (hsz : XSz X 1048574) (o : Int) (s : ByteArray) (m : Int) :
    Calls Try.prog 24 #[.agg #[v], .int .u64 o, .string s, .int .i64 m] w (AkPost F w X A o s m) := by
  obtain ⟨ha, hc, rfl, -, -⟩ := h.row.form
  obtain ⟨n, hn⟩ : ∃ n, X.length = n := ⟨_, rfl⟩
  rw [hn] at h ⊢
  obtain ⟨wb, hwb⟩ : ∃ wb, (w.alloc (.cells #[.slice ha n hc] 51)).alloc (.cells #[.slice none 0 0] 51) = wb := ⟨_, rfl⟩
  have hbb : Below w.heap.size w wb := by rw [← hwb]; exact below_more (below_more (Below.refl _ _) _) _
  have s1 : (w.alloc (.cells #[.slice ha n hc] 51)).heap.size = w.heap.size + 1 := World.size_alloc _ _
  have kb0 : wb.heap[w.heap.size]? = some (.cells #[.slice ha n hc] 51 (0, 0)) := by
    rw [← hwb, heap_alloc_old _ _ (by rw [s1]; omega)]; exact heap_alloc_new w _
  have kb1 : wb.heap[w.heap.size + 1]? = some (.cells #[.slice none 0 0] 51 (0, 0)) := by
    rw [← hwb, ← s1]; exact heap_alloc_new _ _
  have sb : wb.heap.size = w.heap.size + 1 + 1 := by rw [← hwb, World.size_alloc, s1]
  have HW := Lib.hid (And.intro hbb (And.intro kb0 (And.intro kb1 sb)))
  have HX := Lib.hid (And.intro h (And.intro hn (And.intro hr (And.intro hok (And.intro hsz hF)))))
  clear hbb s1 kb0 kb1 sb
  -- a return of the table as it was
  have hsame : ∀ wr, Below wb.heap.size wb wr → ∀ e : Int, A.ask o s m = (A, e) → ∃ w6, wr.setRow (w.heap.size + 1) #[.slice ha n hc] = w6 ∧ w6.heap[w.heap.size + 1]? = some (.cells #[.slice ha n hc] 51 (0, 0)) ∧ wr.heap[w.heap.size]? = some (.cells #[.slice ha n hc] 51 (0, 0)) ∧ wr.heap[w.heap.size + 1]? = some (.cells #[.slice none 0 0] 51 (0, 0)) ∧ AkPost F w X A o s m (.returned (.tuple #[.agg #[.slice ha n hc], .int .i64 e])) w6 := fun wr hb e he => by
    have k0 := (hb.block _ (lt_of_block HW.out.2.1)).trans HW.out.2.1
    have k1 := (hb.block _ (lt_of_block HW.out.2.2.1)).trans HW.out.2.2.1
    have hbw := HW.out.1.trans (hb.mono HW.out.1.size)
    have hb6 : Below w.heap.size w (wr.setRow (w.heap.size + 1) #[.slice ha n hc]) := ⟨hbw.os, hbw.tape, hbw.output, by rw [setRow_size]; exact hbw.size, fun k hk => by rw [setRow_otherL _ _ _ _ (by omega)]; exact hbw.block k hk⟩
    refine ⟨_, rfl, setRow_heap wr _ _ _ _ _ k1, k0, k1, _, X, by rw [he], by rw [he]; exact hr, ?_, hb6, Nat.le_succ _, Nat.le_succ _⟩
    exact HX.out.1.below hb6
  have HSAME := Lib.hid hsame
  clear hsame h hn hsz hF
  by_cases h1 : o = 0 ∨ isM m = false
  · have hask : A.ask o s m = (A, 1) := by unfold AS.ask; rw [if_pos h1]
    obtain ⟨w6, hw6, k6, k0, k1, hpost⟩ := HSAME.out wb (Below.refl _ _) 1 hask
    have K := Lib.hid (And.intro k6 (And.intro k0 (And.intro k1 hpost)))
    clear k6 k0 k1 hpost hask HSAME
    have hcs : o = 0 ∨ (o ≠ 0 ∧ m < 1) ∨ (o ≠ 0 ∧ ¬ m < 1 ∧ m > 4) := by
      by_cases ho : o = 0
      · exact .inl ho
      · have hm := h1.resolve_left ho
        have hm2 : ¬ (m = 1 ∨ m = 2 ∨ m = 3 ∨ m = 4) := fun e => by rw [(isM_iff m).2 e] at hm; cases hm
        by_cases h9 : m < 1
        · exact .inr (.inl ⟨ho, h9⟩)
        · exact .inr (.inr ⟨ho, h9, by omega⟩)
    clear h1
    go_enter Try.func24, Try.ntmps24
    rcases hcs with ho | ⟨ho, hm⟩ | ⟨ho, hm, hm4⟩
    · have hbo : (o == 0) = true := by simp [ho]
      clear ho
      go_wp2_with (first | (refine wpList_load_row rfl _ _ rfl w.heap.size rfl _ _ (0, 0) _ K.out.2.1 Try.underlying51 rfl infoT ?_) | (refine wpList_store_row rfl _ _ _ rfl (w.heap.size + 1) _ rfl rfl _ _ K.out.2.2.1 infoT rfl (by simp [Value.oneCell']) ?_; rw [hw6]))
      exact bodyPost_ret (v := .tuple #[.agg #[.slice ha n hc], .int .i64 1]) (by simp [results, Try.results24, asAddr, run_loadVar_row w6 (w.heap.size + 1) 51 51 _ (0, 0) _ K.out.1 Try.underlying51 rfl infoT]) rfl K.out.2.2.2
    · have hbo : (o == 0) = false := by simp [ho]
      clear ho
      go_wp2_with (first | (refine wpList_load_row rfl _ _ rfl w.heap.size rfl _ _ (0, 0) _ K.out.2.1 Try.underlying51 rfl infoT ?_) | (refine wpList_store_row rfl _ _ _ rfl (w.heap.size + 1) _ rfl rfl _ _ K.out.2.2.1 infoT rfl (by simp [Value.oneCell']) ?_; rw [hw6]))
      exact bodyPost_ret (v := .tuple #[.agg #[.slice ha n hc], .int .i64 1]) (by simp [results, Try.results24, asAddr, run_loadVar_row w6 (w.heap.size + 1) 51 51 _ (0, 0) _ K.out.1 Try.underlying51 rfl infoT]) rfl K.out.2.2.2
    · have hbo : (o == 0) = false := by simp [ho]
      clear ho
      go_wp2_with (first | (refine wpList_load_row rfl _ _ rfl w.heap.size rfl _ _ (0, 0) _ K.out.2.1 Try.underlying51 rfl infoT ?_) | (refine wpList_store_row rfl _ _ _ rfl (w.heap.size + 1) _ rfl rfl _ _ K.out.2.2.1 infoT rfl (by simp [Value.oneCell']) ?_; rw [hw6]))
      exact bodyPost_ret (v := .tuple #[.agg #[.slice ha n hc], .int .i64 1]) (by simp [results, Try.results24, asAddr, run_loadVar_row w6 (w.heap.size + 1) 51 51 _ (0, 0) _ K.out.1 Try.underlying51 rfl infoT]) rfl K.out.2.2.2
  have ho : o ≠ 0 := fun e => h1 (.inl e)
  have him : isM m = true := by cases hm : isM m with | true => rfl | false => exact absurd (.inr hm) h1
  have hbo : (o == 0) = false := by simp [ho]
  have hm4 := (isM_iff m).1 him
  have hm1 : ¬ m < 1 := by omega
  have hm5 : ¬ m > 4 := by omega
  have hwt := r14_waits wb _ X (HX.out.1.below HW.out.1) (by have := HX.out.2.2.2.2.1.ln; omega) (fun x hx => by have := tot_mem hx; have := HX.out.2.2.2.2.1.tt; omega) o
  have HWT := Lib.hid hwt
  have HO := Lib.hid (And.intro h1 (And.intro ho him))
  clear hwt hm4 ho him h1
  go_enter Try.func24, Try.ntmps24
  go_wp2_with (first | (refine wpList_load_row rfl _ _ rfl w.heap.size rfl _ _ (0, 0) _ HW.out.2.1 Try.underlying51 rfl infoT ?_) | fail)
  refine HWT.out.mono ?_
  rintro e w4 ⟨rfl, hb4⟩
  rcases HX.out.2.2.1.waits o with ⟨hwp, hno⟩ | ⟨s', m', hwp, hq⟩
  case inr =>
    rw [hwp]
    unfold waitV
    have hask : A.ask o s m = (A, 18) := by unfold AS.ask; rw [if_neg HO.out.1, if_pos ⟨s', m', hq⟩]
    obtain ⟨w6, hw6, k6, k0, k1, hpost⟩ := HSAME.out w4 hb4 18 hask
    have K := Lib.hid (And.intro k6 (And.intro k0 (And.intro k1 hpost)))
    clear k6 k0 k1 hpost hask HSAME hb4 hq hwp HWT hwb
    go_wp2_with (first | (refine wpList_load_row rfl _ _ rfl w.heap.size rfl _ _ (0, 0) _ K.out.2.1 Try.underlying51 rfl infoT ?_) | (refine wpList_store_row rfl _ _ _ rfl (w.heap.size + 1) _ rfl rfl _ _ K.out.2.2.1 infoT rfl (by simp [Value.oneCell']) ?_; rw [hw6]))
    exact bodyPost_ret (v := .tuple #[.agg #[.slice ha n hc], .int .i64 18]) (by simp [results, Try.results24, asAddr, run_loadVar_row w6 (w.heap.size + 1) 51 51 _ (0, 0) _ K.out.1 Try.underlying51 rfl infoT]) rfl K.out.2.2.2
  rw [hwp]
  unfold waitV
  have k40 := (hb4.block _ (lt_of_block HW.out.2.1)).trans HW.out.2.1
  have k41 := (hb4.block _ (lt_of_block HW.out.2.2.1)).trans HW.out.2.2.1
  have hbw4 := HW.out.1.trans (hb4.mono HW.out.1.size)
  have hsz4 : w.heap.size + 1 + 1 ≤ w4.heap.size := by have := hb4.size; have := HW.out.2.2.2; omega
  have hwi := r14_with w4 _ X A (HX.out.1.below hbw4) HX.out.2.2.1 (HX.out.2.2.2.2.1.mono (by omega)) s
  have HWI := Lib.hid hwi
  have H4 := Lib.hid (And.intro k40 (And.intro k41 (And.intro hbw4 (And.intro hsz4 hno))))
  clear hwi k40 k41 hbw4 hsz4 hno hwp hb4 HWT HSAME hwb
  go_wp2_with (first | (refine wpList_load_row rfl _ _ rfl w.heap.size rfl _ _ (0, 0) _ H4.out.1 Try.underlying51 rfl infoT ?_) | fail)
  refine HWI.out.mono ?_
  rintro e w5 ⟨v1, X1, k, rfl, hr1, hto, hb5, ⟨x, hxk, hxn⟩, hl1, ht1⟩
  have hkl := (List.getElem?_eq_some_iff.1 hxk).1
  obtain ⟨g, c1, rfl, hBg, hgl, cur, hgc⟩ := ownsRow_some hto.row (by omega)
  obtain ⟨n1, hn1⟩ : ∃ n1, X1.length = n1 := ⟨_, rfl⟩
  rw [hn1] at hto ⊢
  have hxm := List.mem_of_getElem? hxk
  obtain ⟨pa, pc, hpv⟩ := ownsRow_form (hto.hr x hxm)
  obtain ⟨qa, qc, hqv⟩ := ownsRow_form (hto.qr x hxm)
  obtain ⟨pn, hpn⟩ : ∃ pn, x.hs.length = pn := ⟨_, rfl⟩
  obtain ⟨qn, hqn⟩ : ∃ qn, x.qs.length = qn := ⟨_, rfl⟩
  have hxt := tot_mem hxm
  have hlim : pn ≤ 1048575 ∧ qn ≤ 1048575 := by have := HX.out.2.2.2.2.1.tt; omega
  rw [hpn] at hpv
  rw [hqn] at hqv
  obtain ⟨w6, hw6⟩ : ∃ w6, w5.setRow w.heap.size #[.slice (some ⟨g, 0, none⟩) n1 c1] = w6 := ⟨_, rfl⟩
  have k50 := (hb5.block _ (lt_of_block H4.out.1)).trans H4.out.1
  have k51 := (hb5.block _ (lt_of_block H4.out.2.1)).trans H4.out.2.1
  have ho6 : ∀ j, j ≠ w.heap.size → w6.heap[j]? = w5.heap[j]? := fun j hj => by rw [← hw6]; exact setRow_otherL _ _ _ _ hj
  have k60 : w6.heap[w.heap.size]? = some (.cells #[.slice (some ⟨g, 0, none⟩) n1 c1] 51 (0, 0)) := by rw [← hw6]; exact setRow_heap w5 _ _ _ _ _ k50
  have k61 : w6.heap[w.heap.size + 1]? = _ := (ho6 _ (by omega)).trans k51
  have hs4 := H4.out.2.2.2.1
  have hto6 : TabO (w.heap.size + 1 + 1) w6 (.slice (some ⟨g, 0, none⟩) n1 c1) X1 := (hto.base hs4).keep (fun j _ hB => ho6 j (by omega))
  have hbw5 := H4.out.2.2.1.trans (hb5.mono H4.out.2.2.1.size)
  have hbw6 : Below w.heap.size w w6 := ⟨by rw [← hw6]; exact hbw5.os, by rw [← hw6]; exact hbw5.tape, by rw [← hw6]; exact hbw5.output, by rw [← hw6, setRow_size]; exact hbw5.size, fun j hj => by rw [ho6 j (by omega)]; exact hbw5.block j hj⟩
  obtain ⟨b, hb⟩ : ∃ b, w6.heap.size = b := ⟨_, rfl⟩
  obtain ⟨w7, hw7⟩ : ∃ w7, w6.alloc (.cells #[.string ⟨#[]⟩, .slice none 0 0, .slice none 0 0] 98) = w7 := ⟨_, rfl⟩
  have hbA : Below w6.heap.size w6 w7 := by rw [← hw7]; exact (Below.refl _ _).alloc (Nat.le_refl _) _
  have k7b : w7.heap[b]? = some (.cells #[.string ⟨#[]⟩, .slice none 0 0, .slice none 0 0] 98 (0, 0)) := by rw [← hw7, ← hb]; exact heap_alloc_new w6 _
  obtain ⟨w8, hw8⟩ : ∃ w8, w7.setRow b #[.string x.name, .slice pa pn pc, .slice qa qn qc] = w8 := ⟨_, rfl⟩
  have ho8 : ∀ j, j ≠ b → w8.heap[j]? = w7.heap[j]? := fun j hj => by rw [← hw8]; exact setRow_otherL _ _ _ _ hj
  have k8b : w8.heap[b]? = some (.cells #[.string x.name, .slice pa pn pc, .slice qa qn qc] 98 (0, 0)) := by rw [← hw8]; exact setRow_heap w7 _ _ _ _ _ k7b
  have hb8 : Below w6.heap.size w6 w8 := ⟨by rw [← hw8]; exact hbA.os, by rw [← hw8]; exact hbA.tape, by rw [← hw8]; exact hbA.output, by rw [← hw8, setRow_size]; exact hbA.size, fun j hj => by rw [ho8 j (by omega)]; exact hbA.block j hj⟩
  have hgl6 : g < w6.heap.size := by rw [← hw6, setRow_size]; exact hgl
  have hsz6 : w.heap.size + 1 < b := by rw [← hb]; exact lt_of_block k61
  have hM : AkM w w8 g n1 c1 X1 k x b :=
    ⟨hbw6.trans (hb8.mono hbw6.size), (hb8.block _ (lt_of_block k60)).trans k60, (hb8.block _ (lt_of_block k61)).trans k61, by rw [hpv, hqv]; exact k8b, hto6.below hb8, hn1, hxk, by omega, hsz6⟩
  have hrow6 : w6.ownsRow (w.heap.size + 1 + 1) 98 3 (.slice (some ⟨g, 0, none⟩) n1 c1) n1 (lxC X1) := by have h9 := hto6.row; rw [hn1] at h9; exact h9
  obtain ⟨j0, j1, j2⟩ := lx_cells hrow6 hxk hn1
  rw [hpv] at j1
  rw [hqv] at j2
  have hrg : w6.rangeAt g (k * 3) [.string x.name, .slice pa pn pc, .slice qa qn qc] := fun j u hj => by
    match j, hj with
    | 0, hj => injection hj with hj; rw [← hj]; exact j0
    | 1, hj => injection hj with hj; rw [← hj]; exact j1
    | 2, hj => injection hj with hj; rw [← hj]; exact j2
  have hgh : GAt NoF w8 (.slice pa pn pc) x.hs := by
    have h9 := GAt.of_own (F := NoF) (hM.tb.hr x hxm) (fun _ _ => noF _)
    rw [hpv] at h9; exact h9
  have hmo := r14_mode w8 x.name (.slice pa pn pc) (.slice qa qn qc) x.hs hgh (by omega) o
  rw [(hr1.at_ x hxm).1, hxn] at hmo
  have K5 := Lib.hid k50
  have K7 := Lib.hid k7b
  have K8 := Lib.hid k8b
  have HRG := Lib.hid hrg
  have HMO := Lib.hid hmo
  have H8 := Lib.hid hM
  have HP := Lib.hid (And.intro hr1 (And.intro hxn (And.intro hpn (And.intro hqn (And.intro hpv (And.intro hqv (And.intro hlim (And.intro hl1 ht1))))))))
  have z60 : w6.cell? ⟨w.heap.size, 0, none⟩ = some (.slice (some ⟨g, 0, none⟩) n1 c1) := cell_of_row w6 w.heap.size 0 _ _ _ k60
  have hkk : (k : Int) < (n1 : Int) := by omega
  have hk0 : (0 : Int) ≤ (k : Int) := by omega
  rw [HP.out.2.1] at K8 HRG hw8
  clear hr1 hto hb5 hxk hxn hl1 ht1 hkl hBg hgl hgc hn1 hxm hpv hqv hpn hqn hxt hlim k50 k51 ho6 k60 k61 hs4 hto6 hbw5 hbw6 hbA k7b ho8 k8b hb8 hgl6 hsz6 hM hrow6 j0 j1 j2 hrg hgh hmo HWI
  go_wp2_with (first | (refine wpList_store_row rfl _ _ _ rfl w.heap.size _ rfl rfl _ _ K5.out infoT rfl (by simp [Value.oneCell']) ?_; rw [hw6]) | (refine wpList_load_mid rfl _ _ rfl g (k * 3) rfl [.string s, .slice pa pn pc, .slice qa qn qc] _ HRG.out Try.underlying98 rfl infoLk2 ?_) | (refine wpList_store_row rfl _ _ _ rfl b _ rfl rfl _ _ K7.out infoLk2 rfl (by simp [Value.oneCell']) ?_; rw [hw8]) | (refine wpList_load_row rfl _ _ rfl b rfl _ _ (0, 0) _ K8.out Try.underlying98 rfl infoLk2 ?_) | fail)
  refine HMO.out.mono ?_
  rintro e w9 ⟨rfl, hb9⟩
  have H9 := Lib.hid (H8.out.below hb9)
  have hkb9 := (H8.out.below hb9).kb
  rw [HP.out.2.1, HP.out.2.2.2.2.1, HP.out.2.2.2.2.2.1] at hkb9
  have K9 := Lib.hid hkb9
  clear hb9 hkb9 HMO hw6 hw7 hw8 z60 K5 K7 K8 HRG H8 hb hkk hk0
  have hgat : ∀ wr, AkM w wr g n1 c1 X1 k x b → GAt NoF wr (.slice pa pn pc) x.hs ∧ GAt NoF wr (.slice qa qn qc) x.qs := fun wr hM => by
    have h9 := GAt.of_own (F := NoF) (hM.tb.hr x hM.xm) (fun _ _ => noF _)
    have h8 := GAt.of_own (F := NoF) (hM.tb.qr x hM.xm) (fun _ _ => noF _)
    rw [HP.out.2.2.2.2.1] at h9
    rw [HP.out.2.2.2.2.2.1] at h8
    exact ⟨h9, h8⟩
  have hgoes : ∀ md, fitsP x.hs o md = true ↔ GoesF (A.H s) o md := fun md => by
    have h9 := fitsP_F (HP.out.1.hk x H9.out.xm) o md
    rw [(HP.out.1.at_ x H9.out.xm).1, HP.out.2.1] at h9
    exact h9
  have hqs : x.qs = A.Q s := by
    have h9 := (HP.out.1.at_ x H9.out.xm).2
    rw [HP.out.2.1] at h9; exact h9
  have HG := Lib.hid (And.intro hgat (And.intro hgoes hqs))
  clear hgat hgoes hqs
  cases hAH : A.H s o with
  | some h0 =>
    have hp0 : h0 > 0 := isM_pos (HX.out.2.2.2.1.hm s o h0 hAH).1
    have hj := refjoin_any w9 h0 m
    obtain ⟨wt, hwt⟩ : ∃ wt, jn h0 m = wt := ⟨_, rfl⟩
    rw [hwt] at hj
    have HJ := Lib.hid hj
    have HAH := Lib.hid (And.intro hAH hwt)
    simp only [Option.getD_some]
    clear hj hAH hwt
    go_wp2_with fail
    refine HJ.out.mono ?_
    rintro e w10 ⟨rfl, hww⟩
    rw [hww]
    clear hww HJ hp0
    by_cases hwe : wt = h0
    · have hbw : (wt == h0) = true := by simp [hwe]
      have hask : A.ask o s m = (A, 0) := by unfold AS.ask; rw [if_neg HO.out.1, if_neg H4.out.2.2.2.2, HAH.out.1]; simp only; rw [HAH.out.2, if_pos hwe]
      clear hwe
      obtain ⟨wj, hwj, kj, hpost⟩ := ak_ret (F := F) (X := X) (X' := X1) HX.out.2.2.2.2.2 H9.out.k0 H9.out.k1 H9.out.bl H9.out.tb (by rw [hask]; exact HP.out.1) 0 (by rw [hask]) HP.out.2.2.2.2.2.2.2.1 (by have := HP.out.2.2.2.2.2.2.2.2; omega)
      have HKI := Lib.hid (And.intro H9.out.k0 (And.intro H9.out.k1 (And.intro kj hpost)))
      clear kj hpost hask
      go_wp2_with (first | (refine wpList_load_row rfl _ _ rfl w.heap.size rfl _ _ (0, 0) _ HKI.out.1 Try.underlying51 rfl infoT ?_) | (refine wpList_store_row rfl _ _ _ rfl (w.heap.size + 1) _ rfl rfl _ _ HKI.out.2.1 infoT rfl (by simp [Value.oneCell']) ?_; rw [hwj]))
      exact bodyPost_ret (v := .tuple #[.agg #[.slice (some ⟨g, 0, none⟩) n1 c1], .int .i64 0]) (by simp [results, Try.results24, asAddr, run_loadVar_row wj (w.heap.size + 1) 51 51 _ (0, 0) _ HKI.out.2.2.1 Try.underlying51 rfl infoT]) rfl HKI.out.2.2.2
    · have hbw : (wt == h0) = false := by simp [hwe]
      have hft := r14_fits w9 s (.slice pa pn pc) (.slice qa qn qc) x.hs (HG.out.1 w9 H9.out).1 (by have := HP.out.2.2.1; have := HP.out.2.2.2.2.2.2.1.1; omega) o wt
      have HFT := Lib.hid hft
      have HWE := Lib.hid hwe
      clear hft hwe
      go_wp2_with (first | (refine wpList_load_row rfl _ _ rfl b rfl _ _ (0, 0) _ K9.out Try.underlying98 rfl infoLk2 ?_) | fail)
      refine HFT.out.mono ?_
      rintro e wf ⟨rfl, hbf⟩
      have HF := Lib.hid (H9.out.below hbf)
      clear hbf HFT
      cases hf : fitsP x.hs o wt with
      | true =>
        have hask : A.ask o s m = (A.setH s (upd (A.H s) o (some wt)), 0) := by
          unfold AS.ask; rw [if_neg HO.out.1, if_neg H4.out.2.2.2.2, HAH.out.1]; simp only; rw [HAH.out.2, if_neg HWE.out, if_pos ((HG.out.2.1 wt).1 hf)]
        clear hf
        have hbd : Below wf.heap.size wf wf.drew := below_drewN (Below.refl _ _) 1
        have hMd := HF.out.below hbd
        have hown := hMd.tb.hr x hMd.xm
        rw [HP.out.2.2.2.2.1, HP.out.2.2.1] at hown
        have hho := r14_hold wf.drew s pa pc qa qn qc pn x.hs HP.out.2.2.1 hown (lt_of_block hMd.k1) (by have := HP.out.2.2.2.2.2.2.1.1; omega) o wt
        have hkb := hMd.kb
        rw [HP.out.2.1, HP.out.2.2.2.2.1, HP.out.2.2.2.2.2.1] at hkb
        have hS0 : wf.drew.cell? ⟨w.heap.size, 0, none⟩ = some (.slice (some ⟨g, 0, none⟩) n1 c1) ∧ wf.drew.cell? ⟨b, 0, none⟩ = some (.string s) ∧ wf.drew.cell? ⟨b, 1, none⟩ = some (.slice pa pn pc) ∧ wf.drew.cell? ⟨b, 2, none⟩ = some (.slice qa qn qc) :=
          ⟨cell_of_row wf.drew _ 0 _ _ _ hMd.k0, cell_of_row wf.drew _ 0 _ _ _ hkb, cell_of_row wf.drew _ 1 _ _ _ hkb, cell_of_row wf.drew _ 2 _ _ _ hkb⟩
        have HHO := Lib.hid hho
        have HD := Lib.hid hMd
        have HASK := Lib.hid hask
        have hkk : (k : Int) < (n1 : Int) := by have := HD.out.kl; omega
        have hk0 : (0 : Int) ≤ (k : Int) := by omega
        clear hbd hMd hown hho hkb hask
        go_upto_region 14 with (fail)
        refine wp_region_U (fun W => W.cell? ⟨w.heap.size, 0, none⟩ = some (.slice (some ⟨g, 0, none⟩) n1 c1) ∧ W.cell? ⟨b, 0, none⟩ = some (.string s) ∧ W.cell? ⟨b, 1, none⟩ = some (.slice pa pn pc) ∧ W.cell? ⟨b, 2, none⟩ = some (.slice qa qn qc)) [8] (by kernel_rfl) ?_
        refine wpAnyU_take (i := 0) [1, 7, 8] rfl (by as_aux_lemma => kernel_rfl) (by as_aux_lemma => kernel_rfl) (by as_aux_lemma => kernel_rfl) (by as_aux_lemma => kernel_rfl) (by as_aux_lemma => kernel_rfl) (by as_aux_lemma => kernel_rfl) (fun _ _ _ h => h) (Or.inl ⟨by rfl, (by intro W hSW; (try dsimp only at hSW); (try go_split_ands); go_simp <;> with_reducible rfl)⟩) hS0 ?_
        try simp only [Act.put, List.getElem_toArray, List.getElem_cons_succ, List.getElem_cons_zero, List.setIfInBounds_toArray, List.set_cons_zero, List.set_cons_succ]
        refine wpAnyU_take (i := 1) [7, 8] rfl (by as_aux_lemma => kernel_rfl) (by as_aux_lemma => kernel_rfl) (by as_aux_lemma => kernel_rfl) (by as_aux_lemma => kernel_rfl) (by as_aux_lemma => kernel_rfl) (by as_aux_lemma => kernel_rfl) (fun _ _ _ h => h) (Or.inl ⟨by rfl, (by intro W hSW; (try dsimp only at hSW); (try go_split_ands); go_simp <;> with_reducible rfl)⟩) hS0 ?_
        try simp only [Act.put, List.getElem_toArray, List.getElem_cons_succ, List.getElem_cons_zero, List.setIfInBounds_toArray, List.set_cons_zero, List.set_cons_succ]
        refine wpAnyU_take (i := 2) [7, 8] rfl (by as_aux_lemma => kernel_rfl) (by as_aux_lemma => kernel_rfl) (by as_aux_lemma => kernel_rfl) (by as_aux_lemma => kernel_rfl) (by as_aux_lemma => kernel_rfl) (by as_aux_lemma => kernel_rfl) (fun _ _ _ h => h) (Or.inl ⟨by rfl, (by intro W hSW; (try dsimp only at hSW); (try go_split_ands); go_simp <;> with_reducible rfl)⟩) hS0 ?_
        try simp only [Act.put, List.getElem_toArray, List.getElem_cons_succ, List.getElem_cons_zero, List.setIfInBounds_toArray, List.set_cons_zero, List.set_cons_succ]
        refine wpAnyU_take (i := 3) [6, 7, 8] rfl (by as_aux_lemma => kernel_rfl) (by as_aux_lemma => kernel_rfl) (by as_aux_lemma => kernel_rfl) (by as_aux_lemma => kernel_rfl) (by as_aux_lemma => kernel_rfl) (by as_aux_lemma => kernel_rfl) (fun _ _ _ h => h) (Or.inl ⟨by rfl, (by intro W hSW; (try dsimp only at hSW); (try go_split_ands); go_simp <;> with_reducible rfl)⟩) hS0 ?_
        try simp only [Act.put, List.getElem_toArray, List.getElem_cons_succ, List.getElem_cons_zero, List.setIfInBounds_toArray, List.set_cons_zero, List.set_cons_succ]
        refine wpAnyU_take (i := 4) [6, 7, 8] rfl (by as_aux_lemma => kernel_rfl) (by as_aux_lemma => kernel_rfl) (by as_aux_lemma => kernel_rfl) (by as_aux_lemma => kernel_rfl) (by as_aux_lemma => kernel_rfl) (by as_aux_lemma => kernel_rfl) (fun _ _ _ h => h) (Or.inl ⟨by rfl, (by intro W hSW; (try dsimp only at hSW); (try go_split_ands); go_simp <;> with_reducible rfl)⟩) hS0 ?_
        try simp only [Act.put, List.getElem_toArray, List.getElem_cons_succ, List.getElem_cons_zero, List.setIfInBounds_toArray, List.set_cons_zero, List.set_cons_succ]
        refine wpAnyU_take (i := 5) [6, 7, 8] rfl (by as_aux_lemma => kernel_rfl) (by as_aux_lemma => kernel_rfl) (by as_aux_lemma => kernel_rfl) (by as_aux_lemma => kernel_rfl) (by as_aux_lemma => kernel_rfl) (by as_aux_lemma => kernel_rfl) (fun _ _ _ h => h) (Or.inl ⟨by rfl, (by intro W hSW; (try dsimp only at hSW); (try go_split_ands); go_simp <;> with_reducible rfl)⟩) hS0 ?_
        try simp only [Act.put, List.getElem_toArray, List.getElem_cons_succ, List.getElem_cons_zero, List.setIfInBounds_toArray, List.set_cons_zero, List.set_cons_succ]
        refine wpAnyU_one (i := 6) (by kernel_rfl) rfl (fun K hK => ?_)
        go_simp
        go_at_call 45
        (with_reducible refine HHO.out.mono ?_)
        rintro e wh ⟨ra, rc, rfl, hro, hrg, hrob⟩
        obtain ⟨ln, hln⟩ : ∃ ln, (kset x.hs o wt).length = ln := ⟨_, rfl⟩
        rw [hln] at hro hrob ⊢
        obtain ⟨hth, kh0, khb, hbh, hfin⟩ := HD.out.holders (kset x.hs o wt) (.slice ra ln rc) (by rw [HP.out.2.2.2.2.1]; exact hrg) (by rw [hln]; exact hro) (by rw [HP.out.2.2.2.2.1]; exact hrob)
        rw [HP.out.2.1, HP.out.2.2.2.2.1, HP.out.2.2.2.2.2.1] at khb
        obtain ⟨wi, hwi⟩ : ∃ wi, wh.setCells g (k * 3) [.string s, .slice ra ln rc, .slice qa qn qc] = wi := ⟨_, rfl⟩
        obtain ⟨ki0, ki1, hbi, htbi⟩ := hfin wi (by rw [HP.out.2.1, HP.out.2.2.2.2.2.1, hwi])
        obtain ⟨wj, hwj, kj, hpost⟩ := ak_ret (F := F) (X := X) (X' := X1.set k ⟨x.name, kset x.hs o wt, x.qs, .slice ra ln rc, x.qv⟩) HX.out.2.2.2.2.2 ki0 ki1 hbi htbi (by rw [HASK.out]; exact hold_rel HP.out.1 HD.out.at_ HP.out.2.1 o wt _) 0 (by rw [HASK.out]) (by rw [set_len]; exact HP.out.2.2.2.2.2.2.2.1) (by
          have h8 := set_tot (x' := ⟨x.name, kset x.hs o wt, x.qs, .slice ra ln rc, x.qv⟩) HD.out.at_ (by have h9 := kset_len x.hs o wt; simp only; omega)
          rw [HP.out.2.2.2.2.2.2.2.2] at h8; exact h8)
        have hSh : wh.cell? ⟨w.heap.size, 0, none⟩ = some (.slice (some ⟨g, 0, none⟩) n1 c1) ∧ wh.cell? ⟨b, 0, none⟩ = some (.string s) ∧ wh.cell? ⟨b, 1, none⟩ = some (.slice pa pn pc) ∧ wh.cell? ⟨b, 2, none⟩ = some (.slice qa qn qc) :=
          ⟨cell_of_row wh _ 0 _ _ _ kh0, cell_of_row wh _ 0 _ _ _ khb, cell_of_row wh _ 1 _ _ _ khb, cell_of_row wh _ 2 _ _ _ khb⟩
        have HTH := Lib.hid hth
        have HKI := Lib.hid (And.intro ki0 (And.intro ki1 (And.intro kj hpost)))
        clear hro hrg hrob hln hth kh0 khb hbh hfin ki0 ki1 hbi htbi kj hpost HHO
        refine hK.out _ _ (fun _ => hSh) (fun _ => ?_)
        clear hK K
        try simp only [Act.put, List.getElem_toArray, List.getElem_cons_succ, List.getElem_cons_zero, List.setIfInBounds_toArray, List.set_cons_zero, List.set_cons_succ]
        refine wpAnyU_take (i := 7) [8] rfl (by as_aux_lemma => kernel_rfl) (by as_aux_lemma => kernel_rfl) (by as_aux_lemma => kernel_rfl) (by as_aux_lemma => kernel_rfl) (by as_aux_lemma => kernel_rfl) (by as_aux_lemma => kernel_rfl) (fun _ _ _ h => h) (Or.inl ⟨by rfl, (by intro W hSW; (try dsimp only at hSW); (try go_split_ands); go_simp <;> with_reducible rfl)⟩) hSh ?_
        try simp only [Act.put, List.getElem_toArray, List.getElem_cons_succ, List.getElem_cons_zero, List.setIfInBounds_toArray, List.set_cons_zero, List.set_cons_succ]
        refine wpAnyU_one (i := 8) (by kernel_rfl) rfl (fun K hK => ?_)
        refine step_store_mid14 rfl _ _ _ rfl g (k * 3) [.string s, .slice ra ln rc, .slice qa qn qc] (by simp [Act.eval, Act.put]) (by simp [Act.eval, Act.put]) HTH.out infoLk2 (by simp [Value.oneCell']) ?_
        rw [hwi]
        refine hK.out _ _ (fun h => absurd h (by decide)) (fun _ => ?_)
        clear hK K
        try simp only [Act.put, List.getElem_toArray, List.getElem_cons_succ, List.getElem_cons_zero, List.setIfInBounds_toArray, List.set_cons_zero, List.set_cons_succ]
        refine wpAnyU_done (by kernel_rfl) ?_ _
        clear hS0 hSh
        go_wp2_with (first | (refine wpList_load_row rfl _ _ rfl w.heap.size rfl _ _ (0, 0) _ HKI.out.1 Try.underlying51 rfl infoT ?_) | (refine wpList_store_row rfl _ _ _ rfl (w.heap.size + 1) _ rfl rfl _ _ HKI.out.2.1 infoT rfl (by simp [Value.oneCell']) ?_; rw [hwj]))
        exact bodyPost_ret (v := .tuple #[.agg #[.slice (some ⟨g, 0, none⟩) n1 c1], .int .i64 0]) (by simp [results, Try.results24, asAddr, run_loadVar_row wj (w.heap.size + 1) 51 51 _ (0, 0) _ HKI.out.2.2.1 Try.underlying51 rfl infoT]) rfl HKI.out.2.2.2
      | false =>
        have hask : A.ask o s m = (A.setQ s (qins (A.Q s) ((A.Q s).findIdx fun a => isFreeF (A.H s) a.1) (o, wt)), 10) := by
          unfold AS.ask; rw [if_neg HO.out.1, if_neg H4.out.2.2.2.2, HAH.out.1]; simp only; rw [HAH.out.2, if_neg HWE.out, if_neg (fun h9 => by rw [(HG.out.2.1 wt).2 h9] at hf; cases hf)]
        have HASK := Lib.hid hask
        clear hf hask
        go_wp2_with fail
        go_loopw [17] (fun jv wr => ∃ j : Nat, jv = .int .i64 j ∧ j ≤ qn ∧ (∀ a ∈ x.qs.take j, isFreeF (A.H s) a.1 = false) ∧ AkM w wr g n1 c1 X1 k x b) (fun jv _ => qn - (Go.RowKit.intOf jv).toNat)
        case atStart => exact ⟨0, rfl, Nat.zero_le _, by simp, HF.out⟩
        case round =>
          obtain ⟨j, rfl, hjq, hpre, hM⟩ := hrel
          have HM := Lib.hid (And.intro hM (And.intro hjq hpre))
          have hMd := hM.below (below_drewN (Below.refl _ _) 1 : Below wr.heap.size wr wr.drew)
          have hbd : Below wr.heap.size wr wr.drew := below_drewN (Below.refl _ _) 1
          have hkb := (hM.below hbd).kb
          rw [HP.out.2.1, HP.out.2.2.2.2.1, HP.out.2.2.2.2.2.1] at hkb
          have y0 := cell_of_row wr.drew b 0 _ _ _ hkb
          have y1 := cell_of_row wr.drew b 1 _ _ _ hkb
          have y2 := cell_of_row wr.drew b 2 _ _ _ hkb
          have hj0 : (0 : Int) ≤ (j : Int) := by omega
          clear hM hpre hMd hkb hjq
          go_upto_region 17 with (fail)
          go_cut [90] (fun sv wx => ∃ bb, sv = .bool bb ∧ AkM w wx g n1 c1 X1 k x b ∧ (bb = true → j < qn ∧ ∀ a ∈ x.qs.take (j + 1), isFreeF (A.H s) a.1 = false) ∧ (bb = false → (x.qs.findIdx fun a => isFreeF (A.H s) a.1) = j))
          case first =>
            by_cases hlt : j < qn
            · have hil : j < x.qs.length := by rw [HP.out.2.2.2.1]; exact hlt
              have hgq := (HG.out.1 wr.drew (HM.out.1.below hbd)).2
              obtain ⟨qg, qo, rfl, hqo⟩ := hgq.at_ HP.out.2.2.2.1 j hil
              obtain ⟨cu, -⟩ := hqo wr.drew (Below.refl _ _)
              have htk : x.qs.take (j + 1) = x.qs.take j ++ [x.qs[j]] := by rw [List.take_add_one, List.getElem?_eq_getElem hil]; rfl
              have hfi := fun (e : isFreeF (A.H s) x.qs[j].1 = true) => findIdx_at (p := fun a : Int × Int => isFreeF (A.H s) a.1) HM.out.2.2 (.inr ⟨hil, e⟩)
              obtain ⟨p, hp⟩ : ∃ p, x.qs[j] = p := ⟨_, rfl⟩
              rw [hp] at cu htk hfi
              obtain ⟨u, um⟩ := p
              simp only at cu hfi
              have hmo := r14_mode wr.drew s (.slice pa pn pc) (.slice (some ⟨qg, qo, none⟩) qn qc) x.hs (HG.out.1 wr.drew (HM.out.1.below hbd)).1 (by have := HP.out.2.2.1; have := HP.out.2.2.2.2.2.2.1.1; omega) u
              rw [(HP.out.1.at_ x HM.out.1.xm).1, HP.out.2.1] at hmo
              obtain ⟨mv, hmv⟩ : ∃ mv, (A.H s u).getD 0 = mv := ⟨_, rfl⟩
              rw [hmv] at hmo
              have hfree : isFreeF (A.H s) u = !decide (mv > 0) := by
                unfold isFreeF
                rw [hmv]
                cases hu : A.H s u with
                | none => rw [hu] at hmv; simp at hmv; subst hmv; rfl
                | some kk =>
                  rw [hu] at hmv
                  simp at hmv
                  subst hmv
                  have h9 := isM_pos (HX.out.2.2.2.1.hm s u kk hu).1
                  have h8 : (kk == 0) = false := by simp; omega
                  rw [h8]; simp; omega
              have hS0 : wr.drew.cell? ⟨b, 0, none⟩ = some (.string s) ∧ wr.drew.cell? ⟨b, 1, none⟩ = some (.slice pa pn pc) ∧ wr.drew.cell? ⟨b, 2, none⟩ = some (.slice (some ⟨qg, qo, none⟩) qn qc) ∧ wr.drew.cell? ⟨qg, qo + j * 2, none⟩ = some (.int .u64 u) := ⟨y0, y1, y2, cu⟩
              have hjj : (j : Int) < (qn : Int) := by omega
              have hjd : decide (qn ≤ j) = false := by simp; omega
              have hjd2 : decide (j < qn) = true := by simp; omega
              have HMO2 := Lib.hid hmo
              have HN := Lib.hid (And.intro htk (And.intro hfi (And.intro hfree (And.intro (HM.out.1.below hbd) hlt))))
              clear hil hgq hqo htk hfi hp hmo hmv hfree y0 y1 y2 cu hbd
              refine wp_region_U (fun W => W.cell? ⟨b, 0, none⟩ = some (.string s) ∧ W.cell? ⟨b, 1, none⟩ = some (.slice pa pn pc) ∧ W.cell? ⟨b, 2, none⟩ = some (.slice (some ⟨qg, qo, none⟩) qn qc) ∧ W.cell? ⟨qg, qo + j * 2, none⟩ = some (.int .u64 u)) [] (by kernel_rfl) ?_
              refine wpAnyU_take (i := 0) [4, 5, 6, 7, 8, 9, 10, 11, 12, 13, 14, 15] rfl (by as_aux_lemma => kernel_rfl) (by as_aux_lemma => kernel_rfl) (by as_aux_lemma => kernel_rfl) (by as_aux_lemma => kernel_rfl) (by as_aux_lemma => kernel_rfl) (by as_aux_lemma => kernel_rfl) (fun _ _ _ h => h) (Or.inl ⟨by rfl, (by intro W hSW; (try dsimp only at hSW); (try go_split_ands); go_simp <;> with_reducible rfl)⟩) hS0 ?_
              try simp only [Act.put, List.getElem_toArray, List.getElem_cons_succ, List.getElem_cons_zero, List.setIfInBounds_toArray, List.set_cons_zero, List.set_cons_succ]
              refine wpAnyU_take (i := 1) [2, 3, 4, 5, 6, 7, 8, 9, 10, 11, 12, 13, 14, 15] rfl (by as_aux_lemma => kernel_rfl) (by as_aux_lemma => kernel_rfl) (by as_aux_lemma => kernel_rfl) (by as_aux_lemma => kernel_rfl) (by as_aux_lemma => kernel_rfl) (by as_aux_lemma => kernel_rfl) (fun _ _ _ h => h) (Or.inl ⟨by rfl, (by intro W hSW; (try dsimp only at hSW); (try go_split_ands); go_simp <;> with_reducible rfl)⟩) hS0 ?_
              try simp only [Act.put, List.getElem_toArray, List.getElem_cons_succ, List.getElem_cons_zero, List.setIfInBounds_toArray, List.set_cons_zero, List.set_cons_succ]
              refine wpAnyU_take (i := 2) [3, 4, 5, 6, 7, 8, 9, 10, 11, 12, 13, 14, 15] rfl (by as_aux_lemma => kernel_rfl) (by as_aux_lemma => kernel_rfl) (by as_aux_lemma => kernel_rfl) (by as_aux_lemma => kernel_rfl) (by as_aux_lemma => kernel_rfl) (by as_aux_lemma => kernel_rfl) (fun _ _ _ h => h) (Or.inl ⟨by rfl, (by intro W hSW; (try dsimp only at hSW); (try go_split_ands); go_simp <;> with_reducible rfl)⟩) hS0 ?_
              try simp only [Act.put, List.getElem_toArray, List.getElem_cons_succ, List.getElem_cons_zero, List.setIfInBounds_toArray, List.set_cons_zero, List.set_cons_succ]
              refine wpAnyU_take (i := 3) [4, 5, 6, 7, 8, 9, 10, 11, 12, 13, 14, 15] rfl (by as_aux_lemma => kernel_rfl) (by as_aux_lemma => kernel_rfl) (by as_aux_lemma => kernel_rfl) (by as_aux_lemma => kernel_rfl) (by as_aux_lemma => kernel_rfl) (by as_aux_lemma => kernel_rfl) (fun _ _ _ h => h) (Or.inl ⟨by rfl, (by intro W hSW; (try dsimp only at hSW); (try go_split_ands); go_simp <;> with_reducible rfl)⟩) hS0 ?_
              try simp only [Act.put, List.getElem_toArray, List.getElem_cons_succ, List.getElem_cons_zero, List.setIfInBounds_toArray, List.set_cons_zero, List.set_cons_succ]
              refine wpAnyU_take (i := 4) [5, 6, 7, 8, 9, 10, 11, 12, 13, 14, 15] rfl (by as_aux_lemma => kernel_rfl) (by as_aux_lemma => kernel_rfl) (by as_aux_lemma => kernel_rfl) (by as_aux_lemma => kernel_rfl) (by as_aux_lemma => kernel_rfl) (by as_aux_lemma => kernel_rfl) (fun _ _ _ h => h) (Or.inl ⟨by rfl, (by intro W hSW; (try dsimp only at hSW); (try go_split_ands); go_simp <;> with_reducible rfl)⟩) hS0 ?_
              try simp only [Act.put, List.getElem_toArray, List.getElem_cons_succ, List.getElem_cons_zero, List.setIfInBounds_toArray, List.set_cons_zero, List.set_cons_succ]
              refine wpAnyU_take (i := 5) [6, 7, 8, 9, 10, 11, 12, 13, 14, 15] rfl (by as_aux_lemma => kernel_rfl) (by as_aux_lemma => kernel_rfl) (by as_aux_lemma => kernel_rfl) (by as_aux_lemma => kernel_rfl) (by as_aux_lemma => kernel_rfl) (by as_aux_lemma => kernel_rfl) (fun _ _ _ h => h) (Or.inl ⟨by rfl, (by intro W hSW; (try dsimp only at hSW); (try go_split_ands); go_simp <;> with_reducible rfl)⟩) hS0 ?_
              try simp only [Act.put, List.getElem_toArray, List.getElem_cons_succ, List.getElem_cons_zero, List.setIfInBounds_toArray, List.set_cons_zero, List.set_cons_succ]
              refine wpAnyU_take (i := 6) [13, 14, 15] rfl (by as_aux_lemma => kernel_rfl) (by as_aux_lemma => kernel_rfl) (by as_aux_lemma => kernel_rfl) (by as_aux_lemma => kernel_rfl) (by as_aux_lemma => kernel_rfl) (by as_aux_lemma => kernel_rfl) (fun _ _ _ h => h) (by first | exact Or.inl ⟨by rfl, (by intro W hSW; (try dsimp only at hSW); (try go_split_ands); go_simp <;> with_reducible rfl)⟩ | exact Or.inr ⟨by rfl, rfl⟩) hS0 ?_
              try simp only [Act.put, List.getElem_toArray, List.getElem_cons_succ, List.getElem_cons_zero, List.setIfInBounds_toArray, List.set_cons_zero, List.set_cons_succ]
              refine wpAnyU_take (i := 7) [8, 10, 11, 12, 13, 14, 15] rfl (by as_aux_lemma => kernel_rfl) (by as_aux_lemma => kernel_rfl) (by as_aux_lemma => kernel_rfl) (by as_aux_lemma => kernel_rfl) (by as_aux_lemma => kernel_rfl) (by as_aux_lemma => kernel_rfl) (fun _ _ _ h => h) (by first | exact Or.inl ⟨by rfl, (by intro W hSW; (try dsimp only at hSW); (try go_split_ands); go_simp <;> with_reducible rfl)⟩ | exact Or.inr ⟨by rfl, rfl⟩) hS0 ?_
              try simp only [Act.put, List.getElem_toArray, List.getElem_cons_succ, List.getElem_cons_zero, List.setIfInBounds_toArray, List.set_cons_zero, List.set_cons_succ]
              refine wpAnyU_take (i := 8) [10, 11, 12, 13, 14, 15] rfl (by as_aux_lemma => kernel_rfl) (by as_aux_lemma => kernel_rfl) (by as_aux_lemma => kernel_rfl) (by as_aux_lemma => kernel_rfl) (by as_aux_lemma => kernel_rfl) (by as_aux_lemma => kernel_rfl) (fun _ _ _ h => h) (by first | exact Or.inl ⟨by rfl, (by intro W hSW; (try dsimp only at hSW); (try go_split_ands); go_simp <;> with_reducible rfl)⟩ | exact Or.inr ⟨by rfl, rfl⟩) hS0 ?_
              try simp only [Act.put, List.getElem_toArray, List.getElem_cons_succ, List.getElem_cons_zero, List.setIfInBounds_toArray, List.set_cons_zero, List.set_cons_succ]
              refine wpAnyU_take (i := 9) [10, 11, 12, 13, 14, 15] rfl (by as_aux_lemma => kernel_rfl) (by as_aux_lemma => kernel_rfl) (by as_aux_lemma => kernel_rfl) (by as_aux_lemma => kernel_rfl) (by as_aux_lemma => kernel_rfl) (by as_aux_lemma => kernel_rfl) (fun _ _ _ h => h) (by first | exact Or.inl ⟨by rfl, (by intro W hSW; (try dsimp only at hSW); (try go_split_ands); go_simp <;> with_reducible rfl)⟩ | exact Or.inr ⟨by rfl, rfl⟩) hS0 ?_
              try simp only [Act.put, List.getElem_toArray, List.getElem_cons_succ, List.getElem_cons_zero, List.setIfInBounds_toArray, List.set_cons_zero, List.set_cons_succ]
              refine wpAnyU_take (i := 10) [11, 12, 13, 14, 15] rfl (by as_aux_lemma => kernel_rfl) (by as_aux_lemma => kernel_rfl) (by as_aux_lemma => kernel_rfl) (by as_aux_lemma => kernel_rfl) (by as_aux_lemma => kernel_rfl) (by as_aux_lemma => kernel_rfl) (fun _ _ _ h => h) (by first | exact Or.inl ⟨by rfl, (by intro W hSW; (try dsimp only at hSW); (try go_split_ands); go_simp <;> with_reducible rfl)⟩ | exact Or.inr ⟨by rfl, rfl⟩) hS0 ?_
              try simp only [Act.put, List.getElem_toArray, List.getElem_cons_succ, List.getElem_cons_zero, List.setIfInBounds_toArray, List.set_cons_zero, List.set_cons_succ]
              refine wpAnyU_take (i := 11) [12, 13, 14, 15] rfl (by as_aux_lemma => kernel_rfl) (by as_aux_lemma => kernel_rfl) (by as_aux_lemma => kernel_rfl) (by as_aux_lemma => kernel_rfl) (by as_aux_lemma => kernel_rfl) (by as_aux_lemma => kernel_rfl) (fun _ _ _ h => h) (by first | exact Or.inl ⟨by rfl, (by intro W hSW; (try dsimp only at hSW); (try go_split_ands); go_simp <;> with_reducible rfl)⟩ | exact Or.inr ⟨by rfl, rfl⟩) hS0 ?_
              try simp only [Act.put, List.getElem_toArray, List.getElem_cons_succ, List.getElem_cons_zero, List.setIfInBounds_toArray, List.set_cons_zero, List.set_cons_succ]
              refine wpAnyU_take (i := 12) [13, 14, 15] rfl (by as_aux_lemma => kernel_rfl) (by as_aux_lemma => kernel_rfl) (by as_aux_lemma => kernel_rfl) (by as_aux_lemma => kernel_rfl) (by as_aux_lemma => kernel_rfl) (by as_aux_lemma => kernel_rfl) (fun _ _ _ h => h) (by first | exact Or.inl ⟨by rfl, (by intro W hSW; (try dsimp only at hSW); (try go_split_ands); go_simp <;> with_reducible rfl)⟩ | exact Or.inr ⟨by rfl, rfl⟩) hS0 ?_
              try simp only [Act.put, List.getElem_toArray, List.getElem_cons_succ, List.getElem_cons_zero, List.setIfInBounds_toArray, List.set_cons_zero, List.set_cons_succ]
              refine wpAnyU_one (i := 13) (by kernel_rfl) rfl (fun K hK => ?_)
              go_simp
              go_at_call 43
              (with_reducible refine HMO2.out.mono ?_)
              rintro e wz ⟨rfl, hbz⟩
              have hSz : wz.cell? ⟨b, 0, none⟩ = some (.string s) ∧ wz.cell? ⟨b, 1, none⟩ = some (.slice pa pn pc) ∧ wz.cell? ⟨b, 2, none⟩ = some (.slice (some ⟨qg, qo, none⟩) qn qc) ∧ wz.cell? ⟨qg, qo + j * 2, none⟩ = some (.int .u64 u) := by
                obtain ⟨x1, x2, x3, x4⟩ := hS0
                exact ⟨by rw [World.cell?_of_block (hbz.block _ (World.block_lt_of_cell? _ _ x1))]; exact x1, by rw [World.cell?_of_block (hbz.block _ (World.block_lt_of_cell? _ _ x2))]; exact x2, by rw [World.cell?_of_block (hbz.block _ (World.block_lt_of_cell? _ _ x3))]; exact x3, by rw [World.cell?_of_block (hbz.block _ (World.block_lt_of_cell? _ _ x4))]; exact x4⟩
              have HZ := Lib.hid (HN.out.2.2.2.1.below hbz)
              clear hbz HMO2
              refine hK.out _ _ (fun _ => hSz) (fun _ => ?_)
              clear hK K
              try simp only [Act.put, List.getElem_toArray, List.getElem_cons_succ, List.getElem_cons_zero, List.setIfInBounds_toArray, List.set_cons_zero, List.set_cons_succ]
              refine wpAnyU_take (i := 14) [15] rfl (by as_aux_lemma => kernel_rfl) (by as_aux_lemma => kernel_rfl) (by as_aux_lemma => kernel_rfl) (by as_aux_lemma => kernel_rfl) (by as_aux_lemma => kernel_rfl) (by as_aux_lemma => kernel_rfl) (fun _ _ _ h => h) (by first | exact Or.inl ⟨by rfl, (by intro W hSW; (try dsimp only at hSW); (try go_split_ands); go_simp <;> with_reducible rfl)⟩ | exact Or.inr ⟨by rfl, rfl⟩) hSz ?_
              try simp only [Act.put, List.getElem_toArray, List.getElem_cons_succ, List.getElem_cons_zero, List.setIfInBounds_toArray, List.set_cons_zero, List.set_cons_succ]
              refine wpAnyU_take (i := 15) [] rfl (by as_aux_lemma => kernel_rfl) (by as_aux_lemma => kernel_rfl) (by as_aux_lemma => kernel_rfl) (by as_aux_lemma => kernel_rfl) (by as_aux_lemma => kernel_rfl) (by as_aux_lemma => kernel_rfl) (fun _ _ _ h => h) (Or.inl ⟨by rfl, (by intro W hSW; (try dsimp only at hSW); (try go_split_ands); go_simp <;> with_reducible rfl)⟩) hSz ?_
              try simp only [Act.put, List.getElem_toArray, List.getElem_cons_succ, List.getElem_cons_zero, List.setIfInBounds_toArray, List.set_cons_zero, List.set_cons_succ]
              refine wpAnyU_done (by kernel_rfl) ?_ _
              clear hS0 hSz
              go_wp2
              go_meet
              refine ⟨_, rfl, HZ.out, fun hb => ⟨HN.out.2.2.2.2, fun a ha => ?_⟩, fun hb => HN.out.2.1 ?_⟩
              · rw [HN.out.1] at ha
                rcases List.mem_append.1 ha with h9 | h9
                · exact HM.out.2.2 a h9
                · rw [List.mem_singleton] at h9
                  rw [h9]
                  simp only
                  rw [HN.out.2.2.1, hb]; rfl
              · rw [HN.out.2.2.1, hb]; rfl
            · have hjj : ¬ (j : Int) < (qn : Int) := by omega
              have hfin : Hid ((x.qs.findIdx fun a => isFreeF (A.H s) a.1) = j) := findIdx_at (p := fun a : Int × Int => isFreeF (A.H s) a.1) HM.out.2.2 (.inl (by rw [HP.out.2.2.2.1]; have := HM.out.2.1; omega))
              have z2 : wr.cell? ⟨b, 2, none⟩ = some (.slice qa qn qc) := y2
              clear y0 y1 y2 hbd hlt
              go_quiet (fail)
              go_wp2
              go_meet
              exact ⟨false, rfl, HM.out.1.below (below_drewN (Below.refl _ _) _), (fun h => by cases h), fun _ => hfin.out⟩
          case rest =>
            obtain ⟨bb, rfl, hM2, hb1, hb2⟩ := hcut
            obtain ⟨wg, hwg⟩ : ∃ wg, wc = wg := ⟨_, rfl⟩
            rw [hwg] at hM2 ⊢
            clear hwg y0 y1 y2 hbd
            cases bb with
            | true =>
              have HN := Lib.hid (And.intro hM2 (hb1 rfl))
              have HWJ : Hid (wrap64 ((j : Int) + 1) = ((j + 1 : Nat) : Int)) := by show _ = _; have := HN.out.2.1; have := HP.out.2.2.2.2.2.2.1.2; unfold wrap64; omega
              clear hM2 hb1 hb2
              go_wp2
              go_roundw
              case rel => exact ⟨j + 1, by rw [HWJ.out], HN.out.2.1, HN.out.2.2, HN.out.1⟩
              case measure => exact meas_up HWJ.out HN.out.2.1
            | false =>
              have hfx := hb2 rfl
              have hjq : j ≤ qn := HM.out.2.1
              have hgq := (HG.out.1 wg hM2).2
              have hqc : qn ≤ qc := by
                obtain ⟨a9, c9, e9, hcc, -⟩ := hgq.form
                injection e9 with e1 e2 e3
                have := HP.out.2.2.2.1
                omega
              obtain ⟨b6, c6, w6, R7, c7, w7, b8, c8, wh, hr6, hr7, hr8, hb6, hb7, hb8, hro⟩ := gr_insert hgq HP.out.2.2.2.1 j hjq (o, wt) (by have := HP.out.2.2.2.2.2.2.1.2; omega)
              have hln : (qins x.qs j (o, wt)).length = qn + 1 := by rw [qins_length, HP.out.2.2.2.1]
              have hB2 := lt_of_block hM2.k1
              obtain ⟨⟨u9, hc9⟩, hf9, kh0, khb, hbh, hfin⟩ := hM2.queue (qins x.qs j (o, wt)) (.slice b8 (qn + 1) c8) (grown_of_below hb8 _) (by rw [hln]; exact rowU_mono' hro hB2) (fun i hi => .inr (hro.lt i hi).1)
              rw [HP.out.2.1, HP.out.2.2.2.2.1, HP.out.2.2.2.2.2.1] at khb
              obtain ⟨wi, hwi⟩ : ∃ wi, wh.setCell ⟨g, k * 3 + 2, none⟩ (.slice b8 (qn + 1) c8) = wi := ⟨_, rfl⟩
              obtain ⟨ki0, ki1, hbi, htbi⟩ := hfin wi hwi.symm
              obtain ⟨wj, hwj, kj, hpost⟩ := ak_ret (F := F) (X := X) (X' := X1.set k ⟨x.name, x.hs, qins x.qs j (o, wt), x.hv, .slice b8 (qn + 1) c8⟩) HX.out.2.2.2.2.2 ki0 ki1 hbi htbi (by rw [HASK.out, ← HG.out.2.2, hfx]; exact wait_rel HP.out.1 hM2.at_ HP.out.2.1 _ _) 10 (by rw [HASK.out]) (by rw [set_len]; exact HP.out.2.2.2.2.2.2.2.1) (by
                have h8 := set_tot (x' := ⟨x.name, x.hs, qins x.qs j (o, wt), x.hv, .slice b8 (qn + 1) c8⟩) hM2.at_ (by simp only; rw [qins_length]; omega)
                rw [HP.out.2.2.2.2.2.2.2.2] at h8; exact h8)
              have hkb := hM2.kb
              rw [HP.out.2.1, HP.out.2.2.2.2.1, HP.out.2.2.2.2.2.1] at hkb
              have y2 := cell_of_row wg b 2 _ _ _ hkb
              have k7b := (hb7.block _ (lt_of_block hkb)).trans hkb
              have k70 := (hb7.block _ (lt_of_block hM2.k0)).trans hM2.k0
              have hS0 : w7.drew.cell? ⟨w.heap.size, 0, none⟩ = some (.slice (some ⟨g, 0, none⟩) n1 c1) ∧ w7.drew.cell? ⟨b, 2, none⟩ = some (.slice qa qn qc) :=
                ⟨cell_of_row w7.drew _ 0 _ _ _ k70, cell_of_row w7.drew _ 2 _ _ _ k7b⟩
              have hSh : wh.cell? ⟨w.heap.size, 0, none⟩ = some (.slice (some ⟨g, 0, none⟩) n1 c1) ∧ wh.cell? ⟨b, 2, none⟩ = some (.slice qa qn qc) :=
                ⟨cell_of_row wh _ 0 _ _ _ kh0, cell_of_row wh _ 2 _ _ _ khb⟩
              have q1 : ∀ W : World, (Instr.sliceAt 96 (.slice qa qn qc) none (some (.int .i64 j)) none).run Try.prog W = .ok (sliced qa 0 j qc 2) W := fun W => sliceH info_gC Try.underlying96 elemGr qa qn qc j W j rfl (by omega)
              have q2 : ∀ W : World, (Instr.sliceAt 96 (.slice qa qn qc) (some (.int .i64 j)) none none).run Try.prog W = .ok (sliced qa j qn qc 2) W := fun W => sliceL info_gC Try.underlying96 elemGr qa qn qc j W j rfl (by omega) (by omega)
              obtain ⟨s6, hs6⟩ : ∃ s6, sliced qa 0 j qc 2 = s6 := ⟨_, rfl⟩
              obtain ⟨s8, hs8⟩ : ∃ s8, sliced qa j qn qc 2 = s8 := ⟨_, rfl⟩
              rw [hs6] at hr6 q1
              rw [hs8] at hr8 q2
              obtain ⟨p6a, p6n, p6c, hp6⟩ : ∃ p6a p6n p6c, s6 = .slice p6a p6n p6c := ⟨_, _, _, hs6.symm⟩
              obtain ⟨p8a, p8n, p8c, hp8⟩ : ∃ p8a p8n p8c, s8 = .slice p8a p8n p8c := ⟨_, _, _, hs8.symm⟩
              clear hs6 hs8
              subst hp6 hp8
              have HR6 := Lib.hid hr6
              have HR7 := Lib.hid hr7
              have HR8 := Lib.hid hr8
              have HKI := Lib.hid (And.intro ki0 (And.intro ki1 (And.intro kj hpost)))
              have hkk : (k : Int) < (n1 : Int) := by have := hM2.kl; omega
              have hk0 : (0 : Int) ≤ (k : Int) := by omega
              have hjj : ¬ ((qn : Int) < (j : Int)) := by omega
              clear hfx hgq hr6 hr7 hr8 hb6 hb7 hb8 hro hln hB2 kh0 khb hbh hfin ki0 ki1 hbi htbi kj hpost hkb k7b k70 hM2 hb1 hb2
              go_upto_region 22 with (first | (at_builtin; refine wpList_append_eq rfl rfl HR6.out rfl rfl ?_; clear HR6) | (at_builtin; refine wpList_append_eq rfl rfl HR7.out rfl rfl ?_; clear HR7) | fail)
              clear y2 q1
              refine wp_region_U (fun W => W.cell? ⟨w.heap.size, 0, none⟩ = some (.slice (some ⟨g, 0, none⟩) n1 c1) ∧ W.cell? ⟨b, 2, none⟩ = some (.slice qa qn qc)) [11] (by kernel_rfl) ?_
              refine wpAnyU_take (i := 0) [1, 9, 10, 11] rfl (by as_aux_lemma => kernel_rfl) (by as_aux_lemma => kernel_rfl) (by as_aux_lemma => kernel_rfl) (by as_aux_lemma => kernel_rfl) (by as_aux_lemma => kernel_rfl) (by as_aux_lemma => kernel_rfl) (fun _ _ _ h => h) (Or.inl ⟨by rfl, (by intro W hSW; (try dsimp only at hSW); (try go_split_ands); go_simp <;> with_reducible rfl)⟩) hS0 ?_
              try simp only [Act.put, List.getElem_toArray, List.getElem_cons_succ, List.getElem_cons_zero, List.setIfInBounds_toArray, List.set_cons_zero, List.set_cons_succ]
              refine wpAnyU_take (i := 1) [9, 10, 11] rfl (by as_aux_lemma => kernel_rfl) (by as_aux_lemma => kernel_rfl) (by as_aux_lemma => kernel_rfl) (by as_aux_lemma => kernel_rfl) (by as_aux_lemma => kernel_rfl) (by as_aux_lemma => kernel_rfl) (fun _ _ _ h => h) (Or.inl ⟨by rfl, (by intro W hSW; (try dsimp only at hSW); (try go_split_ands); go_simp <;> with_reducible rfl)⟩) hS0 ?_
              try simp only [Act.put, List.getElem_toArray, List.getElem_cons_succ, List.getElem_cons_zero, List.setIfInBounds_toArray, List.set_cons_zero, List.set_cons_succ]
              refine wpAnyU_take (i := 2) [9, 10, 11] rfl (by as_aux_lemma => kernel_rfl) (by as_aux_lemma => kernel_rfl) (by as_aux_lemma => kernel_rfl) (by as_aux_lemma => kernel_rfl) (by as_aux_lemma => kernel_rfl) (by as_aux_lemma => kernel_rfl) (fun _ _ _ h => h) (Or.inl ⟨by rfl, (by intro W hSW; (try dsimp only at hSW); (try go_split_ands); go_simp <;> with_reducible rfl)⟩) hS0 ?_
              try simp only [Act.put, List.getElem_toArray, List.getElem_cons_succ, List.getElem_cons_zero, List.setIfInBounds_toArray, List.set_cons_zero, List.set_cons_succ]
              refine wpAnyU_take (i := 3) [8, 9, 10, 11] rfl (by as_aux_lemma => kernel_rfl) (by as_aux_lemma => kernel_rfl) (by as_aux_lemma => kernel_rfl) (by as_aux_lemma => kernel_rfl) (by as_aux_lemma => kernel_rfl) (by as_aux_lemma => kernel_rfl) (fun _ _ _ h => h) (Or.inl ⟨by rfl, (by intro W hSW; (try dsimp only at hSW); (try go_split_ands); go_simp <;> with_reducible rfl)⟩) hS0 ?_
              try simp only [Act.put, List.getElem_toArray, List.getElem_cons_succ, List.getElem_cons_zero, List.setIfInBounds_toArray, List.set_cons_zero, List.set_cons_succ]
              refine wpAnyU_take (i := 4) [5, 7, 8, 9, 10, 11] rfl (by as_aux_lemma => kernel_rfl) (by as_aux_lemma => kernel_rfl) (by as_aux_lemma => kernel_rfl) (by as_aux_lemma => kernel_rfl) (by as_aux_lemma => kernel_rfl) (by as_aux_lemma => kernel_rfl) (fun _ _ _ h => h) (Or.inl ⟨by rfl, (by intro W hSW; (try dsimp only at hSW); (try go_split_ands); go_simp <;> with_reducible rfl)⟩) hS0 ?_
              try simp only [Act.put, List.getElem_toArray, List.getElem_cons_succ, List.getElem_cons_zero, List.setIfInBounds_toArray, List.set_cons_zero, List.set_cons_succ]
              refine wpAnyU_take (i := 5) [7, 8, 9, 10, 11] rfl (by as_aux_lemma => kernel_rfl) (by as_aux_lemma => kernel_rfl) (by as_aux_lemma => kernel_rfl) (by as_aux_lemma => kernel_rfl) (by as_aux_lemma => kernel_rfl) (by as_aux_lemma => kernel_rfl) (fun _ _ _ h => h) (Or.inl ⟨by rfl, (by intro W hSW; (try dsimp only at hSW); (try go_split_ands); go_simp <;> with_reducible rfl)⟩) hS0 ?_
              try simp only [Act.put, List.getElem_toArray, List.getElem_cons_succ, List.getElem_cons_zero, List.setIfInBounds_toArray, List.set_cons_zero, List.set_cons_succ]
              refine wpAnyU_take (i := 6) [7, 8, 9, 10, 11] rfl (by as_aux_lemma => kernel_rfl) (by as_aux_lemma => kernel_rfl) (by as_aux_lemma => kernel_rfl) (by as_aux_lemma => kernel_rfl) (by as_aux_lemma => kernel_rfl) (by as_aux_lemma => kernel_rfl) (fun _ _ _ h => h) (Or.inl ⟨by rfl, (by intro W hSW; (try dsimp only at hSW); (try go_split_ands); go_simp <;> with_reducible rfl)⟩) hS0 ?_
              try simp only [Act.put, List.getElem_toArray, List.getElem_cons_succ, List.getElem_cons_zero, List.setIfInBounds_toArray, List.set_cons_zero, List.set_cons_succ]
              refine wpAnyU_take (i := 7) [8, 9, 10, 11] rfl (by as_aux_lemma => kernel_rfl) (by as_aux_lemma => kernel_rfl) (by as_aux_lemma => kernel_rfl) (by as_aux_lemma => kernel_rfl) (by as_aux_lemma => kernel_rfl) (by as_aux_lemma => kernel_rfl) (fun _ _ _ h => h) (Or.inl ⟨by rfl, (by intro W hSW; (try dsimp only at hSW); (try go_split_ands); go_simp <;> with_reducible rfl)⟩) hS0 ?_
              try simp only [Act.put, List.getElem_toArray, List.getElem_cons_succ, List.getElem_cons_zero, List.setIfInBounds_toArray, List.set_cons_zero, List.set_cons_succ]
              refine wpAnyU_one (i := 8) (by kernel_rfl) rfl (fun K hK => ?_)
              refine step_append_eq14 rfl rfl HR8.out rfl rfl ?_
              refine hK.out _ _ (fun _ => hSh) (fun _ => ?_)
              clear hK K
              try simp only [Act.put, List.getElem_toArray, List.getElem_cons_succ, List.getElem_cons_zero, List.setIfInBounds_toArray, List.set_cons_zero, List.set_cons_succ]
              refine wpAnyU_take (i := 9) [10, 11] rfl (by as_aux_lemma => kernel_rfl) (by as_aux_lemma => kernel_rfl) (by as_aux_lemma => kernel_rfl) (by as_aux_lemma => kernel_rfl) (by as_aux_lemma => kernel_rfl) (by as_aux_lemma => kernel_rfl) (fun _ _ _ h => h) (Or.inl ⟨by rfl, (by intro W hSW; (try dsimp only at hSW); (try go_split_ands); go_simp <;> with_reducible rfl)⟩) hSh ?_
              try simp only [Act.put, List.getElem_toArray, List.getElem_cons_succ, List.getElem_cons_zero, List.setIfInBounds_toArray, List.set_cons_zero, List.set_cons_succ]
              refine wpAnyU_take (i := 10) [11] rfl (by as_aux_lemma => kernel_rfl) (by as_aux_lemma => kernel_rfl) (by as_aux_lemma => kernel_rfl) (by as_aux_lemma => kernel_rfl) (by as_aux_lemma => kernel_rfl) (by as_aux_lemma => kernel_rfl) (fun _ _ _ h => h) (Or.inl ⟨by rfl, (by intro W hSW; (try dsimp only at hSW); (try go_split_ands); go_simp <;> with_reducible rfl)⟩) hSh ?_
              try simp only [Act.put, List.getElem_toArray, List.getElem_cons_succ, List.getElem_cons_zero, List.setIfInBounds_toArray, List.set_cons_zero, List.set_cons_succ]
              refine wpAnyU_one (i := 11) (by kernel_rfl) rfl (fun K hK => ?_)
              go_simp
              refine hK.out _ _ (fun h => absurd h (by decide)) (fun _ => ?_)
              clear hK K
              try simp only [Act.put, List.getElem_toArray, List.getElem_cons_succ, List.getElem_cons_zero, List.setIfInBounds_toArray, List.set_cons_zero, List.set_cons_succ]
              refine wpAnyU_done (by kernel_rfl) ?_ _
              clear hS0 hSh hc9 hf9 q2
              go_wp2_with (first | (refine wpList_load_row rfl _ _ rfl w.heap.size rfl _ _ (0, 0) _ HKI.out.1 Try.underlying51 rfl infoT ?_) | (refine wpList_store_row rfl _ _ _ rfl (w.heap.size + 1) _ rfl rfl _ _ HKI.out.2.1 infoT rfl (by simp [Value.oneCell']) ?_; rw [hwj]))
              exact bodyPost_ret (v := .tuple #[.agg #[.slice (some ⟨g, 0, none⟩) n1 c1], .int .i64 10]) (by simp [results, Try.results24, asAddr, run_loadVar_row wj (w.heap.size + 1) 51 51 _ (0, 0) _ HKI.out.2.2.1 Try.underlying51 rfl infoT]) rfl HKI.out.2.2.2
  | none =>
    simp only [Option.getD_none]
    have hz0 : ¬ ((0 : Int) > 0) := by omega
    have HAH := Lib.hid hAH
    have hkb9 := H9.out.kb
    rw [HP.out.2.1, HP.out.2.2.2.2.1, HP.out.2.2.2.2.2.1] at hkb9
    have y0 := cell_of_row w9 b 0 _ _ _ hkb9
    have y1 := cell_of_row w9 b 1 _ _ _ hkb9
    have y2 := cell_of_row w9 b 2 _ _ _ hkb9
    have hft := r14_fits w9 s (.slice pa pn pc) (.slice qa qn qc) x.hs (HG.out.1 w9 H9.out).1 (by have := HP.out.2.2.1; have := HP.out.2.2.2.2.2.2.1.1; omega) o m
    have HFT := Lib.hid hft
    clear hAH hkb9 hft
    by_cases hq : x.qs = []
    · have hq0 : qn = 0 := by rw [← HP.out.2.2.2.1, hq]; rfl
      have HQ := Lib.hid hq
      subst hq0
      clear hq
      go_wp2_with fail
      clear y0 y1 y2
      refine HFT.out.mono ?_
      rintro e wf ⟨rfl, hbf⟩
      have HF := Lib.hid (H9.out.below hbf)
      clear hbf HFT
      obtain ⟨qn, hqz⟩ : ∃ qn, qn = 0 := ⟨_, rfl⟩
      rw [← hqz] at HP HG K9
      clear hqz
      cases hf : fitsP x.hs o m with
      | true =>
        have hask : A.ask o s m = (A.setH s (upd (A.H s) o (some m)), 0) := by
          unfold AS.ask; rw [if_neg HO.out.1, if_neg H4.out.2.2.2.2, HAH.out]; simp only; rw [if_pos ⟨by rw [← HG.out.2.2]; exact HQ.out, (HG.out.2.1 m).1 hf⟩]
        clear hf
        have hbd : Below wf.heap.size wf wf.drew := below_drewN (Below.refl _ _) 1
        have hMd := HF.out.below hbd
        have hown := hMd.tb.hr x hMd.xm
        rw [HP.out.2.2.2.2.1, HP.out.2.2.1] at hown
        have hho := r14_hold wf.drew s pa pc qa qn qc pn x.hs HP.out.2.2.1 hown (lt_of_block hMd.k1) (by have := HP.out.2.2.2.2.2.2.1.1; omega) o m
        have hkb := hMd.kb
        rw [HP.out.2.1, HP.out.2.2.2.2.1, HP.out.2.2.2.2.2.1] at hkb
        have hS0 : wf.drew.cell? ⟨w.heap.size, 0, none⟩ = some (.slice (some ⟨g, 0, none⟩) n1 c1) ∧ wf.drew.cell? ⟨b, 0, none⟩ = some (.string s) ∧ wf.drew.cell? ⟨b, 1, none⟩ = some (.slice pa pn pc) ∧ wf.drew.cell? ⟨b, 2, none⟩ = some (.slice qa qn qc) :=
          ⟨cell_of_row wf.drew _ 0 _ _ _ hMd.k0, cell_of_row wf.drew _ 0 _ _ _ hkb, cell_of_row wf.drew _ 1 _ _ _ hkb, cell_of_row wf.drew _ 2 _ _ _ hkb⟩
        have HHO := Lib.hid hho
        have HD := Lib.hid hMd
        have HASK := Lib.hid hask
        have hkk : (k : Int) < (n1 : Int) := by have := HD.out.kl; omega
        have hk0 : (0 : Int) ≤ (k : Int) := by omega
        clear hbd hMd hown hho hkb hask
        go_upto_region 25 with (fail)
        refine wp_region_U (fun W => W.cell? ⟨w.heap.size, 0, none⟩ = some (.slice (some ⟨g, 0, none⟩) n1 c1) ∧ W.cell? ⟨b, 0, none⟩ = some (.string s) ∧ W.cell? ⟨b, 1, none⟩ = some (.slice pa pn pc) ∧ W.cell? ⟨b, 2, none⟩ = some (.slice qa qn qc)) [8] (by kernel_rfl) ?_
        refine wpAnyU_take (i := 0) [1, 7, 8] rfl (by as_aux_lemma => kernel_rfl) (by as_aux_lemma => kernel_rfl) (by as_aux_lemma => kernel_rfl) (by as_aux_lemma => kernel_rfl) (by as_aux_lemma => kernel_rfl) (by as_aux_lemma => kernel_rfl) (fun _ _ _ h => h) (Or.inl ⟨by rfl, (by intro W hSW; (try dsimp only at hSW); (try go_split_ands); go_simp <;> with_reducible rfl)⟩) hS0 ?_
        try simp only [Act.put, List.getElem_toArray, List.getElem_cons_succ, List.getElem_cons_zero, List.setIfInBounds_toArray, List.set_cons_zero, List.set_cons_succ]
        refine wpAnyU_take (i := 1) [7, 8] rfl (by as_aux_lemma => kernel_rfl) (by as_aux_lemma => kernel_rfl) (by as_aux_lemma => kernel_rfl) (by as_aux_lemma => kernel_rfl) (by as_aux_lemma => kernel_rfl) (by as_aux_lemma => kernel_rfl) (fun _ _ _ h => h) (Or.inl ⟨by rfl, (by intro W hSW; (try dsimp only at hSW); (try go_split_ands); go_simp <;> with_reducible rfl)⟩) hS0 ?_
        try simp only [Act.put, List.getElem_toArray, List.getElem_cons_succ, List.getElem_cons_zero, List.setIfInBounds_toArray, List.set_cons_zero, List.set_cons_succ]
        refine wpAnyU_take (i := 2) [7, 8] rfl (by as_aux_lemma => kernel_rfl) (by as_aux_lemma => kernel_rfl) (by as_aux_lemma => kernel_rfl) (by as_aux_lemma => kernel_rfl) (by as_aux_lemma => kernel_rfl) (by as_aux_lemma => kernel_rfl) (fun _ _ _ h => h) (Or.inl ⟨by rfl, (by intro W hSW; (try dsimp only at hSW); (try go_split_ands); go_simp <;> with_reducible rfl)⟩) hS0 ?_
        try simp only [Act.put, List.getElem_toArray, List.getElem_cons_succ, List.getElem_cons_zero, List.setIfInBounds_toArray, List.set_cons_zero, List.set_cons_succ]
        refine wpAnyU_take (i := 3) [6, 7, 8] rfl (by as_aux_lemma => kernel_rfl) (by as_aux_lemma => kernel_rfl) (by as_aux_lemma => kernel_rfl) (by as_aux_lemma => kernel_rfl) (by as_aux_lemma => kernel_rfl) (by as_aux_lemma => kernel_rfl) (fun _ _ _ h => h) (Or.inl ⟨by rfl, (by intro W hSW; (try dsimp only at hSW); (try go_split_ands); go_simp <;> with_reducible rfl)⟩) hS0 ?_
        try simp only [Act.put, List.getElem_toArray, List.getElem_cons_succ, List.getElem_cons_zero, List.setIfInBounds_toArray, List.set_cons_zero, List.set_cons_succ]
        refine wpAnyU_take (i := 4) [6, 7, 8] rfl (by as_aux_lemma => kernel_rfl) (by as_aux_lemma => kernel_rfl) (by as_aux_lemma => kernel_rfl) (by as_aux_lemma => kernel_rfl) (by as_aux_lemma => kernel_rfl) (by as_aux_lemma => kernel_rfl) (fun _ _ _ h => h) (Or.inl ⟨by rfl, (by intro W hSW; (try dsimp only at hSW); (try go_split_ands); go_simp <;> with_reducible rfl)⟩) hS0 ?_
        try simp only [Act.put, List.getElem_toArray, List.getElem_cons_succ, List.getElem_cons_zero, List.setIfInBounds_toArray, List.set_cons_zero, List.set_cons_succ]
        refine wpAnyU_take (i := 5) [6, 7, 8] rfl (by as_aux_lemma => kernel_rfl) (by as_aux_lemma => kernel_rfl) (by as_aux_lemma => kernel_rfl) (by as_aux_lemma => kernel_rfl) (by as_aux_lemma => kernel_rfl) (by as_aux_lemma => kernel_rfl) (fun _ _ _ h => h) (Or.inl ⟨by rfl, (by intro W hSW; (try dsimp only at hSW); (try go_split_ands); go_simp <;> with_reducible rfl)⟩) hS0 ?_
        try simp only [Act.put, List.getElem_toArray, List.getElem_cons_succ, List.getElem_cons_zero, List.setIfInBounds_toArray, List.set_cons_zero, List.set_cons_succ]
        refine wpAnyU_one (i := 6) (by kernel_rfl) rfl (fun K hK => ?_)
        go_simp
        go_at_call 45
        (with_reducible refine HHO.out.mono ?_)
        rintro e wh ⟨ra, rc, rfl, hro, hrg, hrob⟩
        obtain ⟨ln, hln⟩ : ∃ ln, (kset x.hs o m).length = ln := ⟨_, rfl⟩
        rw [hln] at hro hrob ⊢
        obtain ⟨hth, kh0, khb, hbh, hfin⟩ := HD.out.holders (kset x.hs o m) (.slice ra ln rc) (by rw [HP.out.2.2.2.2.1]; exact hrg) (by rw [hln]; exact hro) (by rw [HP.out.2.2.2.2.1]; exact hrob)
        rw [HP.out.2.1, HP.out.2.2.2.2.1, HP.out.2.2.2.2.2.1] at khb
        obtain ⟨wi, hwi⟩ : ∃ wi, wh.setCells g (k * 3) [.string s, .slice ra ln rc, .slice qa qn qc] = wi := ⟨_, rfl⟩
        obtain ⟨ki0, ki1, hbi, htbi⟩ := hfin wi (by rw [HP.out.2.1, HP.out.2.2.2.2.2.1, hwi])
        obtain ⟨wj, hwj, kj, hpost⟩ := ak_ret (F := F) (X := X) (X' := X1.set k ⟨x.name, kset x.hs o m, x.qs, .slice ra ln rc, x.qv⟩) HX.out.2.2.2.2.2 ki0 ki1 hbi htbi (by rw [HASK.out]; exact hold_rel HP.out.1 HD.out.at_ HP.out.2.1 o m _) 0 (by rw [HASK.out]) (by rw [set_len]; exact HP.out.2.2.2.2.2.2.2.1) (by
          have h8 := set_tot (x' := ⟨x.name, kset x.hs o m, x.qs, .slice ra ln rc, x.qv⟩) HD.out.at_ (by have h9 := kset_len x.hs o m; simp only; omega)
          rw [HP.out.2.2.2.2.2.2.2.2] at h8; exact h8)
        have hSh : wh.cell? ⟨w.heap.size, 0, none⟩ = some (.slice (some ⟨g, 0, none⟩) n1 c1) ∧ wh.cell? ⟨b, 0, none⟩ = some (.string s) ∧ wh.cell? ⟨b, 1, none⟩ = some (.slice pa pn pc) ∧ wh.cell? ⟨b, 2, none⟩ = some (.slice qa qn qc) :=
          ⟨cell_of_row wh _ 0 _ _ _ kh0, cell_of_row wh _ 0 _ _ _ khb, cell_of_row wh _ 1 _ _ _ khb, cell_of_row wh _ 2 _ _ _ khb⟩
        have HTH := Lib.hid hth
        have HKI := Lib.hid (And.intro ki0 (And.intro ki1 (And.intro kj hpost)))
        clear hro hrg hrob hln hth kh0 khb hbh hfin ki0 ki1 hbi htbi kj hpost HHO
        refine hK.out _ _ (fun _ => hSh) (fun _ => ?_)
        clear hK K
        try simp only [Act.put, List.getElem_toArray, List.getElem_cons_succ, List.getElem_cons_zero, List.setIfInBounds_toArray, List.set_cons_zero, List.set_cons_succ]
        refine wpAnyU_take (i := 7) [8] rfl (by as_aux_lemma => kernel_rfl) (by as_aux_lemma => kernel_rfl) (by as_aux_lemma => kernel_rfl) (by as_aux_lemma => kernel_rfl) (by as_aux_lemma => kernel_rfl) (by as_aux_lemma => kernel_rfl) (fun _ _ _ h => h) (Or.inl ⟨by rfl, (by intro W hSW; (try dsimp only at hSW); (try go_split_ands); go_simp <;> with_reducible rfl)⟩) hSh ?_
        try simp only [Act.put, List.getElem_toArray, List.getElem_cons_succ, List.getElem_cons_zero, List.setIfInBounds_toArray, List.set_cons_zero, List.set_cons_succ]
        refine wpAnyU_one (i := 8) (by kernel_rfl) rfl (fun K hK => ?_)
        refine step_store_mid14 rfl _ _ _ rfl g (k * 3) [.string s, .slice ra ln rc, .slice qa qn qc] (by simp [Act.eval, Act.put]) (by simp [Act.eval, Act.put]) HTH.out infoLk2 (by simp [Value.oneCell']) ?_
        rw [hwi]
        refine hK.out _ _ (fun h => absurd h (by decide)) (fun _ => ?_)
        clear hK K
        try simp only [Act.put, List.getElem_toArray, List.getElem_cons_succ, List.getElem_cons_zero, List.setIfInBounds_toArray, List.set_cons_zero, List.set_cons_succ]
        refine wpAnyU_done (by kernel_rfl) ?_ _
        clear hS0 hSh
        go_wp2_with (first | (refine wpList_load_row rfl _ _ rfl w.heap.size rfl _ _ (0, 0) _ HKI.out.1 Try.underlying51 rfl infoT ?_) | (refine wpList_store_row rfl _ _ _ rfl (w.heap.size + 1) _ rfl rfl _ _ HKI.out.2.1 infoT rfl (by simp [Value.oneCell']) ?_; rw [hwj]))
        exact bodyPost_ret (v := .tuple #[.agg #[.slice (some ⟨g, 0, none⟩) n1 c1], .int .i64 0]) (by simp [results, Try.results24, asAddr, run_loadVar_row wj (w.heap.size + 1) 51 51 _ (0, 0) _ HKI.out.2.2.1 Try.underlying51 rfl infoT]) rfl HKI.out.2.2.2
      | false =>
        have hask : A.ask o s m = (A.setQ s (x.qs ++ [(o, m)]), 10) := by
          unfold AS.ask; rw [if_neg HO.out.1, if_neg H4.out.2.2.2.2, HAH.out]; simp only; rw [if_neg (fun h9 => by rw [(HG.out.2.1 m).2 h9.2] at hf; cases hf), HG.out.2.2]
        clear hf
        have hbd : Below wf.heap.size wf wf.drew := below_drewN (Below.refl _ _) 1
        have hMd := HF.out.below hbd
        have hown := hMd.tb.qr x hMd.xm
        rw [HP.out.2.2.2.2.2.1, HP.out.2.2.2.1] at hown
        obtain ⟨R, rc, wh, hrun, hro, hrg, hrob⟩ := push_rw (ty := 96) info_gC Try.underlying96 rfl (by decide) (by decide) hown #[.int .u64 o, .int .i64 m] rfl (by intro u hu; simp at hu; rcases hu with rfl | rfl <;> rfl) (lt_of_block hMd.k1) (by have := HP.out.2.2.2.2.2.2.1.2; omega)
        have hgc : gC x.qs ++ (#[Value.int .u64 o, .int .i64 m]).toList = gC (x.qs ++ [(o, m)]) := by simp [gC]
        rw [hgc] at hro
        have hln : (x.qs ++ [(o, m)]).length = qn + 1 := by rw [List.length_append, HP.out.2.2.2.1]; rfl
        obtain ⟨⟨u9, hc9⟩, hf9, kh0, khb, hbh, hfin⟩ := hMd.queue (x.qs ++ [(o, m)]) (.slice (some ⟨R, 0, none⟩) (qn + 1) rc) (by rw [HP.out.2.2.2.2.2.1]; exact hrg) (by rw [hln]; exact hro) (fun j hj => by
          have e : R = j := by simpa [Value.ownBlock] using hj
          subst e
          rw [HP.out.2.2.2.2.2.1]; exact hrob)
        rw [HP.out.2.1, HP.out.2.2.2.2.1, HP.out.2.2.2.2.2.1] at khb
        obtain ⟨wi, hwi⟩ : ∃ wi, wh.setCell ⟨g, k * 3 + 2, none⟩ (.slice (some ⟨R, 0, none⟩) (qn + 1) rc) = wi := ⟨_, rfl⟩
        obtain ⟨ki0, ki1, hbi, htbi⟩ := hfin wi hwi.symm
        obtain ⟨wj, hwj, kj, hpost⟩ := ak_ret (F := F) (X := X) (X' := X1.set k ⟨x.name, x.hs, x.qs ++ [(o, m)], x.hv, .slice (some ⟨R, 0, none⟩) (qn + 1) rc⟩) HX.out.2.2.2.2.2 ki0 ki1 hbi htbi (by rw [hask]; exact wait_rel HP.out.1 hMd.at_ HP.out.2.1 _ _) 10 (by rw [hask]) (by rw [set_len]; exact HP.out.2.2.2.2.2.2.2.1) (by
          have h8 := set_tot (x' := ⟨x.name, x.hs, x.qs ++ [(o, m)], x.hv, .slice (some ⟨R, 0, none⟩) (qn + 1) rc⟩) hMd.at_ (by simp only [List.length_append, List.length_cons, List.length_nil]; omega)
          rw [HP.out.2.2.2.2.2.2.2.2] at h8; exact h8)
        have hkb := hMd.kb
        rw [HP.out.2.1, HP.out.2.2.2.2.1, HP.out.2.2.2.2.2.1] at hkb
        have hS0 : wf.drew.cell? ⟨w.heap.size, 0, none⟩ = some (.slice (some ⟨g, 0, none⟩) n1 c1) ∧ wf.drew.cell? ⟨b, 2, none⟩ = some (.slice qa qn qc) :=
          ⟨cell_of_row wf.drew _ 0 _ _ _ hMd.k0, cell_of_row wf.drew _ 2 _ _ _ hkb⟩
        have hSa : ((wf.alloc (.cells #[.int .u64 o, .int .i64 m] 103)).drew).cell? ⟨w.heap.size, 0, none⟩ = some (.slice (some ⟨g, 0, none⟩) n1 c1) ∧ ((wf.alloc (.cells #[.int .u64 o, .int .i64 m] 103)).drew).cell? ⟨b, 2, none⟩ = some (.slice qa qn qc) :=
          ⟨cell_of_row _ _ 0 _ _ _ ((heap_alloc_old _ _ (lt_of_block HF.out.k0)).trans HF.out.k0), cell_of_row _ _ 2 _ _ _ ((heap_alloc_old _ _ (lt_of_block hkb)).trans hkb)⟩
        have hSh : wh.cell? ⟨w.heap.size, 0, none⟩ = some (.slice (some ⟨g, 0, none⟩) n1 c1) ∧ wh.cell? ⟨b, 2, none⟩ = some (.slice qa qn qc) :=
          ⟨cell_of_row wh _ 0 _ _ _ kh0, cell_of_row wh _ 2 _ _ _ khb⟩
        have HR9 := Lib.hid hrun
        have HKI := Lib.hid (And.intro ki0 (And.intro ki1 (And.intro kj hpost)))
        have hkk : (k : Int) < (n1 : Int) := by have := hMd.kl; omega
        have hk0 : (0 : Int) ≤ (k : Int) := by omega
        clear hbd hMd hown hrun hro hrg hrob hgc hln kh0 khb hbh hfin ki0 ki1 hbi htbi kj hpost hkb hask
        go_upto_region 27 with (fail)
        refine wp_region_U (fun W => W.cell? ⟨w.heap.size, 0, none⟩ = some (.slice (some ⟨g, 0, none⟩) n1 c1) ∧ W.cell? ⟨b, 2, none⟩ = some (.slice qa qn qc)) [12] (by kernel_rfl) ?_
        refine wpAnyU_take (i := 0) [1, 10, 11, 12] rfl (by as_aux_lemma => kernel_rfl) (by as_aux_lemma => kernel_rfl) (by as_aux_lemma => kernel_rfl) (by as_aux_lemma => kernel_rfl) (by as_aux_lemma => kernel_rfl) (by as_aux_lemma => kernel_rfl) (fun _ _ _ h => h) (Or.inl ⟨by rfl, (by intro W hSW; (try dsimp only at hSW); (try go_split_ands); go_simp <;> with_reducible rfl)⟩) hS0 ?_
        try simp only [Act.put, List.getElem_toArray, List.getElem_cons_succ, List.getElem_cons_zero, List.setIfInBounds_toArray, List.set_cons_zero, List.set_cons_succ]
        refine wpAnyU_take (i := 1) [10, 11, 12] rfl (by as_aux_lemma => kernel_rfl) (by as_aux_lemma => kernel_rfl) (by as_aux_lemma => kernel_rfl) (by as_aux_lemma => kernel_rfl) (by as_aux_lemma => kernel_rfl) (by as_aux_lemma => kernel_rfl) (fun _ _ _ h => h) (Or.inl ⟨by rfl, (by intro W hSW; (try dsimp only at hSW); (try go_split_ands); go_simp <;> with_reducible rfl)⟩) hS0 ?_
        try simp only [Act.put, List.getElem_toArray, List.getElem_cons_succ, List.getElem_cons_zero, List.setIfInBounds_toArray, List.set_cons_zero, List.set_cons_succ]
        refine wpAnyU_take (i := 2) [10, 11, 12] rfl (by as_aux_lemma => kernel_rfl) (by as_aux_lemma => kernel_rfl) (by as_aux_lemma => kernel_rfl) (by as_aux_lemma => kernel_rfl) (by as_aux_lemma => kernel_rfl) (by as_aux_lemma => kernel_rfl) (fun _ _ _ h => h) (Or.inl ⟨by rfl, (by intro W hSW; (try dsimp only at hSW); (try go_split_ands); go_simp <;> with_reducible rfl)⟩) hS0 ?_
        try simp only [Act.put, List.getElem_toArray, List.getElem_cons_succ, List.getElem_cons_zero, List.setIfInBounds_toArray, List.set_cons_zero, List.set_cons_succ]
        refine wpAnyU_take (i := 3) [4, 9, 10, 11, 12] rfl (by as_aux_lemma => kernel_rfl) (by as_aux_lemma => kernel_rfl) (by as_aux_lemma => kernel_rfl) (by as_aux_lemma => kernel_rfl) (by as_aux_lemma => kernel_rfl) (by as_aux_lemma => kernel_rfl) (fun _ _ _ h => h) (Or.inl ⟨by rfl, (by intro W hSW; (try dsimp only at hSW); (try go_split_ands); go_simp <;> with_reducible rfl)⟩) hS0 ?_
        try simp only [Act.put, List.getElem_toArray, List.getElem_cons_succ, List.getElem_cons_zero, List.setIfInBounds_toArray, List.set_cons_zero, List.set_cons_succ]
        refine wpAnyU_take (i := 4) [9, 10, 11, 12] rfl (by as_aux_lemma => kernel_rfl) (by as_aux_lemma => kernel_rfl) (by as_aux_lemma => kernel_rfl) (by as_aux_lemma => kernel_rfl) (by as_aux_lemma => kernel_rfl) (by as_aux_lemma => kernel_rfl) (fun _ _ _ h => h) (Or.inl ⟨by rfl, (by intro W hSW; (try dsimp only at hSW); (try go_split_ands); go_simp <;> with_reducible rfl)⟩) hS0 ?_
        try simp only [Act.put, List.getElem_toArray, List.getElem_cons_succ, List.getElem_cons_zero, List.setIfInBounds_toArray, List.set_cons_zero, List.set_cons_succ]
        refine wpAnyU_take (i := 5) [7, 8, 9, 10, 11, 12] rfl (by as_aux_lemma => kernel_rfl) (by as_aux_lemma => kernel_rfl) (by as_aux_lemma => kernel_rfl) (by as_aux_lemma => kernel_rfl) (by as_aux_lemma => kernel_rfl) (by as_aux_lemma => kernel_rfl) (fun _ _ _ h => h) (Or.inl ⟨by rfl, (by intro W hSW; (try dsimp only at hSW); (try go_split_ands); go_simp <;> with_reducible rfl)⟩) hS0 ?_
        try simp only [Act.put, List.getElem_toArray, List.getElem_cons_succ, List.getElem_cons_zero, List.setIfInBounds_toArray, List.set_cons_zero, List.set_cons_succ]
        refine wpAnyU_take (i := 6) [7, 8, 9, 10, 11, 12] rfl (by as_aux_lemma => kernel_rfl) (by as_aux_lemma => kernel_rfl) (by as_aux_lemma => kernel_rfl) (by as_aux_lemma => kernel_rfl) (by as_aux_lemma => kernel_rfl) (by as_aux_lemma => kernel_rfl) (fun _ _ _ h => h) (Or.inl ⟨by rfl, (by intro W hSW; (try dsimp only at hSW); (try go_split_ands); go_simp <;> with_reducible rfl)⟩) hS0 ?_
        try simp only [Act.put, List.getElem_toArray, List.getElem_cons_succ, List.getElem_cons_zero, List.setIfInBounds_toArray, List.set_cons_zero, List.set_cons_succ]
        refine wpAnyU_take (i := 7) [8, 9, 10, 11, 12] rfl (by as_aux_lemma => kernel_rfl) (by as_aux_lemma => kernel_rfl) (by as_aux_lemma => kernel_rfl) (by as_aux_lemma => kernel_rfl) (by as_aux_lemma => kernel_rfl) (by as_aux_lemma => kernel_rfl) (fun _ _ _ h => h) (Or.inl ⟨by rfl, (by intro W hSW; (try dsimp only at hSW); (try go_split_ands); go_simp <;> with_reducible rfl)⟩) hS0 ?_
        try simp only [Act.put, List.getElem_toArray, List.getElem_cons_succ, List.getElem_cons_zero, List.setIfInBounds_toArray, List.set_cons_zero, List.set_cons_succ]
        refine wpAnyU_one (i := 8) (by kernel_rfl) rfl (fun K hK => ?_)
        go_simp
        refine hK.out _ _ (fun _ => hSa) (fun _ => ?_)
        clear hK K
        try simp only [Act.put, List.getElem_toArray, List.getElem_cons_succ, List.getElem_cons_zero, List.setIfInBounds_toArray, List.set_cons_zero, List.set_cons_succ]
        refine wpAnyU_one (i := 9) (by kernel_rfl) rfl (fun K hK => ?_)
        refine step_append_eq14 rfl rfl HR9.out rfl rfl ?_
        refine hK.out _ _ (fun _ => hSh) (fun _ => ?_)
        clear hK K
        try simp only [Act.put, List.getElem_toArray, List.getElem_cons_succ, List.getElem_cons_zero, List.setIfInBounds_toArray, List.set_cons_zero, List.set_cons_succ]
        refine wpAnyU_take (i := 10) [11, 12] rfl (by as_aux_lemma => kernel_rfl) (by as_aux_lemma => kernel_rfl) (by as_aux_lemma => kernel_rfl) (by as_aux_lemma => kernel_rfl) (by as_aux_lemma => kernel_rfl) (by as_aux_lemma => kernel_rfl) (fun _ _ _ h => h) (Or.inl ⟨by rfl, (by intro W hSW; (try dsimp only at hSW); (try go_split_ands); go_simp <;> with_reducible rfl)⟩) hSh ?_
        try simp only [Act.put, List.getElem_toArray, List.getElem_cons_succ, List.getElem_cons_zero, List.setIfInBounds_toArray, List.set_cons_zero, List.set_cons_succ]
        refine wpAnyU_take (i := 11) [12] rfl (by as_aux_lemma => kernel_rfl) (by as_aux_lemma => kernel_rfl) (by as_aux_lemma => kernel_rfl) (by as_aux_lemma => kernel_rfl) (by as_aux_lemma => kernel_rfl) (by as_aux_lemma => kernel_rfl) (fun _ _ _ h => h) (Or.inl ⟨by rfl, (by intro W hSW; (try dsimp only at hSW); (try go_split_ands); go_simp <;> with_reducible rfl)⟩) hSh ?_
        try simp only [Act.put, List.getElem_toArray, List.getElem_cons_succ, List.getElem_cons_zero, List.setIfInBounds_toArray, List.set_cons_zero, List.set_cons_succ]
        refine wpAnyU_one (i := 12) (by kernel_rfl) rfl (fun K hK => ?_)
        go_simp
        refine hK.out _ _ (fun h => absurd h (by decide)) (fun _ => ?_)
        clear hK K
        try simp only [Act.put, List.getElem_toArray, List.getElem_cons_succ, List.getElem_cons_zero, List.setIfInBounds_toArray, List.set_cons_zero, List.set_cons_succ]
        refine wpAnyU_done (by kernel_rfl) ?_ _
        clear hS0 hSa hSh hc9 hf9
        go_wp2_with (first | (refine wpList_load_row rfl _ _ rfl w.heap.size rfl _ _ (0, 0) _ HKI.out.1 Try.underlying51 rfl infoT ?_) | (refine wpList_store_row rfl _ _ _ rfl (w.heap.size + 1) _ rfl rfl _ _ HKI.out.2.1 infoT rfl (by simp [Value.oneCell']) ?_; rw [hwj]))
        exact bodyPost_ret (v := .tuple #[.agg #[.slice (some ⟨g, 0, none⟩) n1 c1], .int .i64 10]) (by simp [results, Try.results24, asAddr, run_loadVar_row wj (w.heap.size + 1) 51 51 _ (0, 0) _ HKI.out.2.2.1 Try.underlying51 rfl infoT]) rfl HKI.out.2.2.2
    · have hq0 : ¬ qn = 0 := fun h9 => hq (List.eq_nil_of_length_eq_zero (by rw [HP.out.2.2.2.1]; exact h9))
      have hask : A.ask o s m = (A.setQ s (x.qs ++ [(o, m)]), 10) := by
        unfold AS.ask; rw [if_neg HO.out.1, if_neg H4.out.2.2.2.2, HAH.out]; simp only; rw [if_neg (fun h9 => hq (by rw [HG.out.2.2]; exact h9.1)), HG.out.2.2]
      obtain ⟨wf, hwf⟩ : ∃ wf, w9 = wf := ⟨_, rfl⟩
      rw [hwf] at H9 y0 y1 y2 ⊢
      have HF := H9
      clear hq HFT y0 y1
      go_upto_region 27 with (fail)
      clear y2
      have hbd : Below wf.heap.size wf wf.drew := below_drewN (Below.refl _ _) 1
      have hMd := HF.out.below hbd
      have hown := hMd.tb.qr x hMd.xm
      rw [HP.out.2.2.2.2.2.1, HP.out.2.2.2.1] at hown
      obtain ⟨R, rc, wh, hrun, hro, hrg, hrob⟩ := push_rw (ty := 96) info_gC Try.underlying96 rfl (by decide) (by decide) hown #[.int .u64 o, .int .i64 m] rfl (by intro u hu; simp at hu; rcases hu with rfl | rfl <;> rfl) (lt_of_block hMd.k1) (by have := HP.out.2.2.2.2.2.2.1.2; omega)
      have hgc : gC x.qs ++ (#[Value.int .u64 o, .int .i64 m]).toList = gC (x.qs ++ [(o, m)]) := by simp [gC]
      rw [hgc] at hro
      have hln : (x.qs ++ [(o, m)]).length = qn + 1 := by rw [List.length_append, HP.out.2.2.2.1]; rfl
      obtain ⟨⟨u9, hc9⟩, hf9, kh0, khb, hbh, hfin⟩ := hMd.queue (x.qs ++ [(o, m)]) (.slice (some ⟨R, 0, none⟩) (qn + 1) rc) (by rw [HP.out.2.2.2.2.2.1]; exact hrg) (by rw [hln]; exact hro) (fun j hj => by
        have e : R = j := by simpa [Value.ownBlock] using hj
        subst e
        rw [HP.out.2.2.2.2.2.1]; exact hrob)
      rw [HP.out.2.1, HP.out.2.2.2.2.1, HP.out.2.2.2.2.2.1] at khb
      obtain ⟨wi, hwi⟩ : ∃ wi, wh.setCell ⟨g, k * 3 + 2, none⟩ (.slice (some ⟨R, 0, none⟩) (qn + 1) rc) = wi := ⟨_, rfl⟩
      obtain ⟨ki0, ki1, hbi, htbi⟩ := hfin wi hwi.symm
      obtain ⟨wj, hwj, kj, hpost⟩ := ak_ret (F := F) (X := X) (X' := X1.set k ⟨x.name, x.hs, x.qs ++ [(o, m)], x.hv, .slice (some ⟨R, 0, none⟩) (qn + 1) rc⟩) HX.out.2.2.2.2.2 ki0 ki1 hbi htbi (by rw [hask]; exact wait_rel HP.out.1 hMd.at_ HP.out.2.1 _ _) 10 (by rw [hask]) (by rw [set_len]; exact HP.out.2.2.2.2.2.2.2.1) (by
        have h8 := set_tot (x' := ⟨x.name, x.hs, x.qs ++ [(o, m)], x.hv, .slice (some ⟨R, 0, none⟩) (qn + 1) rc⟩) hMd.at_ (by simp only [List.length_append, List.length_cons, List.length_nil]; omega)
        rw [HP.out.2.2.2.2.2.2.2.2] at h8; exact h8)
      have hkb := hMd.kb
      rw [HP.out.2.1, HP.out.2.2.2.2.1, HP.out.2.2.2.2.2.1] at hkb
      have hS0 : wf.drew.cell? ⟨w.heap.size, 0, none⟩ = some (.slice (some ⟨g, 0, none⟩) n1 c1) ∧ wf.drew.cell? ⟨b, 2, none⟩ = some (.slice qa qn qc) :=
        ⟨cell_of_row wf.drew _ 0 _ _ _ hMd.k0, cell_of_row wf.drew _ 2 _ _ _ hkb⟩
      have hSa : ((wf.alloc (.cells #[.int .u64 o, .int .i64 m] 103)).drew).cell? ⟨w.heap.size, 0, none⟩ = some (.slice (some ⟨g, 0, none⟩) n1 c1) ∧ ((wf.alloc (.cells #[.int .u64 o, .int .i64 m] 103)).drew).cell? ⟨b, 2, none⟩ = some (.slice qa qn qc) :=
        ⟨cell_of_row _ _ 0 _ _ _ ((heap_alloc_old _ _ (lt_of_block HF.out.k0)).trans HF.out.k0), cell_of_row _ _ 2 _ _ _ ((heap_alloc_old _ _ (lt_of_block hkb)).trans hkb)⟩
      have hSh : wh.cell? ⟨w.heap.size, 0, none⟩ = some (.slice (some ⟨g, 0, none⟩) n1 c1) ∧ wh.cell? ⟨b, 2, none⟩ = some (.slice qa qn qc) :=
        ⟨cell_of_row wh _ 0 _ _ _ kh0, cell_of_row wh _ 2 _ _ _ khb⟩
      have HR9 := Lib.hid hrun
      have HKI := Lib.hid (And.intro ki0 (And.intro ki1 (And.intro kj hpost)))
      have hkk : (k : Int) < (n1 : Int) := by have := hMd.kl; omega
      have hk0 : (0 : Int) ≤ (k : Int) := by omega
      clear hbd hMd hown hrun hro hrg hrob hgc hln kh0 khb hbh hfin ki0 ki1 hbi htbi kj hpost hkb hask
      refine wp_region_U (fun W => W.cell? ⟨w.heap.size, 0, none⟩ = some (.slice (some ⟨g, 0, none⟩) n1 c1) ∧ W.cell? ⟨b, 2, none⟩ = some (.slice qa qn qc)) [12] (by kernel_rfl) ?_
      refine wpAnyU_take (i := 0) [1, 10, 11, 12] rfl (by as_aux_lemma => kernel_rfl) (by as_aux_lemma => kernel_rfl) (by as_aux_lemma => kernel_rfl) (by as_aux_lemma => kernel_rfl) (by as_aux_lemma => kernel_rfl) (by as_aux_lemma => kernel_rfl) (fun _ _ _ h => h) (Or.inl ⟨by rfl, (by intro W hSW; (try dsimp only at hSW); (try go_split_ands); go_simp <;> with_reducible rfl)⟩) hS0 ?_
      try simp only [Act.put, List.getElem_toArray, List.getElem_cons_succ, List.getElem_cons_zero, List.setIfInBounds_toArray, List.set_cons_zero, List.set_cons_succ]
      refine wpAnyU_take (i := 1) [10, 11, 12] rfl (by as_aux_lemma => kernel_rfl) (by as_aux_lemma => kernel_rfl) (by as_aux_lemma => kernel_rfl) (by as_aux_lemma => kernel_rfl) (by as_aux_lemma => kernel_rfl) (by as_aux_lemma => kernel_rfl) (fun _ _ _ h => h) (Or.inl ⟨by rfl, (by intro W hSW; (try dsimp only at hSW); (try go_split_ands); go_simp <;> with_reducible rfl)⟩) hS0 ?_
      try simp only [Act.put, List.getElem_toArray, List.getElem_cons_succ, List.getElem_cons_zero, List.setIfInBounds_toArray, List.set_cons_zero, List.set_cons_succ]
      refine wpAnyU_take (i := 2) [10, 11, 12] rfl (by as_aux_lemma => kernel_rfl) (by as_aux_lemma => kernel_rfl) (by as_aux_lemma => kernel_rfl) (by as_aux_lemma => kernel_rfl) (by as_aux_lemma => kernel_rfl) (by as_aux_lemma => kernel_rfl) (fun _ _ _ h => h) (Or.inl ⟨by rfl, (by intro W hSW; (try dsimp only at hSW); (try go_split_ands); go_simp <;> with_reducible rfl)⟩) hS0 ?_
      try simp only [Act.put, List.getElem_toArray, List.getElem_cons_succ, List.getElem_cons_zero, List.setIfInBounds_toArray, List.set_cons_zero, List.set_cons_succ]
      refine wpAnyU_take (i := 3) [4, 9, 10, 11, 12] rfl (by as_aux_lemma => kernel_rfl) (by as_aux_lemma => kernel_rfl) (by as_aux_lemma => kernel_rfl) (by as_aux_lemma => kernel_rfl) (by as_aux_lemma => kernel_rfl) (by as_aux_lemma => kernel_rfl) (fun _ _ _ h => h) (Or.inl ⟨by rfl, (by intro W hSW; (try dsimp only at hSW); (try go_split_ands); go_simp <;> with_reducible rfl)⟩) hS0 ?_
      try simp only [Act.put, List.getElem_toArray, List.getElem_cons_succ, List.getElem_cons_zero, List.setIfInBounds_toArray, List.set_cons_zero, List.set_cons_succ]
      refine wpAnyU_take (i := 4) [9, 10, 11, 12] rfl (by as_aux_lemma => kernel_rfl) (by as_aux_lemma => kernel_rfl) (by as_aux_lemma => kernel_rfl) (by as_aux_lemma => kernel_rfl) (by as_aux_lemma => kernel_rfl) (by as_aux_lemma => kernel_rfl) (fun _ _ _ h => h) (Or.inl ⟨by rfl, (by intro W hSW; (try dsimp only at hSW); (try go_split_ands); go_simp <;> with_reducible rfl)⟩) hS0 ?_
      try simp only [Act.put, List.getElem_toArray, List.getElem_cons_succ, List.getElem_cons_zero, List.setIfInBounds_toArray, List.set_cons_zero, List.set_cons_succ]
      refine wpAnyU_take (i := 5) [7, 8, 9, 10, 11, 12] rfl (by as_aux_lemma => kernel_rfl) (by as_aux_lemma => kernel_rfl) (by as_aux_lemma => kernel_rfl) (by as_aux_lemma => kernel_rfl) (by as_aux_lemma => kernel_rfl) (by as_aux_lemma => kernel_rfl) (fun _ _ _ h => h) (Or.inl ⟨by rfl, (by intro W hSW; (try dsimp only at hSW); (try go_split_ands); go_simp <;> with_reducible rfl)⟩) hS0 ?_
      try simp only [Act.put, List.getElem_toArray, List.getElem_cons_succ, List.getElem_cons_zero, List.setIfInBounds_toArray, List.set_cons_zero, List.set_cons_succ]
      refine wpAnyU_take (i := 6) [7, 8, 9, 10, 11, 12] rfl (by as_aux_lemma => kernel_rfl) (by as_aux_lemma => kernel_rfl) (by as_aux_lemma => kernel_rfl) (by as_aux_lemma => kernel_rfl) (by as_aux_lemma => kernel_rfl) (by as_aux_lemma => kernel_rfl) (fun _ _ _ h => h) (Or.inl ⟨by rfl, (by intro W hSW; (try dsimp only at hSW); (try go_split_ands); go_simp <;> with_reducible rfl)⟩) hS0 ?_
      try simp only [Act.put, List.getElem_toArray, List.getElem_cons_succ, List.getElem_cons_zero, List.setIfInBounds_toArray, List.set_cons_zero, List.set_cons_succ]
      refine wpAnyU_take (i := 7) [8, 9, 10, 11, 12] rfl (by as_aux_lemma => kernel_rfl) (by as_aux_lemma => kernel_rfl) (by as_aux_lemma => kernel_rfl) (by as_aux_lemma => kernel_rfl) (by as_aux_lemma => kernel_rfl) (by as_aux_lemma => kernel_rfl) (fun _ _ _ h => h) (Or.inl ⟨by rfl, (by intro W hSW; (try dsimp only at hSW); (try go_split_ands); go_simp <;> with_reducible rfl)⟩) hS0 ?_
      try simp only [Act.put, List.getElem_toArray, List.getElem_cons_succ, List.getElem_cons_zero, List.setIfInBounds_toArray, List.set_cons_zero, List.set_cons_succ]
      refine wpAnyU_one (i := 8) (by kernel_rfl) rfl (fun K hK => ?_)
      go_simp
      refine hK.out _ _ (fun _ => hSa) (fun _ => ?_)
      clear hK K
      try simp only [Act.put, List.getElem_toArray, List.getElem_cons_succ, List.getElem_cons_zero, List.setIfInBounds_toArray, List.set_cons_zero, List.set_cons_succ]
      refine wpAnyU_one (i := 9) (by kernel_rfl) rfl (fun K hK => ?_)
      refine step_append_eq14 rfl rfl HR9.out rfl rfl ?_
      refine hK.out _ _ (fun _ => hSh) (fun _ => ?_)
      clear hK K
      try simp only [Act.put, List.getElem_toArray, List.getElem_cons_succ, List.getElem_cons_zero, List.setIfInBounds_toArray, List.set_cons_zero, List.set_cons_succ]
      refine wpAnyU_take (i := 10) [11, 12] rfl (by as_aux_lemma => kernel_rfl) (by as_aux_lemma => kernel_rfl) (by as_aux_lemma => kernel_rfl) (by as_aux_lemma => kernel_rfl) (by as_aux_lemma => kernel_rfl) (by as_aux_lemma => kernel_rfl) (fun _ _ _ h => h) (Or.inl ⟨by rfl, (by intro W hSW; (try dsimp only at hSW); (try go_split_ands); go_simp <;> with_reducible rfl)⟩) hSh ?_
      try simp only [Act.put, List.getElem_toArray, List.getElem_cons_succ, List.getElem_cons_zero, List.setIfInBounds_toArray, List.set_cons_zero, List.set_cons_succ]
      refine wpAnyU_take (i := 11) [12] rfl (by as_aux_lemma => kernel_rfl) (by as_aux_lemma => kernel_rfl) (by as_aux_lemma => kernel_rfl) (by as_aux_lemma => kernel_rfl) (by as_aux_lemma => kernel_rfl) (by as_aux_lemma => kernel_rfl) (fun _ _ _ h => h) (Or.inl ⟨by rfl, (by intro W hSW; (try dsimp only at hSW); (try go_split_ands); go_simp <;> with_reducible rfl)⟩) hSh ?_
      try simp only [Act.put, List.getElem_toArray, List.getElem_cons_succ, List.getElem_cons_zero, List.setIfInBounds_toArray, List.set_cons_zero, List.set_cons_succ]
      refine wpAnyU_one (i := 12) (by kernel_rfl) rfl (fun K hK => ?_)
      go_simp
      refine hK.out _ _ (fun h => absurd h (by decide)) (fun _ => ?_)
      clear hK K
      try simp only [Act.put, List.getElem_toArray, List.getElem_cons_succ, List.getElem_cons_zero, List.setIfInBounds_toArray, List.set_cons_zero, List.set_cons_succ]
      refine wpAnyU_done (by kernel_rfl) ?_ _
      clear hS0 hSa hSh hc9 hf9
      go_wp2_with (first | (refine wpList_load_row rfl _ _ rfl w.heap.size rfl _ _ (0, 0) _ HKI.out.1 Try.underlying51 rfl infoT ?_) | (refine wpList_store_row rfl _ _ _ rfl (w.heap.size + 1) _ rfl rfl _ _ HKI.out.2.1 infoT rfl (by simp [Value.oneCell']) ?_; rw [hwj]))
      exact bodyPost_ret (v := .tuple #[.agg #[.slice (some ⟨g, 0, none⟩) n1 c1], .int .i64 10]) (by simp [results, Try.results24, asAddr, run_loadVar_row wj (w.heap.size + 1) 51 51 _ (0, 0) _ HKI.out.2.2.1 Try.underlying51 rfl infoT]) rfl HKI.out.2.2.2
end Mun
