/- A law's own words on devices and deeds. -/
import Derived.Test.YtmlggofojdhmmaaDiskH
import Derived.Deep.Fields
set_option maxRecDepth 100000
set_option linter.unusedVariables false
namespace Mun
open Go Go.RowKit Go.ChangeShapes Go.WideShapes
open Go.Proofs

structure Deed where
  op : Int
  n : Int
  b : Bytes
  v : Value

def Deed.cells (d : Deed) : List Value := [.int .i64 d.op, .int .i64 d.n, d.v]

/-- a slice of deeds -/
structure DeedsAt (F : Foot) (w : World) (v : Value) (l : List Deed) : Prop where
  row : RdV F w 3 v l.length (l.flatMap Deed.cells)
  rd : ∀ d ∈ l, RdB F w d.v d.b
  lo : ∀ d ∈ l, -9223372036854775808 ≤ d.n
  hi : ∀ d ∈ l, d.n ≤ 9223372036854775807

theorem deeds_length (l : List Deed) : (l.flatMap Deed.cells).length = l.length * 3 := by
  induction l with
  | nil => rfl
  | cons a l ih => simp only [List.flatMap_cons, List.length_append, ih, Deed.cells, List.length_cons, List.length_nil]; omega

theorem deeds_get (l : List Deed) (i j : Nat) (h : i < l.length) (hj : j < 3) : (l.flatMap Deed.cells)[i * 3 + j]? = (l[i].cells)[j]? := by
  induction l generalizing i with
  | nil => simp at h
  | cons a l ih =>
    cases i with
    | zero =>
      rw [List.flatMap_cons, List.getElem?_append_left (by simp [Deed.cells]; omega)]
      simp
    | succ i =>
      rw [List.flatMap_cons, List.getElem?_append_right (by simp [Deed.cells]; omega)]
      have : (i + 1) * 3 + j - (Deed.cells a).length = i * 3 + j := by simp [Deed.cells]; omega
      rw [this, ih i (by simpa using h)]
      simp

/-- a row of whatever size, from its cells -/
theorem rdV_of_cells {F : Foot} {w : World} {x : Addr} {len cap size : Nat} {xs : List Value} (hl : xs.length = len * size) (hs : 0 < size) (hlc : len ≤ cap) (hcm : cap ≤ maxLen) (hF : ¬ F x.block)
    (hc : ∀ i (hi : i < xs.length), w.cell? (x.add i) = some xs[i]) : RdV F w size (.slice (some x) len cap) len xs := by
  refine ⟨hl, _, _, rfl, hlc, hcm, by simp, fun hn => ?_⟩
  have hpos : 0 < xs.length := by rw [hl]; exact Nat.mul_pos hn hs
  have h0 := hc 0 hpos
  rw [show x.add 0 = x by simp [Addr.add]] at h0
  obtain ⟨hs', cur, e, fr, hh, _⟩ := cell_block h0
  obtain ⟨g, off, spot⟩ := x
  simp only at hs' hh hF
  subst hs'
  refine ⟨g, off, cur, e, fr, rfl, hF, hh, ?_⟩
  apply List.ext_getElem?
  intro i
  rw [List.getElem?_take]
  by_cases hi : i < xs.length
  · rw [if_pos (by omega), List.getElem?_drop, List.getElem?_eq_getElem hi]
    have h := hc i hi
    rw [addr_add, cell_of_row w g (off + i) cur e fr hh] at h
    simpa using h
  · rw [if_neg (by omega), List.getElem?_eq_none (by omega)]

section
variable {H : Type} {enc : TypeId × Value → H}

/-- bytes that lie in a cell -/
theorem open_bytes_cell {w : World} {base fuel : Nat} {spare : Nat → Bool} {held : Bool} {v : Value} {x : DataW H × List MemPlace} (h : DataW.trod enc Try.prog w base spare held fuel 28 [v] = some x) :
    ∃ l : List UInt8, RdB NoF w v l := by
  rcases open_ints Try.underlying28 Try.underlying5 (by kernel_rfl) h with ⟨hcs, hx⟩ | ⟨x, len, c, zs, hcs, _, hl, hm, hz, hx, hcell, hwz⟩
  · obtain rfl : v = .slice none 0 0 := by simpa using hcs
    exact ⟨[], RdB.nil _ _⟩
  · obtain rfl : v = .slice (some x) len c := by simpa using hcs
    have hlen : len ≤ zs.length := by rw [hz]; split <;> omega
    refine ⟨(zs.take len).map fun n => UInt8.ofNat n.toNat, rd_of_cells (by simp; omega) hl hm (noF _) (fun i hi => ?_)⟩
    have hi' : i < zs.length := by simp at hi; omega
    rw [hcell i hi']
    have hw := hwz (zs.getD i 0) (by rw [List.getD_eq_getElem?_getD, List.getElem?_eq_getElem hi']; exact List.getElem_mem hi')
    have hb := bounds_u8 hw
    simp only [List.getElem_map, List.getElem_take, UInt8.toNat_ofNat']
    rw [List.getD_eq_getElem?_getD, List.getElem?_eq_getElem hi'] at hb ⊢
    simp only [Option.getD_some] at hb ⊢
    congr 2
    omega

theorem list_of_fun {α : Type} {n : Nat} {P : Nat → α → Prop} (h : ∀ i, i < n → ∃ x, P i x) : ∃ l : List α, l.length = n ∧ ∀ i (hi : i < l.length), P i l[i] := by
  induction n with
  | zero => exact ⟨[], rfl, fun i hi => absurd hi (Nat.not_lt_zero _)⟩
  | succ n ih =>
    obtain ⟨l, hl, hP⟩ := ih (fun i hi => h i (by omega))
    obtain ⟨x, hx⟩ := h n (by omega)
    refine ⟨l ++ [x], by simp [hl], fun i hi => ?_⟩
    by_cases hin : i < l.length
    · rw [List.getElem_append_left hin]; exact hP i hin
    · have : i = n := by simp [hl] at hi; omega
      subst this
      rw [List.getElem_append_right (by omega)]
      simpa [hl] using hx

theorem open_deeds {w : World} {r : Reach} {b0 base : Nat} {spare : Nat → Bool} {held : Bool} {v : Value} {d : DataW H} {p : List MemPlace}
    (hv : Value.okWide Try.prog w r b0 40 v) (h : DataW.Trod enc Try.prog w base spare held 40 v d p) :
    ∃ l : List Deed, DeedsAt NoF w v l ∧ ((d = .nil ∧ l = []) ∨ ∃ el sp, d = .slice el sp ∧ l.length ≤ el.length + sp.length) := by
  obtain ⟨a0, len0, cap0, rfl⟩ := okWide_slice Try.underlying40 hv
  obtain ⟨fuel, hf⟩ := h
  rcases Deep.open_slice Try.underlying40 hf with ⟨hcs, hx⟩ | ⟨x, len, c, m, n, D, Pl, hcs, _, hl, hm, hmm, hx, hi⟩
  · simp [Value.cells] at hcs
    obtain ⟨rfl, rfl, rfl⟩ := hcs
    simp only [Prod.mk.injEq] at hx
    exact ⟨[], ⟨RdV.nil _ _ _, by simp, by simp, by simp⟩, .inl ⟨hx.1, rfl⟩⟩
  · simp [Value.cells] at hcs
    obtain ⟨rfl, rfl, rfl⟩ := hcs
    simp only [Prod.mk.injEq] at hx
    have hC : Try.prog.cellsOf 42 = 3 := by kernel_rfl
    rw [hC] at hi
    have hlm : len0 ≤ m := by rw [hmm]; split <;> omega
    have hel : ∀ i, i < len0 → ∃ e : Deed, (∀ j (hj : j < 3), w.cell? (x.add (i * 3 + j)) = e.cells[j]?) ∧ RdB NoF w e.v e.b ∧ -9223372036854775808 ≤ e.n ∧ e.n ≤ 9223372036854775807 := by
      intro i hi0
      obtain ⟨cs', hc, ht'⟩ := hi i (by omega)
      obtain ⟨xs, n', _, _, _, hlen, hf'⟩ := DataW.trod_struct Try.underlying42 ht'
      obtain ⟨_, hcl, hat⟩ := World.cells?_some hc
      match cs', hcl with
      | [c0, c1, c2], _ =>
        have e0 : Try.prog.cellsOf 3 = 1 := by kernel_rfl
        have e2 : Try.prog.cellsOf 28 = 1 := by kernel_rfl
        have f0 : DataW.trod enc Try.prog w base spare held n' 3 (([c0, c1, c2].drop 0).take (Try.prog.cellsOf 3)) = xs[0]? := hf' 0 _ rfl
        have f1 : DataW.trod enc Try.prog w base spare held n' 3 (([c0, c1, c2].drop 1).take (Try.prog.cellsOf 3)) = xs[1]? := hf' 1 _ rfl
        have f2 : DataW.trod enc Try.prog w base spare held n' 28 (([c0, c1, c2].drop 2).take (Try.prog.cellsOf 28)) = xs[2]? := hf' 2 _ rfl
        rw [e0] at f0 f1
        rw [e2] at f2
        have hlen3 : xs.length = 3 := hlen
        rw [List.getElem?_eq_getElem (by omega)] at f0 f1 f2
        obtain ⟨z0, h0, _, hw0⟩ := DataW.trod_int Try.underlying3 f0
        obtain ⟨z1, h1, _, hw1⟩ := DataW.trod_int Try.underlying3 f1
        obtain ⟨l2, h2⟩ := open_bytes_cell f2
        obtain rfl : c0 = .int .i64 z0 := by simpa using h0
        obtain rfl : c1 = .int .i64 z1 := by simpa using h1
        have hb := bounds_i64 hw1
        refine ⟨⟨z0, z1, l2, c2⟩, fun j hj => ?_, h2, hb.1, by have := hb.2; omega⟩
        have := hat j hj
        rw [Go.Deep.add_add] at this
        exact this
    obtain ⟨l, hll, hP⟩ := list_of_fun hel
    subst hll
    refine ⟨l, ⟨?_, fun e he => ?_, fun e he => ?_, fun e he => ?_⟩, .inr ⟨_, _, hx.1, by simp⟩⟩
    · refine rdV_of_cells (deeds_length l) (by decide) hl hm (noF _) (fun i hi' => ?_)
      have hi3 : i / 3 < l.length := by rw [deeds_length] at hi'; omega
      have := (hP (i / 3) hi3).1 (i % 3) (Nat.mod_lt _ (by decide))
      have e : i / 3 * 3 + i % 3 = i := by omega
      rw [e] at this
      rw [this, ← deeds_get l (i / 3) (i % 3) hi3 (Nat.mod_lt _ (by decide)), e, List.getElem?_eq_getElem hi']
    · obtain ⟨i, hi', rfl⟩ := List.getElem_of_mem he
      exact (hP i hi').2.1
    · obtain ⟨i, hi', rfl⟩ := List.getElem_of_mem he
      exact (hP i hi').2.2.1
    · obtain ⟨i, hi', rfl⟩ := List.getElem_of_mem he
      exact (hP i hi').2.2.2

theorem deeds_reach {ts : List TypeId} {ds : List (DataW H)} {j : Nat} {d : DataW H} {l : List Deed} (hsz : (DataW.weightsEach Try.prog ts ds).all (· ≤ reachBytes) = true)
    (htj : ts[j]? = some 40) (hdj : ds[j]? = some d)
    (h : (d = .nil ∧ l = []) ∨ ∃ el sp, d = .slice el sp ∧ l.length ≤ el.length + sp.length) : l.length ≤ 3518437208882 := by
  rcases h with ⟨_, rfl⟩ | ⟨el, sp, rfl, hl⟩
  · simp
  · have := sized_slice hsz htj hdj Try.underlying40
    have hb : Try.prog.bytesOf 42 = 40 := by kernel_rfl
    rw [hb] at this
    simp only [reachBytes] at this
    omega
end

section
variable {F F' : Foot} {w w' : World} {v : Value} {l : List Deed}

theorem DeedsAt.keep (h : DeedsAt F w v l) (hk : ∀ k, k < w.heap.size → ¬ F k → w'.heap[k]? = w.heap[k]?) (hF : ∀ k, k < w.heap.size → F' k → F k) : DeedsAt F' w' v l :=
  ⟨h.row.keep hk hF, fun d hd => RdV.keep (h.rd d hd) hk hF, h.lo, h.hi⟩
theorem DeedsAt.chg (h : DeedsAt F w v l) (hc : Chg F F' w w') : DeedsAt F' w' v l := ⟨h.row.chg hc, fun d hd => (h.rd d hd).chg hc, h.lo, h.hi⟩
theorem DeedsAt.drewN (h : DeedsAt F w v l) (k : Nat) : DeedsAt F (w.drewN k) v l := ⟨h.row, h.rd, h.lo, h.hi⟩

/-- a deed's cells -/
theorem DeedsAt.at_ (h : DeedsAt F w v l) (i : Nat) (hi : i < l.length) : ∃ g off c, v = .slice (some ⟨g, off, none⟩) l.length c ∧ l.length ≤ c ∧ c ≤ maxLen ∧
    w.cell? ⟨g, off + i * 3, none⟩ = some (.int .i64 l[i].op) ∧ w.cell? ⟨g, off + i * 3 + 1, none⟩ = some (.int .i64 l[i].n) ∧ w.cell? ⟨g, off + i * 3 + 2, none⟩ = some l[i].v := by
  obtain ⟨g, off, c, hv, h1, h2, _, _, hc⟩ := h.row.at_ (by omega)
  refine ⟨g, off, c, hv, h1, h2, ?_, ?_, ?_⟩
  · have := hc (i * 3 + 0) _ (by rw [deeds_get l i 0 hi (by decide)]; rfl)
    exact this
  · have := hc (i * 3 + 1) _ (by rw [deeds_get l i 1 hi (by decide)]; rfl)
    rwa [← Nat.add_assoc] at this
  · have := hc (i * 3 + 2) _ (by rw [deeds_get l i 2 hi (by decide)]; rfl)
    rwa [← Nat.add_assoc] at this
end

/-- a law at work on a device of its own: W0 is the world at its beginning -/
structure LawAt (W0 w : World) (D : Nat) (E F : Foot) (m : DM) : Prop where
  disk : DiskAt w D E F m
  below : Below W0.heap.size W0 w
  own : ∀ k, F k → W0.heap.size ≤ k

section
variable {W0 w w' : World} {D : Nat} {E F F' : Foot} {m m' : DM}

theorem LawAt.chg (h : LawAt W0 w D E F m) (hd : DiskAt w' D E F' m') (hc : Chg F F' w w') : LawAt W0 w' D E F' m' :=
  ⟨hd, h.below.trans (hc.below h.below.size (fun k hk hF => by have := h.own k hF; omega)), fun k hk => by
    rcases hc.foot k hk with h1 | h1
    · exact h.own k h1
    · have := h.below.size; omega⟩
theorem LawAt.drewN (h : LawAt W0 w D E F m) (k : Nat) : LawAt W0 (w.drewN k) D E F m := ⟨h.disk.drewN k, below_drewN h.below k, h.own⟩
theorem LawAt.more (h : LawAt W0 w D E F m) (o : Obj) : LawAt W0 (w.alloc o) D E F m :=
  ⟨h.disk.below ((Below.refl _ _).alloc (Nat.le_refl _) o), below_more h.below o, h.own⟩
theorem LawAt.grow (h : LawAt W0 w D E F m) (hb : Below w.heap.size w w') : LawAt W0 w' D E F m := ⟨h.disk.below hb, h.below.trans (hb.mono h.below.size), h.own⟩
theorem LawAt.new (hb : Below W0.heap.size W0 w) (pages room : Nat) {E : Foot} (hE : ∀ k, E k → k < w.heap.size) (h1 : pages ≤ 65536) (h2 : room ≤ 16777216) : LawAt W0 (newWorld w pages room) (w.heap.size + 2) E (newFoot w) (DM.new pages room) :=
  ⟨new_disk w pages room hE h1 h2, by unfold newWorld; exact below_more (below_more (below_more hb _) _) _, fun k hk => by
    have := hb.size
    unfold newFoot at hk
    omega⟩
theorem LawAt.rd (h : LawAt W0 w D E F m) {size n : Nat} {v : Value} {xs : List Value} (hr : RdV NoF W0 size v n xs) : RdV F w size v n xs :=
  hr.keep (fun k hk _ => h.below.block k hk) (fun k hk hF => by have := h.own k hF; omega)
theorem LawAt.rdB (h : LawAt W0 w D E F m) {v : Value} {b : Bytes} (hr : RdB NoF W0 v b) : RdB F w v b := h.rd hr
theorem LawAt.deeds (h : LawAt W0 w D E F m) {v : Value} {l : List Deed} (hr : DeedsAt NoF W0 v l) : DeedsAt F w v l :=
  hr.keep (fun k hk _ => h.below.block k hk) (fun k hk hF => by have := h.own k hF; omega)
theorem LawAt.lt (h : LawAt W0 w D E F m) (k : Nat) (hk : F k) : k < w.heap.size := h.disk.foot_lt k hk

theorem LawAt.chgE {E' : Foot} (h : LawAt W0 w D E F m) (hc : Chg E E' w w') (hE : ∀ k, E k → W0.heap.size ≤ k) : LawAt W0 w' D E' F m :=
  ⟨h.disk.chgE hc, h.below.trans (hc.below h.below.size (fun k hk hF => by have := hE k hF; omega)), h.own⟩
theorem LawAt.growE {E' : Foot} (h : LawAt W0 w D E F m) (hb : Below w.heap.size w w') (hE : ∀ k, E' k → E k ∨ (w.heap.size ≤ k ∧ k < w'.heap.size)) : LawAt W0 w' D E' F m :=
  ⟨h.disk.grow hb hE, h.below.trans (hb.mono h.below.size), h.own⟩
theorem rdU_F {size n : Nat} {v : Value} {xs : List Value} (h : RdV (fun k => F k ∨ E k) w size v n xs) (hc : Chg F F' w w') : RdV (fun k => F' k ∨ E k) w' size v n xs :=
  h.keep (fun k h1 h2 => hc.block k h1 (fun e => h2 (.inl e))) (fun k h1 h2 => h2.imp (fun h3 => (hc.foot k h3).elim id (fun h4 => by omega)) id)
theorem rdU_E {E' : Foot} {size n : Nat} {v : Value} {xs : List Value} (h : RdV (fun k => F k ∨ E k) w size v n xs) (hc : Chg E E' w w') : RdV (fun k => F k ∨ E' k) w' size v n xs :=
  h.keep (fun k h1 h2 => hc.block k h1 (fun e => h2 (.inr e))) (fun k h1 h2 => h2.imp id (fun h3 => (hc.foot k h3).elim id (fun h4 => by omega)))

/-- the four ways of an operation -/
theorem ask_cases (m : DM) (op n : Int) (b : Bytes) :
    (m.dead = true ∧ m.ask op n b = (m, 9)) ∨ (m.dead = false ∧ ((m.ask op n b) = (m, 1) ∨ (m.ask op n b) = (m, 7))) ∨
    (m.dead = false ∧ m.fuse = 0 ∧ (m.ask op n b).2 = 9 ∧ (m.ask op n b).1.dead = true ∧ (m.ask op n b).1.ops = m.ops ∧ (m.ask op n b).1.fuse = m.fuse) ∨
    (m.dead = false ∧ m.fuse ≠ 0 ∧ (m.ask op n b).2 = 0 ∧ (m.ask op n b).1.dead = false ∧ (m.ask op n b).1.ops = m.ops + 1 ∧ (m.ask op n b).1.fuse = if 0 < m.fuse then m.fuse - 1 else m.fuse) := by
  cases hd : m.dead with
  | true =>
    refine .inl ⟨rfl, ?_⟩
    unfold DM.ask DM.write DM.sync DM.append DM.force DM.cut DM.trim DM.setMark
    simp [hd]
  | false =>
    refine .inr ?_
    by_cases hf : m.fuse = 0
    · have e : m.spend = { m with dead := true } := by unfold DM.spend; rw [if_pos hf]
      unfold DM.ask DM.write DM.sync DM.append DM.force DM.cut DM.trim DM.setMark
      simp only [hd, hf, e, if_true]
      repeat' split
      all_goals simp_all
    · have e : m.spend = { m with fuse := if 0 < m.fuse then m.fuse - 1 else m.fuse, ops := m.ops + 1 } := by unfold DM.spend; rw [if_neg hf]
      unfold DM.ask DM.write DM.sync DM.append DM.force DM.cut DM.trim DM.setMark
      simp only [hd, hf, e, if_false]
      repeat' split
      all_goals simp_all
end
end Mun
