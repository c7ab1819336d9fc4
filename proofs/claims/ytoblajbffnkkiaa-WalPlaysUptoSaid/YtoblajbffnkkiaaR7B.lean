/- The reference of chapter 7: what lies there within Body. -/
import Derived.Test.YtoblajbffnkkiaaR7N
set_option maxRecDepth 100000
set_option linter.unusedVariables false
set_option linter.unusedSimpArgs false
namespace Mun
open Go Go.RowKit
open Go.Proofs

theorem chB_ge (c : PC) : 4 + c.b.length ≤ (chB c).length := by
  have h1 := vi_pos c.page.toNat
  have h2 := vi_pos c.at_.toNat
  have h3 := vi_pos c.b.length
  simp only [chB, txt, List.length_append, List.length_cons, List.length_nil]
  omega
theorem chs_ge (l : List PC) : l.length + (l.map szC).sum ≤ 3 * (l.flatMap chB).length := by
  induction l with
  | nil => simp
  | cons a l ih =>
    have := chB_ge a
    simp only [List.flatMap_cons, List.length_append, List.map_cons, List.sum_cons, List.length_cons, szC] at ih ⊢
    omega
theorem szR_body (r : PR) : szR r ≤ 3 * (bodyR r).length := by
  have h1 := chs_ge r.cs
  simp only [szR, bodyR, txt, List.length_append] at h1 ⊢
  omega
theorem body_drop1 (r : PR) : (bodyR r).drop 1 = vi r.tx ++ (vi r.prev ++ (vi r.next ++ (txt r.data ++ (vi r.cs.length ++ r.cs.flatMap chB)))) := by
  simp [bodyR, headR, List.append_assoc]
theorem body_hd (r : PR) : ∃ h : 0 < (bodyR r).length, (bodyR r)[0] = UInt8.ofNat r.kind.toNat := by
  have := bodyR_pos r
  refine ⟨by omega, ?_⟩
  simp [bodyR, headR]
theorem drop_more {l : List UInt8} {q : Nat} {a b : List UInt8} (h : l.drop q = a ++ b) : l.drop (q + a.length) = b := by
  rw [← List.drop_drop, h, List.drop_left' rfl]

def Bd7Yes (w : World) (r : PR) (nx : Nat) (e : Ending) (w' : World) : Prop := ∃ x, e = .returned (.tuple #[rval r x, .int .i64 nx, .bool true]) ∧ RecAt (OldF w.heap.size) w' r x ∧ Below w.heap.size w w'

/-- within Body: the record's box, the cursor's -/
structure BdR (w wr : World) (sv : Value) (A : Nat) (rc : Array Value) : Prop where
  bl : Below w.heap.size w wr
  k6 : wr.heap[w.heap.size]? = some (.cells noCs 26 (0, 0))
  k11 : wr.heap[w.heap.size + 1 + 1]? = some (.cells (curC sv A) 123 (0, 0))
  k12 : wr.heap[w.heap.size + 1 + 1 + 1]? = some (.cells rc 26 (0, 0))
section
variable {w wr w' : World} {sv : Value} {A : Nat} {rc : Array Value}
theorem BdR.call (h : BdR w wr sv A rc) (hb : Below wr.heap.size wr w') : BdR w w' sv A rc :=
  ⟨h.bl.trans (hb.mono h.bl.size), (hb.block _ (lt_of_block h.k6)).trans h.k6, (hb.block _ (lt_of_block h.k11)).trans h.k11, (hb.block _ (lt_of_block h.k12)).trans h.k12⟩
theorem BdR.put (h : BdR w wr sv A rc) (j : Nat) (u : Value) : BdR w (wr.setCell ⟨w.heap.size + 1 + 1 + 1, j, none⟩ u) sv A (rc.setIfInBounds j u) := by
  have ho : ∀ k, k ≠ w.heap.size + 1 + 1 + 1 → (wr.setCell ⟨w.heap.size + 1 + 1 + 1, j, none⟩ u).heap[k]? = wr.heap[k]? := fun k hk => setCell_heap _ _ _ _ hk
  exact ⟨⟨h.bl.os, h.bl.tape, h.bl.output, by rw [setCell_size]; exact h.bl.size, fun k hk => (ho k (by omega)).trans (h.bl.block k hk)⟩, (ho _ (by omega)).trans h.k6, (ho _ (by omega)).trans h.k11, setCell_blk h.k12 _⟩
theorem BdR.cur (h : BdR w wr sv A rc) (A' : Nat) : BdR w (wr.setRow (w.heap.size + 1 + 1) (curC sv A')) sv A' rc := by
  have ho : ∀ k, k ≠ w.heap.size + 1 + 1 → (wr.setRow (w.heap.size + 1 + 1) (curC sv A')).heap[k]? = wr.heap[k]? := fun k hk => setRow_other hk
  exact ⟨⟨h.bl.os, h.bl.tape, h.bl.output, by rw [setRow_size]; exact h.bl.size, fun k hk => (ho k (by omega)).trans (h.bl.block k hk)⟩, (ho _ (by omega)).trans h.k6, setRow_heap _ _ _ _ _ _ h.k11, (ho _ (by omega)).trans h.k12⟩
theorem BdR.chg {A' : Nat} {u : Value} {j : Nat} (h : BdR w wr sv A rc) (k : Nat) (hk : w.heap.size + 1 + 1 + 1 < k) : ((wr.setCell ⟨w.heap.size + 1 + 1 + 1, j, none⟩ u).setRow (w.heap.size + 1 + 1) (curC sv A')).heap[k]? = wr.heap[k]? := by
  rw [setRow_other (by omega), setCell_heap _ _ _ _ (by show k ≠ w.heap.size + 1 + 1 + 1; omega)]
end


/-- a change laid behind a row of changes, whatever its bytes' value -/
theorem push_changeV {w : World} {B : Nat} {ty : TypeId} {v bv : Value} {us : List CV} {c : PC} (hbv : bv.oneCell' = true) (h : w.ownsRow B 81 4 v us.length (us.flatMap crow1)) (hB : B ≤ w.heap.size) (hl : us.length < 4194304) :
    ∃ R cp w', (Builtin.append_ #[24, 24] ty #[v, .slice (some ⟨w.heap.size, 0, none⟩) 1 1]).run Try.prog (w.alloc (.cells #[.int .i64 c.page, .int .i64 c.at_, .bool c.whole, bv] 81)) = .ok (.slice (some ⟨R, 0, none⟩) (us.length + 1) cp) w' ∧
      w'.ownsRow B 81 4 (.slice (some ⟨R, 0, none⟩) (us.length + 1) cp) (us.length + 1) ((us ++ [(c, bv)]).flatMap crow1) ∧
      (w.alloc (.cells #[.int .i64 c.page, .int .i64 c.at_, .bool c.whole, bv] 81)).grownBy w' v.ownBlock ∧ (v.ownBlock = some R ∨ w.heap.size < R) ∧ R < w'.heap.size := by
  obtain ⟨i, hi, hz, h1, h2⟩ := info_of infoC3
  have hsrc : RdV (fun _ => False) (w.alloc (.cells #[.int .i64 c.page, .int .i64 c.at_, .bool c.whole, bv] 81)) 4 (.slice (some ⟨w.heap.size, 0, none⟩) 1 1) 1 (crow1 (c, bv)) :=
    ⟨rfl, _, _, rfl, Nat.le_refl _, by unfold maxLen; omega, by simp, fun _ => ⟨w.heap.size, 0, _, _, (0, 0), rfl, fun h => h, heap_alloc_new w _, rfl⟩⟩
  obtain ⟨v', w', hr, ho, hg, hob, hnil⟩ := run_append_rd (P := Try.prog) (base := B) (ty := ty) Try.underlying24 hi hz h1 h2 rfl (by decide) (World.ownsRow.alloc h _) hsrc
    (by intro u hu; simp only [crow1, List.mem_cons, List.not_mem_nil, or_false] at hu; rcases hu with rfl | rfl | rfl | rfl <;> first | rfl | exact hbv) (by omega) (by omega) (by simp; omega)
  have hfm : (us ++ [(c, bv)]).flatMap crow1 = us.flatMap crow1 ++ crow1 (c, bv) := by simp
  rcases ho.2 with ⟨rfl, h0⟩ | ⟨R, cp, cur, rfl, hb, hR, hrest⟩
  · exact absurd (hnil.1 rfl).2 (by omega)
  · refine ⟨R, cp, w', hr, by rw [hfm]; exact ho, hg, ?_, lt_of_block hR⟩
    rcases hob with h3 | h3
    · exact .inl h3.symm
    · simp [Value.ownBlock] at h3; exact .inr (by omega)

/-- within Body's loop: the record's data and changes so far -/
structure BdL (w wr : World) (sv : Value) (A : Nat) (r : PR) (dv v : Value) (us : List CV) : Prop where
  bx : BdR w wr sv A (rcs r dv v)
  row : wr.ownsRow w.heap.size 81 4 v us.length (us.flatMap crow1)
  els : ∀ p ∈ us, OwnB wr w.heap.size 5 p.2 p.1.b
  dat : OwnB wr w.heap.size 5 dv r.data
section
variable {w wr w' : World} {sv dv v : Value} {A : Nat} {r : PR} {us : List CV}
theorem BdL.call (h : BdL w wr sv A r dv v us) (hb : Below wr.heap.size wr w') : BdL w w' sv A r dv v us :=
  ⟨h.bx.call hb, ownsRow_keep h.row (fun k e => hb.block k (h.row.lt k e).2), fun p hp => ownB_same (h.els p hp) (fun k e => hb.block k ((h.els p hp).lt k e).2), ownB_same h.dat (fun k e => hb.block k (h.dat.lt k e).2)⟩
/-- the cursor turned -/
theorem BdL.cur (h : BdL w wr sv A r dv v us) (A' : Nat) : BdL w (wr.setRow (w.heap.size + 1 + 1) (curC sv A')) sv A' r dv v us := by
  have ho : ∀ k, k ≠ w.heap.size + 1 + 1 → (wr.setRow (w.heap.size + 1 + 1) (curC sv A')).heap[k]? = wr.heap[k]? := fun k hk => setRow_other hk
  refine ⟨h.bx.cur A', ownsRow_keep h.row (fun k e => ho k (fun e2 => ?_)), fun p hp => ownB_same (h.els p hp) (fun k e => ho k (fun e2 => ?_)), ownB_same h.dat (fun k e => ho k (fun e2 => ?_))⟩
  · subst e2
    obtain ⟨cur, hc⟩ := ownsRow_blk h.row e
    exact blk_ne h.bx.k11 hc (by decide) rfl
  · subst e2; exact ownB_ne (h.els p hp) h.bx.k11 (by decide) e
  · subst e2; exact ownB_ne h.dat h.bx.k11 (by decide) e
/-- the cursor's place alone turned -/
theorem BdL.at1 (h : BdL w wr sv A r dv v us) : BdL w (wr.setCell ⟨w.heap.size + 1 + 1, 1, none⟩ (.int .i64 (A + 1 : Nat))) sv (A + 1) r dv v us := by
  have ho : ∀ k, k ≠ w.heap.size + 1 + 1 → (wr.setCell ⟨w.heap.size + 1 + 1, 1, none⟩ (.int .i64 (A + 1 : Nat))).heap[k]? = wr.heap[k]? := fun k hk => setCell_heap _ _ _ _ hk
  have hbx : BdR w (wr.setCell ⟨w.heap.size + 1 + 1, 1, none⟩ (.int .i64 (A + 1 : Nat))) sv (A + 1) (rcs r dv v) :=
    ⟨⟨h.bx.bl.os, h.bx.bl.tape, h.bx.bl.output, by rw [setCell_size]; exact h.bx.bl.size, fun k hk => (ho k (by omega)).trans (h.bx.bl.block k hk)⟩, (ho _ (by omega)).trans h.bx.k6, setCell_blk h.bx.k11 _, (ho _ (by omega)).trans h.bx.k12⟩
  refine ⟨hbx, ownsRow_keep h.row (fun k e => ho k (fun e2 => ?_)), fun p hp => ownB_same (h.els p hp) (fun k e => ho k (fun e2 => ?_)), ownB_same h.dat (fun k e => ho k (fun e2 => ?_))⟩
  · subst e2
    obtain ⟨cur, hc⟩ := ownsRow_blk h.row e
    exact blk_ne h.bx.k11 hc (by decide) rfl
  · subst e2; exact ownB_ne (h.els p hp) h.bx.k11 (by decide) e
  · subst e2; exact ownB_ne h.dat h.bx.k11 (by decide) e
/-- a block of another's turned: one that is not of the record -/
theorem BdL.chgX (h : BdL w wr sv A r dv v us) {X : Nat} (hX : w.heap.size + 1 + 1 + 1 < X) (hxc : ∀ k, v.ownBlock = some k → k ≠ X) (hxd : ∀ k, dv.ownBlock = some k → k ≠ X) (hxe : ∀ p ∈ us, ∀ k, p.2.ownBlock = some k → k ≠ X)
    (hc : ∀ k, k ≠ X → w'.heap[k]? = wr.heap[k]?) (hs : wr.heap.size ≤ w'.heap.size) (h1 : w'.os = wr.os) (h2 : w'.tape = wr.tape) (h3 : w'.output = wr.output) : BdL w w' sv A r dv v us :=
  ⟨⟨⟨h1.trans h.bx.bl.os, h2.trans h.bx.bl.tape, h3.trans h.bx.bl.output, Nat.le_trans h.bx.bl.size hs, fun k hk => (hc k (by omega)).trans (h.bx.bl.block k hk)⟩, (hc _ (by omega)).trans h.bx.k6, (hc _ (by omega)).trans h.bx.k11, (hc _ (by omega)).trans h.bx.k12⟩,
   ownsRow_keep h.row (fun k e => hc k (hxc k e)), fun p hp => ownB_same (h.els p hp) (fun k e => hc k (hxe p hp k e)), ownB_same h.dat (fun k e => hc k (hxd k e))⟩
/-- a change more -/
theorem BdL.push (h : BdL w wr sv A r dv v us) {c : PC} {bv : Value} {R cp : Nat} (ho : OwnB wr w.heap.size 5 bv c.b)
    (hrow : w'.ownsRow w.heap.size 81 4 (.slice (some ⟨R, 0, none⟩) (us.length + 1) cp) (us.length + 1) ((us ++ [(c, bv)]).flatMap crow1))
    (hg : (wr.alloc (.cells #[.int .i64 c.page, .int .i64 c.at_, .bool c.whole, bv] 81)).grownBy w' v.ownBlock) (hor : v.ownBlock = some R ∨ wr.heap.size < R) (hR : R < w'.heap.size) :
    w'.cell? ⟨w.heap.size + 1 + 1 + 1, 5, none⟩ = some v ∧ w'.frozen? ⟨w.heap.size + 1 + 1 + 1, 5, none⟩ = false ∧ BdL w (w'.setCell ⟨w.heap.size + 1 + 1 + 1, 5, none⟩ (.slice (some ⟨R, 0, none⟩) (us.length + 1) cp)) sv A r dv (.slice (some ⟨R, 0, none⟩) (us.length + 1) cp) (us ++ [(c, bv)]) := by
  have hk : ∀ k, k < wr.heap.size → v.ownBlock ≠ some k → w'.heap[k]? = wr.heap[k]? := fun k h1 h2 => by
    rw [hg.block k (by simp; omega) (fun e => h2 e.symm), heap_alloc_old _ _ h1]
  have hvt : ∀ k, v.ownBlock = some k → ∃ cur, wr.heap[k]? = some (.cells cur 81 (0, 0)) := fun k e => ownsRow_blk h.row e
  have hn : ∀ k cs ty, wr.heap[k]? = some (.cells cs ty (0, 0)) → ty ≠ 81 → v.ownBlock ≠ some k := fun k cs ty h1 h2 e => by
    obtain ⟨cur, hc⟩ := hvt _ e
    exact blk_ne h1 hc h2 rfl
  have hG' : w'.heap[w.heap.size + 1 + 1 + 1]? = some (.cells (rcs r dv v) 26 (0, 0)) := (hk _ (lt_of_block h.bx.k12) (hn _ _ _ h.bx.k12 (by decide))).trans h.bx.k12
  have hsz : wr.heap.size ≤ w'.heap.size := by have := hg.size; simp at this; omega
  have hvw : ∀ k, k < w.heap.size → v.ownBlock ≠ some k := fun k hk e => by have := (h.row.lt k e).1; omega
  have hbx : BdR w w' sv A (rcs r dv v) :=
    ⟨⟨hg.os.trans h.bx.bl.os, hg.tape.trans h.bx.bl.tape, hg.output.trans h.bx.bl.output, Nat.le_trans h.bx.bl.size hsz, fun k h1 => (hk k (Nat.lt_of_lt_of_le h1 h.bx.bl.size) (hvw k h1)).trans (h.bx.bl.block k h1)⟩,
     (hk _ (lt_of_block h.bx.k6) (hn _ _ _ h.bx.k6 (by decide))).trans h.bx.k6, (hk _ (lt_of_block h.bx.k11) (hn _ _ _ h.bx.k11 (by decide))).trans h.bx.k11, hG'⟩
  have hset := hbx.put 5 (.slice (some ⟨R, 0, none⟩) (us.length + 1) cp)
  have hRG : R ≠ w.heap.size + 1 + 1 + 1 := by
    rcases hor with h1 | h1
    · rintro rfl; exact hn _ _ _ h.bx.k12 (by decide) h1
    · have := lt_of_block h.bx.k12; omega
  have ks : ∀ k, k ≠ w.heap.size + 1 + 1 + 1 → (w'.setCell ⟨w.heap.size + 1 + 1 + 1, 5, none⟩ (.slice (some ⟨R, 0, none⟩) (us.length + 1) cp)).heap[k]? = w'.heap[k]? := fun k h1 => block_setCell_ne _ h1
  have hold : ∀ q : Value, ∀ L, OwnB wr w.heap.size 5 q L → OwnB (w'.setCell ⟨w.heap.size + 1 + 1 + 1, 5, none⟩ (.slice (some ⟨R, 0, none⟩) (us.length + 1) cp)) w.heap.size 5 q L := fun q L hq =>
    ownB_same hq (fun k e => by
      rw [ks k (fun e2 => ownB_ne hq h.bx.k12 (by decide) (e2 ▸ e))]
      refine hk k (hq.lt k e).2 (fun e3 => ?_)
      obtain ⟨cur, hc⟩ := hvt _ e3
      exact ownB_ne hq hc (by decide) e)
  refine ⟨cell_of_row _ _ 5 _ _ _ hG', by simp [World.frozen?, hG'], ⟨hset, ?_, ?_, hold _ _ h.dat⟩⟩
  · have := ownsRow_keep hrow (w' := w'.setCell ⟨w.heap.size + 1 + 1 + 1, 5, none⟩ (.slice (some ⟨R, 0, none⟩) (us.length + 1) cp)) (fun k e => by simp only [Value.ownBlock, Option.some.injEq] at e; subst e; exact ks _ hRG)
    rw [List.length_append]
    exact this
  · intro p hp
    rcases List.mem_append.1 hp with h1 | h1
    · exact hold _ _ (h.els p h1)
    · rw [List.mem_singleton] at h1
      subst h1
      exact hold _ _ ho
/-- the record that was read -/
theorem BdL.read (h : BdL w wr sv A r dv v us) (he : us.map (·.1) = r.cs) (h1 : r.tx < 18446744073709551616) (h2 : r.prev < 18446744073709551616) (h3 : r.next < 18446744073709551616) : RecAt (OldF w.heap.size) wr r ⟨dv, v, us⟩ :=
  ⟨h.dat.rd (fun k hk => by unfold OldF; omega), ⟨RdV.of_own h.row (fun k hk => by unfold OldF; omega), fun p hp => (h.els p hp).rd (fun k hk => by unfold OldF; omega)⟩, he, h1, h2, h3⟩
/-- the record that was read, away from the box that is told -/
theorem BdL.read1 (h : BdL w wr sv A r dv v us) (he : us.map (·.1) = r.cs) (h1 : r.tx < 18446744073709551616) (h2 : r.prev < 18446744073709551616) (h3 : r.next < 18446744073709551616) : RecAt (OldF (w.heap.size + 1)) wr r ⟨dv, v, us⟩ := by
  have hb : ∀ q L, OwnB wr w.heap.size 5 q L → OwnB wr (w.heap.size + 1) 5 q L := fun q L hq =>
    ownsRow_base hq (fun k e => by
      have h4 := (hq.lt k e).1
      have h5 : k ≠ w.heap.size := fun e2 => by subst e2; exact ownB_ne hq h.bx.k6 (by decide) e
      omega)
  have hr : wr.ownsRow (w.heap.size + 1) 81 4 v us.length (us.flatMap crow1) := ownsRow_base h.row (fun k e => by
    have h4 := (h.row.lt k e).1
    have h5 : k ≠ w.heap.size := fun e2 => by
      subst e2
      obtain ⟨cur, hc⟩ := ownsRow_blk h.row e
      exact blk_ne h.bx.k6 hc (by decide) rfl
    omega)
  exact ⟨(hb _ _ h.dat).rd (fun k hk => by unfold OldF; omega), ⟨RdV.of_own hr (fun k hk => by unfold OldF; omega), fun p hp => (hb _ _ (h.els p hp)).rd (fun k hk => by unfold OldF; omega)⟩, he, h1, h2, h3⟩
end

/-- within a round: and the change that is read lies in a box of its own -/
structure BdX (w wr : World) (sv : Value) (A : Nat) (r : PR) (dv v : Value) (us : List CV) (X : Nat) (xs : Array Value) : Prop where
  st : BdL w wr sv A r dv v us
  kx : wr.heap[X]? = some (.cells xs 81 (0, 0))
  hX : w.heap.size + 1 + 1 + 1 < X
  nv : v.ownBlock ≠ some X
section
variable {w wr w' : World} {sv dv v : Value} {A X : Nat} {r : PR} {us : List CV} {xs : Array Value}
theorem BdX.start (h : BdL w wr sv A r dv v us) (xs : Array Value) : BdX w (wr.alloc (.cells xs 81)) sv A r dv v us wr.heap.size xs :=
  ⟨h.call ((Below.refl _ _).alloc (Nat.le_refl _) _), heap_alloc_new wr _, lt_of_block h.bx.k12, fun e => Nat.lt_irrefl _ (h.row.lt _ e).2⟩
theorem BdX.call (h : BdX w wr sv A r dv v us X xs) (hb : Below wr.heap.size wr w') : BdX w w' sv A r dv v us X xs :=
  ⟨h.st.call hb, (hb.block _ (lt_of_block h.kx)).trans h.kx, h.hX, h.nv⟩
theorem BdX.cur (h : BdX w wr sv A r dv v us X xs) (A' : Nat) : BdX w (wr.setRow (w.heap.size + 1 + 1) (curC sv A')) sv A' r dv v us X xs :=
  ⟨h.st.cur A', (setRow_other (by have := h.hX; omega)).trans h.kx, h.hX, h.nv⟩
theorem BdX.at1 (h : BdX w wr sv A r dv v us X xs) : BdX w (wr.setCell ⟨w.heap.size + 1 + 1, 1, none⟩ (.int .i64 (A + 1 : Nat))) sv (A + 1) r dv v us X xs :=
  ⟨h.st.at1, (setCell_heap _ _ _ _ (by have := h.hX; show X ≠ w.heap.size + 1 + 1; omega)).trans h.kx, h.hX, h.nv⟩
theorem BdX.setx (h : BdX w wr sv A r dv v us X xs) (j : Nat) (u : Value) : BdX w (wr.setCell ⟨X, j, none⟩ u) sv A r dv v us X (xs.setIfInBounds j u) :=
  ⟨h.st.chgX h.hX (fun k e e2 => h.nv (e2 ▸ e)) (fun k e e2 => ownB_ne h.st.dat h.kx (by decide) (e2 ▸ e)) (fun p hp k e e2 => ownB_ne (h.st.els p hp) h.kx (by decide) (e2 ▸ e)) (fun k hk => setCell_heap _ _ _ _ hk) (by rw [setCell_size]; exact Nat.le_refl _) rfl rfl rfl,
   setCell_blk h.kx _, h.hX, h.nv⟩
end
end Mun
