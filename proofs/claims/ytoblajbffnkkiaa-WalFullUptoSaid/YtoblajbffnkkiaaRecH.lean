/- What a record that is read looks like while it grows. -/
import Derived.Test.YtoblajbffnkkiaaRecG
set_option maxRecDepth 100000
set_option linter.unusedVariables false
set_option linter.unusedSimpArgs false
namespace Mun
open Go Go.RowKit
open Go.Proofs

theorem infoC3 : (Try.prog.info? 81).map (fun i => (i.zero, i.size, i.bytes)) = some (some (.agg #[.int .i64 0, .int .i64 0, .bool false, .slice none 0 0]), 4, 48) := by kernel_rfl

theorem crow_one (l : List CV) (h : ∀ p ∈ l, p.2.oneCell' = true) : ∀ u ∈ l.flatMap crow1, u.oneCell' = true := by
  intro u hu
  obtain ⟨p, hp, hu⟩ := List.mem_flatMap.1 hu
  simp only [crow1, List.mem_cons, List.not_mem_nil, or_false] at hu
  rcases hu with rfl | rfl | rfl | rfl
  · rfl
  · rfl
  · rfl
  · exact h p hp

/-- a change laid behind a row of changes -/
theorem push_change {w : World} {B : Nat} {ty : TypeId} {v : Value} {us : List CV} {c : PC} {g n : Nat} (h : w.ownsRow B 81 4 v us.length (us.flatMap crow1)) (hB : B ≤ w.heap.size) (hl : us.length < 4194304) :
    ∃ R cp w', (Builtin.append_ #[24, 24] ty #[v, .slice (some ⟨w.heap.size, 0, none⟩) 1 1]).run Try.prog (w.alloc (.cells #[.int .i64 c.page, .int .i64 c.at_, .bool c.whole, .slice (some ⟨g, 0, none⟩) n n] 81)) = .ok (.slice (some ⟨R, 0, none⟩) (us.length + 1) cp) w' ∧
      w'.ownsRow B 81 4 (.slice (some ⟨R, 0, none⟩) (us.length + 1) cp) (us.length + 1) ((us ++ [(c, Value.slice (some ⟨g, 0, none⟩) n n)]).flatMap crow1) ∧
      (w.alloc (.cells #[.int .i64 c.page, .int .i64 c.at_, .bool c.whole, .slice (some ⟨g, 0, none⟩) n n] 81)).grownBy w' v.ownBlock ∧ (v.ownBlock = some R ∨ w.heap.size < R) ∧ R < w'.heap.size := by
  obtain ⟨i, hi, hz, h1, h2⟩ := info_of infoC3
  have hsrc : RdV (fun _ => False) (w.alloc (.cells #[.int .i64 c.page, .int .i64 c.at_, .bool c.whole, .slice (some ⟨g, 0, none⟩) n n] 81)) 4 (.slice (some ⟨w.heap.size, 0, none⟩) 1 1) 1 (crow1 (c, .slice (some ⟨g, 0, none⟩) n n)) :=
    ⟨rfl, _, _, rfl, Nat.le_refl _, by unfold maxLen; omega, by simp, fun _ => ⟨w.heap.size, 0, _, _, (0, 0), rfl, fun h => h, heap_alloc_new w _, rfl⟩⟩
  obtain ⟨v', w', hr, ho, hg, hob, hnil⟩ := run_append_rd (P := Try.prog) (base := B) (ty := ty) Try.underlying24 hi hz h1 h2 rfl (by decide) (World.ownsRow.alloc h _) hsrc
    (by intro u hu; simp only [crow1, List.mem_cons, List.not_mem_nil, or_false] at hu; rcases hu with rfl | rfl | rfl | rfl <;> rfl) (by omega) (by omega) (by simp; omega)
  have hfm : (us ++ [(c, Value.slice (some ⟨g, 0, none⟩) n n)]).flatMap crow1 = us.flatMap crow1 ++ crow1 (c, .slice (some ⟨g, 0, none⟩) n n) := by simp
  rcases ho.2 with ⟨rfl, h0⟩ | ⟨R, cp, cur, rfl, hb, hR, hrest⟩
  · exact absurd (hnil.1 rfl).2 (by omega)
  · refine ⟨R, cp, w', hr, by rw [hfm]; exact ho, hg, ?_, lt_of_block hR⟩
    rcases hob with h3 | h3
    · exact .inl h3.symm
    · simp [Value.ownBlock] at h3; exact .inr (by omega)

theorem ownB_ne {w : World} {B k : Nat} {v : Value} {L : List UInt8} {cs : Array Value} {e : TypeId} {fr : Nat × Nat} (h : OwnB w B 5 v L) (hb : w.heap[k]? = some (.cells cs e fr)) (hne : e ≠ 5) : v.ownBlock ≠ some k := by
  intro hk
  obtain ⟨c1, h1⟩ := ownsRow_blk h hk
  exact blk_ne hb h1 hne rfl

theorem ownB_same {w w' : World} {B : Nat} {v : Value} {L : List UInt8} (h : OwnB w B 5 v L) (hk : ∀ k, v.ownBlock = some k → w'.heap[k]? = w.heap[k]?) : OwnB w' B 5 v L := ownsRow_keep h hk

/-- a record while its changes are read -/
structure RSt (F : Foot) (w0 wr : World) (C G : Nat) (r : PR) (dv v u : Value) (us : List CV) (l : List UInt8) : Prop where
  bx : BxC F w0 wr C G (rcs r dv v) 26 u l
  row : wr.ownsRow w0.heap.size 81 4 v us.length (us.flatMap crow1)
  els : ∀ p ∈ us, OwnB wr w0.heap.size 5 p.2 p.1.b
  dat : OwnB wr w0.heap.size 5 dv r.data

section
variable {F : Foot} {w0 w w' wr : World} {C G : Nat} {r : PR} {dv v u : Value} {us : List CV} {l l' : List UInt8}

theorem RSt.call (h : RSt F w0 wr C G r dv v u us l) (hp : CPost F wr C l' w') : ∃ u', RSt F w0 w' C G r dv v u' us l' := by
  obtain ⟨u', hb⟩ := h.bx.call hp
  obtain ⟨_, _, hc⟩ := hp
  have hk : ∀ k, k < wr.heap.size → k ≠ C → w'.heap[k]? = wr.heap[k]? := fun k h1 h2 => hc.block k h1 h2
  have hcur := h.bx.cur.blk
  refine ⟨u', hb, ownsRow_keep h.row (fun k e => hk k (h.row.lt k e).2 (fun e2 => ?_)), fun p hp => ownB_same (h.els p hp) (fun k e => hk k ((h.els p hp).lt k e).2 (fun e2 => ?_)), ownB_same h.dat (fun k e => hk k (h.dat.lt k e).2 (fun e2 => ?_))⟩
  · have := (h.row.lt k e).1; have := h.bx.ne; omega
  · have := ((h.els p hp).lt k e).1; have := h.bx.ne; omega
  · have := (h.dat.lt k e).1; have := h.bx.ne; omega

/-- a change more -/
theorem RSt.push (h : RSt F w0 wr C G r dv v u us l) {c : PC} {g n R cp : Nat} (ho : OwnB wr w0.heap.size 5 (.slice (some ⟨g, 0, none⟩) n n) c.b) (hF : ∀ k, w0.heap.size ≤ k → F k)
    (hrow : w'.ownsRow w0.heap.size 81 4 (.slice (some ⟨R, 0, none⟩) (us.length + 1) cp) (us.length + 1) ((us ++ [(c, Value.slice (some ⟨g, 0, none⟩) n n)]).flatMap crow1))
    (hg : (wr.alloc (.cells #[.int .i64 c.page, .int .i64 c.at_, .bool c.whole, .slice (some ⟨g, 0, none⟩) n n] 81)).grownBy w' v.ownBlock) (hor : v.ownBlock = some R ∨ wr.heap.size < R) (hR : R < w'.heap.size) :
    w'.cell? ⟨G, 5, none⟩ = some v ∧ w'.frozen? ⟨G, 5, none⟩ = false ∧ RSt F w0 (w'.setCell ⟨G, 5, none⟩ (.slice (some ⟨R, 0, none⟩) (us.length + 1) cp)) C G r dv (.slice (some ⟨R, 0, none⟩) (us.length + 1) cp) u (us ++ [(c, Value.slice (some ⟨g, 0, none⟩) n n)]) l := by
  have hk : ∀ k, k < wr.heap.size → v.ownBlock ≠ some k → w'.heap[k]? = wr.heap[k]? := fun k h1 h2 => by
    rw [hg.block k (by simp; omega) (fun e => h2 e.symm), heap_alloc_old _ _ h1]
  have hvt : ∀ k, v.ownBlock = some k → ∃ cur, wr.heap[k]? = some (.cells cur 81 (0, 0)) := fun k e => ownsRow_blk h.row e
  have hCn : v.ownBlock ≠ some C := fun e => by have := (h.row.lt _ e).1; have := h.bx.ne; omega
  have hGn : v.ownBlock ≠ some G := fun e => by
    obtain ⟨cur, hc⟩ := hvt _ e
    exact blk_ne h.bx.blk hc (by decide) rfl
  have hG' : w'.heap[G]? = some (.cells (rcs r dv v) 26 (0, 0)) := (hk G (lt_of_block h.bx.blk) hGn).trans h.bx.blk
  have hsz : wr.heap.size ≤ w'.heap.size := by have := hg.size; simp at this; omega
  have hbx : BxC F w0 w' C G (rcs r dv v) 26 u l := by
    refine ⟨hG', ⟨(hk C h.bx.cur.lt hCn).trans h.bx.cur.blk, ?_, h.bx.cur.hC⟩, ?_, h.bx.new, h.bx.ne, h.bx.hg⟩
    · exact h.bx.cur.rd.keep (fun k h1 h2 => hk k h1 (fun e => h2 (hF k (h.row.lt k e).1))) (fun _ _ h => h)
    · exact ⟨hg.os.trans h.bx.chg.os, hg.tape.trans h.bx.chg.tape, hg.output.trans h.bx.chg.output, Nat.le_trans h.bx.chg.size hsz, fun k h1 h2 => (hk k (Nat.lt_of_lt_of_le h1 h.bx.chg.size) (fun e => by have := (h.row.lt k e).1; omega)).trans (h.bx.chg.block k h1 h2), fun k h1 => (h.bx.chg.foot k h1).imp id (fun h2 => ⟨h2.1, by omega⟩)⟩
  have hset := hbx.set 5 (.slice (some ⟨R, 0, none⟩) (us.length + 1) cp)
  have hRG : R ≠ G := by
    rcases hor with h1 | h1
    · rintro rfl; exact hGn h1
    · have := lt_of_block h.bx.blk; omega
  have ks : ∀ k, k ≠ G → (w'.setCell ⟨G, 5, none⟩ (.slice (some ⟨R, 0, none⟩) (us.length + 1) cp)).heap[k]? = w'.heap[k]? := fun k h1 => block_setCell_ne _ h1
  refine ⟨cell_of_row _ _ 5 _ _ _ hG', by simp [World.frozen?, hG'], hset, ?_, ?_, ?_⟩
  · have := ownsRow_keep hrow (w' := w'.setCell ⟨G, 5, none⟩ (.slice (some ⟨R, 0, none⟩) (us.length + 1) cp)) (fun k e => by simp only [Value.ownBlock, Option.some.injEq] at e; subst e; exact ks _ hRG)
    rw [List.length_append]
    exact this
  · intro p hp
    have hold : ∀ q : Value, ∀ L, OwnB wr w0.heap.size 5 q L → OwnB (w'.setCell ⟨G, 5, none⟩ (.slice (some ⟨R, 0, none⟩) (us.length + 1) cp)) w0.heap.size 5 q L := fun q L hq =>
      ownB_same hq (fun k e => by
        rw [ks k (fun e2 => ownB_ne hq h.bx.blk (by decide) (e2 ▸ e))]
        refine hk k (hq.lt k e).2 (fun e3 => ?_)
        obtain ⟨cur, hc⟩ := hvt _ e3
        exact ownB_ne hq hc (by decide) e)
    rcases List.mem_append.1 hp with h1 | h1
    · exact hold _ _ (h.els p h1)
    · rw [List.mem_singleton] at h1
      subst h1
      exact hold _ _ ho
  · exact ownB_same h.dat (fun k e => by
      rw [ks k (fun e2 => ownB_ne h.dat h.bx.blk (by decide) (e2 ▸ e))]
      refine hk k (h.dat.lt k e).2 (fun e3 => ?_)
      obtain ⟨cur, hc⟩ := hvt _ e3
      exact ownB_ne h.dat hc (by decide) e)

/-- the record that was read -/
def OldF (B : Nat) : Foot := fun k => k < B
theorem RSt.read (h : RSt F w0 wr C G r dv v u us l) (he : us.map (·.1) = r.cs) (h1 : r.tx < 18446744073709551616) (h2 : r.prev < 18446744073709551616) (h3 : r.next < 18446744073709551616) : RecAt (OldF w0.heap.size) wr r ⟨dv, v, us⟩ :=
  ⟨h.dat.rd (fun k hk => by unfold OldF; omega), ⟨RdV.of_own h.row (fun k hk => by unfold OldF; omega), fun p hp => (h.els p hp).rd (fun k hk => by unfold OldF; omega)⟩, he, h1, h2, h3⟩
end

theorem flat_len (l : List PC) : l.length ≤ (l.flatMap chB).length := by
  induction l with
  | nil => simp
  | cons a l ih =>
    have := vi_pos a.page.toNat
    simp only [List.flatMap_cons, List.length_append, List.length_cons, chB]
    omega
end Mun
