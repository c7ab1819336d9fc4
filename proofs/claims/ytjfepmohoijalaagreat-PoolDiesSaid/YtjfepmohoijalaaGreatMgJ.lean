/- Texts of mine, one behind the other: RecH, RecI, RecJ, RecK, RecL, RecS, LogP. -/
import Derived.Test.YtjfepmohoijalaaGreatMgI
import Derived.Deep.DeepCutAuto
import Derived.Defers
import Derived.Recover
import Derived.Test.YtjfepmohoijalaaGreatMgH
section
/- What a record that is read looks like while it grows. -/
set_option maxRecDepth 100000
set_option linter.unusedVariables false
set_option linter.unusedSimpArgs false
namespace Mun
open Go Go.RowKit
open Go.Proofs

theorem ownB_ne {w : World} {B k : Nat} {v : Value} {L : List UInt8} {cs : Array Value} {e : TypeId} {fr : Nat × Nat} (h : OwnB w B 5 v L) (hb : w.heap[k]? = some (.cells cs e fr)) (hne : e ≠ 5) : v.ownBlock ≠ some k := by
  intro hk
  obtain ⟨c1, h1⟩ := ownsRow_blk h hk
  exact blk_ne hb h1 hne rfl

theorem ownB_same {w w' : World} {B : Nat} {v : Value} {L : List UInt8} (h : OwnB w B 5 v L) (hk : ∀ k, v.ownBlock = some k → w'.heap[k]? = w.heap[k]?) : OwnB w' B 5 v L := ownsRow_keep h hk

/-- a record while its changes are read -/
structure RSt (F : Foot) (w0 wr : World) (C G : Nat) (r : PR) (dv v u : Value) (us : List CV) (l : List UInt8) : Prop where
  bx : BxC F w0 wr C G (rcs r dv v) 59 u l
  row : wr.ownsRow w0.heap.size 166 4 v us.length (us.flatMap crow1)
  els : ∀ p ∈ us, OwnB wr w0.heap.size 5 p.2 p.1.b
  dat : OwnB wr w0.heap.size 5 dv r.data

section
variable {F : Foot} {w0 w w' wr : World} {C G : Nat} {r : PR} {dv v u : Value} {us : List CV} {l l' : List UInt8}

theorem RSt.call (h : RSt F w0 wr C G r dv v u us l) (hp : CPost F wr C l' w') : ∃ u', RSt F w0 w' C G r dv v u' us l' := by
  obtain ⟨u', hb⟩ := h.bx.call hp
  obtain ⟨_, _, hc⟩ := hp
  have hk : ∀ k, k < wr.heap.size → k ≠ C → w'.heap[k]? = wr.heap[k]? := fun k h1 h2 => hc.block k h1 h2
  have hcur := h.bx.cur.blk
  refine ⟨u', hb, ownsRow_keep h.row (fun k e => hk k (h.row.lt k e).2 (fun e2 => ?_)), fun p hp => ownB_same (h.els p hp) (fun k e => hk k ((h.els p hp).lt k e).2 (fun e2 => ?_)), ownB_same h.dat (fun k e => hk k (h.dat.lt k e).2 (fun e2 => ?_))⟩
  · have := (h.row.lt k e).1; have := h.bx.ne; omega
  · have := ((h.els p hp).lt k e).1; have := h.bx.ne; omega
  · have := (h.dat.lt k e).1; have := h.bx.ne; omega

/-- a change more -/
theorem RSt.push (h : RSt F w0 wr C G r dv v u us l) {c : PC} {g n R cp : Nat} (ho : OwnB wr w0.heap.size 5 (.slice (some ⟨g, 0, none⟩) n n) c.b) (hF : ∀ k, w0.heap.size ≤ k → F k)
    (hrow : w'.ownsRow w0.heap.size 166 4 (.slice (some ⟨R, 0, none⟩) (us.length + 1) cp) (us.length + 1) ((us ++ [(c, Value.slice (some ⟨g, 0, none⟩) n n)]).flatMap crow1))
    (hg : (wr.alloc (.cells #[.int .i64 c.page, .int .i64 c.at_, .bool c.whole, .slice (some ⟨g, 0, none⟩) n n] 166)).grownBy w' v.ownBlock) (hor : v.ownBlock = some R ∨ wr.heap.size < R) (hR : R < w'.heap.size) :
    w'.cell? ⟨G, 5, none⟩ = some v ∧ w'.frozen? ⟨G, 5, none⟩ = false ∧ RSt F w0 (w'.setCell ⟨G, 5, none⟩ (.slice (some ⟨R, 0, none⟩) (us.length + 1) cp)) C G r dv (.slice (some ⟨R, 0, none⟩) (us.length + 1) cp) u (us ++ [(c, Value.slice (some ⟨g, 0, none⟩) n n)]) l := by
  have hk : ∀ k, k < wr.heap.size → v.ownBlock ≠ some k → w'.heap[k]? = wr.heap[k]? := fun k h1 h2 => by
    rw [hg.block k (by simp; omega) (fun e => h2 e.symm), heap_alloc_old _ _ h1]
  have hvt : ∀ k, v.ownBlock = some k → ∃ cur, wr.heap[k]? = some (.cells cur 166 (0, 0)) := fun k e => ownsRow_blk h.row e
  have hCn : v.ownBlock ≠ some C := fun e => by have := (h.row.lt _ e).1; have := h.bx.ne; omega
  have hGn : v.ownBlock ≠ some G := fun e => by
    obtain ⟨cur, hc⟩ := hvt _ e
    exact blk_ne h.bx.blk hc (by decide) rfl
  have hG' : w'.heap[G]? = some (.cells (rcs r dv v) 59 (0, 0)) := (hk G (lt_of_block h.bx.blk) hGn).trans h.bx.blk
  have hsz : wr.heap.size ≤ w'.heap.size := by have := hg.size; simp at this; omega
  have hbx : BxC F w0 w' C G (rcs r dv v) 59 u l := by
    refine ⟨hG', ⟨(hk C h.bx.cur.lt hCn).trans h.bx.cur.blk, ?_, h.bx.cur.hC⟩, ?_, h.bx.new, h.bx.ne, h.bx.hg⟩
    · exact h.bx.cur.rd.keep (fun k h1 h2 => hk k h1 (fun e => h2 (hF k (h.row.lt k e).1))) (fun _ _ h => h)
    · exact ⟨hg.os.trans h.bx.chg.os, hg.tape.trans h.bx.chg.tape, hg.output.trans h.bx.chg.output, Nat.le_trans h.bx.chg.size hsz, fun k h1 h2 => (hk k (Nat.lt_of_lt_of_le h1 h.bx.chg.size) (fun e => by have := (h.row.lt k e).1; omega)).trans (h.bx.chg.block k h1 h2), fun k h1 => (h.bx.chg.foot k h1).imp id (fun h2 => ⟨h2.1, by omega⟩)⟩
  have hset := hbx.set 5 (.slice (some ⟨R, 0, none⟩) (us.length + 1) cp)
  have hRG : R ≠ G := by
    rcases hor with h1 | h1
    · rintro rfl; exact hGn h1
    · have := lt_of_block h.bx.blk; omega
  have ks : ∀ k, k ≠ G → (w'.setCell ⟨G, 5, none⟩ (.slice (some ⟨R, 0, none⟩) (us.length + 1) cp)).heap[k]? = w'.heap[k]? := fun k h1 => block_setCell_ne _ h1
  refine ⟨cell_of_row _ _ 5 _ _ _ hG', by simp [World.frozen?, hG'], hset, ?_, ?_, ?_⟩
  · have := ownsRow_keep hrow (w' := w'.setCell ⟨G, 5, none⟩ (.slice (some ⟨R, 0, none⟩) (us.length + 1) cp)) (fun k e => by simp only [Value.ownBlock, Option.some.injEq] at e; subst e; exact ks _ hRG)
    rw [List.length_append]
    exact this
  · intro p hp
    have hold : ∀ q : Value, ∀ L, OwnB wr w0.heap.size 5 q L → OwnB (w'.setCell ⟨G, 5, none⟩ (.slice (some ⟨R, 0, none⟩) (us.length + 1) cp)) w0.heap.size 5 q L := fun q L hq =>
      ownB_same hq (fun k e => by
        rw [ks k (fun e2 => ownB_ne hq h.bx.blk (by decide) (e2 ▸ e))]
        refine hk k (hq.lt k e).2 (fun e3 => ?_)
        obtain ⟨cur, hc⟩ := hvt _ e3
        exact ownB_ne hq hc (by decide) e)
    rcases List.mem_append.1 hp with h1 | h1
    · exact hold _ _ (h.els p h1)
    · rw [List.mem_singleton] at h1
      subst h1
      exact hold _ _ ho
  · exact ownB_same h.dat (fun k e => by
      rw [ks k (fun e2 => ownB_ne h.dat h.bx.blk (by decide) (e2 ▸ e))]
      refine hk k (h.dat.lt k e).2 (fun e3 => ?_)
      obtain ⟨cur, hc⟩ := hvt _ e3
      exact ownB_ne h.dat hc (by decide) e)

/-- the record that was read -/
def OldF (B : Nat) : Foot := fun k => k < B
end

end Mun
end

section
/- Contract of what reads a body whole, where it stands well. -/
set_option maxRecDepth 100000
set_option linter.unusedVariables false
set_option linter.unusedSimpArgs false
namespace Mun
open Go Go.RowKit
open Go.Proofs

/-- what is left when k numbers of the head are read -/
def rk (r : PR) (T : List UInt8) : Nat → List UInt8
  | 0 => vi r.tx ++ (vi r.prev ++ (vi r.next ++ T))
  | 1 => vi r.prev ++ (vi r.next ++ T)
  | 2 => vi r.next ++ T
  | _ => T
/-- the cells by then -/
def ck (r : PR) : Nat → Array Value
  | 0 => #[.int .i64 r.kind, .int .u64 0, .int .u64 0, .int .u64 0, .slice none 0 0, .slice none 0 0]
  | 1 => #[.int .i64 r.kind, .int .u64 r.tx, .int .u64 0, .int .u64 0, .slice none 0 0, .slice none 0 0]
  | 2 => #[.int .i64 r.kind, .int .u64 r.tx, .int .u64 r.prev, .int .u64 0, .slice none 0 0, .slice none 0 0]
  | _ => #[.int .i64 r.kind, .int .u64 r.tx, .int .u64 r.prev, .int .u64 r.next, .slice none 0 0, .slice none 0 0]

def RK (F : Foot) (w wr : World) (C G : Nat) (r : PR) (T : List UInt8) (i : Value) : Prop :=
  ∃ k u, ((k = 0 ∧ i = .int .i64 0) ∨ (k = 1 ∧ i = .int .i64 1) ∨ (k = 2 ∧ i = .int .i64 2) ∨ (k = 3 ∧ i = .int .i64 3)) ∧ BxC F w wr C G (ck r k) 59 u (rk r T k)

/-- what is left behind the head -/
def rT (r : PR) : List UInt8 := txt r.data ++ (vi r.cs.length ++ r.cs.flatMap chB)

def RL (F : Foot) (w wr : World) (C G n : Nat) (r : PR) (dv : Value) (i : Value) : Prop :=
  ∃ (k : Nat) (v u : Value) (us : List CV), k ≤ n ∧ i = .int .i64 k ∧ us.map (·.1) = r.cs.take k ∧ RSt F w wr C G r dv v u us ((r.cs.drop k).flatMap chB)

end Mun
end

section
/- Contract of parsed: a body that stands well is read, its deferred call finds no panic. -/
set_option maxRecDepth 100000
set_option linter.unusedVariables false
set_option linter.unusedSimpArgs false
namespace Mun
open Go Go.RowKit
open Go.Proofs

theorem setRow_other {w : World} {g k : Nat} {cs : Array Value} (h : k ≠ g) : (w.setRow g cs).heap[k]? = w.heap[k]? := by
  show (w.heap.modify g _)[k]? = _
  rw [Array.getElem?_modify, if_neg (Ne.symm h)]

end Mun
end

section
/- Contracts of Body: the record at a place of a log. -/
set_option maxRecDepth 100000
set_option linter.unusedVariables false
set_option linter.unusedSimpArgs false
namespace Mun
open Go Go.RowKit
open Go.Proofs

/-- no record -/
def noR : Value := .agg #[.int .i64 0, .int .u64 0, .int .u64 0, .int .u64 0, .slice none 0 0, .slice none 0 0]

def BodyNo (w : World) (k : Int) (e : Ending) (w' : World) : Prop := e = .returned (.tuple #[noR, .int .i64 0, .int .i64 k]) ∧ Below w.heap.size w w'

section
variable {F : Foot} (w : World) (v : Value) (l : List UInt8) (A : Nat) (lsn : Nat)

end
end Mun
end

section
/- Contracts of Body: a sum that does not fit; a record that stands well. -/
set_option maxRecDepth 100000
set_option linter.unusedVariables false
set_option linter.unusedSimpArgs false
namespace Mun
open Go Go.RowKit
open Go.Proofs

def noCs : Array Value := #[.int .i64 0, .int .u64 0, .int .u64 0, .int .u64 0, .slice none 0 0, .slice none 0 0]
section
variable {F : Foot} (w : World) (v : Value) (l : List UInt8) (A : Nat) (lsn : Nat)

/-- what Body hands back where a record stands -/
def BodyYes (w : World) (r : PR) (k : Int) (e : Ending) (w' : World) : Prop := ∃ x, e = .returned (.tuple #[rval r x, .int .i64 k, .int .i64 0]) ∧ RecAt (OldF w.heap.size) w' r x ∧ Below w.heap.size w w'

end
end Mun
end

section
/- Contract of Same at two readings of one record. -/
set_option maxRecDepth 100000
set_option linter.unusedVariables false
set_option linter.unusedSimpArgs false
namespace Mun
open Go Go.RowKit
open Go.Proofs

end Mun
end

section
/- Plain: a log as records; where they begin. -/
set_option linter.unusedVariables false
namespace Mun

def recLen (r : PR) : Nat := 8 + (bodyR r).length
def encL : Nat → List PR → List UInt8
  | _, [] => []
  | b, r :: rs => recB r b ++ encL (b + recLen r) rs
def lenL : List PR → Nat
  | [] => 0
  | r :: rs => recLen r + lenL rs
def offs : Nat → List PR → List Nat
  | _, [] => []
  | o, r :: rs => o :: offs (o + recLen r) rs

theorem recB_len (r : PR) (b : Nat) : (recB r b).length = recLen r := recB_length r b
theorem recLen_pos (r : PR) : 14 ≤ recLen r := by have := bodyR_pos r; unfold recLen; omega
theorem encL_length (rs : List PR) : ∀ b, (encL b rs).length = lenL rs := by
  induction rs with
  | nil => intro b; rfl
  | cons r rs ih => intro b; simp only [encL, List.length_append, recB_len, ih, lenL]
theorem lenL_append (a b : List PR) : lenL (a ++ b) = lenL a + lenL b := by
  induction a with
  | nil => simp [lenL]
  | cons r a ih => simp only [List.cons_append, lenL, ih]; omega
theorem encL_append (xs ys : List PR) : ∀ b, encL b (xs ++ ys) = encL b xs ++ encL (b + lenL xs) ys := by
  induction xs with
  | nil => intro b; simp [encL, lenL]
  | cons r xs ih =>
    intro b
    simp only [List.cons_append, encL, ih, lenL, List.append_assoc]
    rw [Nat.add_assoc]
theorem encL_snoc (b : Nat) (xs : List PR) (r : PR) : encL b (xs ++ [r]) = encL b xs ++ recB r (b + lenL xs) := by
  rw [encL_append]; simp [encL]
theorem offs_append (xs ys : List PR) : ∀ o, offs o (xs ++ ys) = offs o xs ++ offs (o + lenL xs) ys := by
  induction xs with
  | nil => intro o; simp [offs, lenL]
  | cons r xs ih =>
    intro o
    simp only [List.cons_append, offs, ih, lenL]
    rw [Nat.add_assoc]
theorem offs_snoc (o : Nat) (xs : List PR) (r : PR) : offs o (xs ++ [r]) = offs o xs ++ [o + lenL xs] := by
  rw [offs_append]; simp [offs]
theorem offs_get (rs : List PR) : ∀ o i (h : i < rs.length), (offs o rs)[i]? = some (o + lenL (rs.take i)) := by
  induction rs with
  | nil => intro o i h; simp at h
  | cons r rs ih =>
    intro o i h
    cases i with
    | zero => simp [offs, lenL]
    | succ i =>
      simp only [offs, List.getElem?_cons_succ, List.take_succ_cons, lenL]
      rw [ih _ i (by simpa using h), Nat.add_assoc]
theorem lenL_len (rs : List PR) : 14 * rs.length ≤ lenL rs := by
  induction rs with
  | nil => simp [lenL]
  | cons r rs ih => have := recLen_pos r; simp only [lenL, List.length_cons]; omega
structure LM where
  base : Nat
  recs : List PR
  forced : Nat
  check : Nat

def LM.bytes (m : LM) : List UInt8 := encL m.base m.recs
def LM.fin (m : LM) : Nat := m.base + lenL m.recs

/-- a record that can be written -/
structure RecOk (r : PR) : Prop where
  good : goodR r = true
  big : (bodyR r).length ≤ 1048576
  tx : r.tx < 18446744073709551616
  prev : r.prev < 18446744073709551616
  next : r.next < 18446744073709551616

structure LM.Wf (m : LM) : Prop where
  recs : ∀ r ∈ m.recs, RecOk r
  len : lenL m.recs ≤ 16777216
  base : m.base < 4611686018427387904
  forced : m.forced ≤ lenL m.recs
  check : m.check < 18446744073709551616
end Mun
end
