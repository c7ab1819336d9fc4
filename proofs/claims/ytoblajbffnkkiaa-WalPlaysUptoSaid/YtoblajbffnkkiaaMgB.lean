/- Texts of mine, one behind the other: Mem, Base, Law, MapI, SumW, P1. -/
import Derived.WalkKit
import Derived.WalkSpells
import Derived.WalkLawsBesides
import Derived.Lib.Hide
import Derived.Laws.CopyOwn
import Derived.Laws.AppendOwnNone
import Derived.Deep.QuietTactic
import Derived.BigQuiet
import Derived.Lib.SlBytesConst
import Derived.Test.YtoblajbffnkkiaaProg
import Derived.KernelRfl
import Derived.ProofKit
import Derived.OpenShut
import Derived.ShutString
import Derived.ChangeOld
import Derived.Below
import Derived.SizedLaws
import Derived.MapKept
import Derived.Laws.NewFold
import Derived.Test.YtoblajbffnkkiaaMgA
section
/- Words for memory, over any program: a slice that reads as a list of cells outside a set of blocks that may turn; what a call may turn. -/
namespace Mun
open Go Go.RowKit

/-- a set of blocks -/
abbrev Foot := Nat → Prop

/-- bytes as values -/
def bv (l : List UInt8) : List Value := l.map fun b => .int .u8 (b.toNat : Int)

theorem bv_length (l : List UInt8) : (bv l).length = l.length := by simp [bv]
theorem bv_getElem? (l : List UInt8) (i : Nat) : (bv l)[i]? = (l[i]?).map fun b => Value.int .u8 (b.toNat : Int) := by simp [bv]
theorem bv_append (a b : List UInt8) : bv (a ++ b) = bv a ++ bv b := by simp [bv]
theorem bv_oneCell (l : List UInt8) : ∀ u ∈ bv l, u.oneCell' = true := by
  intro u hu
  simp only [bv, List.mem_map] at hu
  obtain ⟨b, _, rfl⟩ := hu
  rfl
theorem bv_inj {a b : List UInt8} (h : bv a = bv b) : a = b := by
  apply List.ext_getElem?
  intro i
  have := congrArg (fun x => x[i]?) h
  simp only [bv_getElem?] at this
  cases ha : a[i]? <;> cases hb : b[i]? <;> simp_all
  exact UInt8.toNat_inj.1 (by omega)

theorem addr_add (g off : Nat) (k : Nat) : (⟨g, off, none⟩ : Addr).add k = ⟨g, off + k, none⟩ := by
  unfold Addr.add; split <;> simp_all

/-- A SLICE THAT READS AS A LIST OF CELLS: the value v has n elements of 'size' cells, together the cells xs; they lie in no block of F. -/
def RdV (F : Foot) (w : World) (size : Nat) (v : Value) (n : Nat) (xs : List Value) : Prop :=
  xs.length = n * size ∧ ∃ a c, v = .slice a n c ∧ n ≤ c ∧ c ≤ maxLen ∧ (a = none → c = 0) ∧
    (0 < n → ∃ g off cur e fr, a = some ⟨g, off, none⟩ ∧ ¬ F g ∧ w.heap[g]? = some (.cells cur e fr) ∧ (cur.toList.drop off).take (n * size) = xs)

def RdB (F : Foot) (w : World) (v : Value) (l : List UInt8) : Prop := RdV F w 1 v l.length (bv l)

/-- what was there stays but for F; what F has become has come out of F or is new -/
structure Chg (F F' : Foot) (w w' : World) : Prop where
  os : w'.os = w.os
  tape : w'.tape = w.tape
  output : w'.output = w.output
  size : w.heap.size ≤ w'.heap.size
  block : ∀ k, k < w.heap.size → ¬ F k → w'.heap[k]? = w.heap[k]?
  foot : ∀ k, F' k → F k ∨ (w.heap.size ≤ k ∧ k < w'.heap.size)

theorem Chg.refl (F : Foot) (w : World) : Chg F F w w := ⟨rfl, rfl, rfl, Nat.le_refl _, fun _ _ _ => rfl, fun _ h => .inl h⟩

theorem Chg.trans {F F' F'' : Foot} {a b c : World} (h : Chg F F' a b) (k : Chg F' F'' b c) : Chg F F'' a c :=
  ⟨k.os.trans h.os, k.tape.trans h.tape, k.output.trans h.output, Nat.le_trans h.size k.size,
    fun i hi hF => (k.block i (Nat.lt_of_lt_of_le hi h.size) (fun h' => (h.foot i h').elim hF (fun x => by omega))).trans (h.block i hi hF),
    fun i hi => by
      rcases k.foot i hi with x | x
      · rcases h.foot i x with y | y
        · exact .inl y
        · exact .inr ⟨y.1, Nat.lt_of_lt_of_le y.2 k.size⟩
      · exact .inr ⟨Nat.le_trans h.size x.1, x.2⟩⟩

theorem Chg.of_below {w w' : World} (h : Below w.heap.size w w') (F : Foot) : Chg F F w w' :=
  ⟨h.os, h.tape, h.output, h.size, fun k hk _ => h.block k hk, fun _ hk => .inl hk⟩

theorem Chg.below {F F' : Foot} {w w' : World} (h : Chg F F' w w') {B : Nat} (hB : B ≤ w.heap.size) (hF : ∀ k, k < B → ¬ F k) : Below B w w' :=
  ⟨h.os, h.tape, h.output, h.size, fun k hk => h.block k (by omega) (hF k hk)⟩

theorem Chg.weak {F G F' G' : Foot} {w w' : World} (h : Chg F F' w w') (hF : ∀ k, F k → G k) (hG : ∀ k, G' k → F' k ∨ G k ∨ (w.heap.size ≤ k ∧ k < w'.heap.size)) : Chg G G' w w' :=
  ⟨h.os, h.tape, h.output, h.size, fun k hk hn => h.block k hk (fun h' => hn (hF k h')), fun k hk => by
    rcases hG k hk with x | x | x
    · rcases h.foot k x with y | y
      · exact .inl (hF k y)
      · exact .inr y
    · exact .inl x
    · exact .inr x⟩

section
variable {F F' : Foot} {w w' : World} {size n : Nat} {v : Value} {xs : List Value}

theorem RdV.len (h : RdV F w size v n xs) : xs.length = n * size := h.1
theorem RdV.form (h : RdV F w size v n xs) : ∃ a c, v = .slice a n c ∧ n ≤ c ∧ c ≤ maxLen := by
  obtain ⟨_, a, c, hv, h1, h2, _⟩ := h
  exact ⟨a, c, hv, h1, h2⟩
theorem RdV.nmax (h : RdV F w size v n xs) : n ≤ maxLen := by
  obtain ⟨_, a, c, _, h1, h2, _⟩ := h
  exact Nat.le_trans h1 h2

theorem RdV.nil (F : Foot) (w : World) (size : Nat) : RdV F w size (.slice none 0 0) 0 [] :=
  ⟨by simp, none, 0, rfl, Nat.le_refl _, Nat.zero_le _, fun _ => rfl, fun h => absurd h (by omega)⟩

theorem RdV.keep (h : RdV F w size v n xs) (hk : ∀ k, k < w.heap.size → ¬ F k → w'.heap[k]? = w.heap[k]?) (hF : ∀ k, k < w.heap.size → F' k → F k) : RdV F' w' size v n xs := by
  obtain ⟨h0, a, c, hv, h1, h2, h3, h4⟩ := h
  refine ⟨h0, a, c, hv, h1, h2, h3, fun hn => ?_⟩
  obtain ⟨g, off, cur, e, fr, ha, hg, hh, hx⟩ := h4 hn
  have hlt : g < w.heap.size := (Array.getElem?_eq_some_iff.1 hh).1
  exact ⟨g, off, cur, e, fr, ha, fun h' => hg (hF g hlt h'), (hk g hlt hg).trans hh, hx⟩

theorem RdV.chg (h : RdV F w size v n xs) (hc : Chg F F' w w') : RdV F' w' size v n xs :=
  h.keep hc.block (fun k hk h' => (hc.foot k h').elim id (fun x => by omega))

theorem RdV.below (h : RdV F w size v n xs) (hb : Below w.heap.size w w') : RdV F w' size v n xs := h.keep (fun k hk _ => hb.block k hk) (fun _ _ h => h)
theorem RdV.mono (h : RdV F w size v n xs) (hF : ∀ k, k < w.heap.size → F' k → F k) : RdV F' w size v n xs := h.keep (fun _ _ _ => rfl) hF

/-- the place of an element's cells -/
theorem RdV.at_ (h : RdV F w size v n xs) (hn : 0 < n) : ∃ g off c, v = .slice (some ⟨g, off, none⟩) n c ∧ n ≤ c ∧ c ≤ maxLen ∧ ¬ F g ∧ g < w.heap.size ∧ (∀ j u, xs[j]? = some u → w.cell? ⟨g, off + j, none⟩ = some u) := by
  obtain ⟨h0, a, c, hv, h1, h2, h3, h4⟩ := h
  obtain ⟨g, off, cur, e, fr, ha, hg, hh, hx⟩ := h4 hn
  subst ha
  refine ⟨g, off, c, hv, h1, h2, hg, (Array.getElem?_eq_some_iff.1 hh).1, fun j u hu => ?_⟩
  rw [cell_of_row w g (off + j) cur e fr hh]
  rw [← hx, List.getElem?_take] at hu
  split at hu
  · rw [List.getElem?_drop] at hu; simpa using hu
  · cases hu

/-- a row of the call's own reads as what it holds -/
theorem RdV.of_own {base : Nat} {e : TypeId} (h : w.ownsRow base e size v n xs) (hF : ∀ k, base ≤ k → ¬ F k) : RdV F w size v n xs := by
  refine ⟨h.1, ?_⟩
  rcases h.2 with ⟨rfl, rfl⟩ | ⟨g, cap, cur, rfl, hb, hg, h1, h2, h3, h4⟩
  · exact ⟨none, 0, rfl, Nat.le_refl _, Nat.zero_le _, fun _ => rfl, fun h => absurd h (by omega)⟩
  · exact ⟨_, cap, rfl, h1, h2, (by simp), fun _ => ⟨g, 0, cur, e, _, rfl, hF g hb, hg, by simpa using h4⟩⟩

theorem RdV.of_own' {base : Nat} {e : TypeId} (h : w.ownsRow base e size v n xs) (hF : ∀ k, v.ownBlock = some k → ¬ F k) : RdV F w size v n xs := by
  refine ⟨h.1, ?_⟩
  rcases h.2 with ⟨rfl, rfl⟩ | ⟨g, cap, cur, rfl, hb, hg, h1, h2, h3, h4⟩
  · exact ⟨none, 0, rfl, Nat.le_refl _, Nat.zero_le _, fun _ => rfl, fun h => absurd h (by omega)⟩
  · exact ⟨_, cap, rfl, h1, h2, (by simp), fun _ => ⟨g, 0, cur, e, _, rfl, hF g rfl, hg, by simpa using h4⟩⟩
end

section
variable {F F' : Foot} {w w' : World} {v : Value} {l : List UInt8}
theorem RdB.chg (h : RdB F w v l) (hc : Chg F F' w w') : RdB F' w' v l := RdV.chg h hc
theorem RdB.below (h : RdB F w v l) (hb : Below w.heap.size w w') : RdB F w' v l := RdV.below h hb
theorem RdB.mono (h : RdB F w v l) (hF : ∀ k, k < w.heap.size → F' k → F k) : RdB F' w v l := RdV.mono h hF
theorem RdB.nil (F : Foot) (w : World) : RdB F w (.slice none 0 0) [] := RdV.nil F w 1
theorem RdB.form (h : RdB F w v l) : ∃ a c, v = .slice a l.length c ∧ l.length ≤ c ∧ c ≤ maxLen := RdV.form h
theorem RdB.at_ (h : RdB F w v l) (hn : 0 < l.length) : ∃ g off c, v = .slice (some ⟨g, off, none⟩) l.length c ∧ l.length ≤ c ∧ c ≤ maxLen ∧ ¬ F g ∧ g < w.heap.size ∧
    (∀ i (hi : i < l.length), w.cell? ⟨g, off + i, none⟩ = some (.int .u8 (l[i].toNat : Int))) := by
  obtain ⟨g, off, c, hv, h1, h2, h3, h4, h5⟩ := RdV.at_ h hn
  exact ⟨g, off, c, hv, h1, h2, h3, h4, fun i hi => h5 i _ (by rw [bv_getElem?, List.getElem?_eq_getElem hi]; rfl)⟩
end

/-- a row of bytes of the call's own -/
def OwnB (w : World) (base : Nat) (e : TypeId) (v : Value) (l : List UInt8) : Prop := w.ownsRow base e 1 v l.length (bv l)

theorem OwnB.rd {F : Foot} {w : World} {base : Nat} {e : TypeId} {v : Value} {l : List UInt8} (h : OwnB w base e v l) (hF : ∀ k, base ≤ k → ¬ F k) : RdB F w v l := RdV.of_own h hF

theorem ownBlock_lt {w : World} {base : Nat} {e : TypeId} {size n : Nat} {v : Value} {xs : List Value} (h : w.ownsRow base e size v n xs) {k : Nat} (hk : v.ownBlock = some k) : base ≤ k ∧ k < w.heap.size := h.lt k hk

theorem ownsRow_base {w : World} {base base' : Nat} {e : TypeId} {size n : Nat} {v : Value} {xs : List Value} (h : w.ownsRow base e size v n xs) (hb : ∀ k, v.ownBlock = some k → base' ≤ k) : w.ownsRow base' e size v n xs := by
  refine ⟨h.1, ?_⟩
  rcases h.2 with hn | ⟨g, cap, cur, rfl, _, rest⟩
  · exact .inl hn
  · exact .inr ⟨g, cap, cur, rfl, hb g rfl, rest⟩

/-- AN APPEND TO A ROW OF THE CALL's OWN, the source whatever reads. -/
theorem run_append_rd {P : Program} {F : Foot} {w : World} {t ty e : TypeId} {i : TypeInfo} {z : Value} {size bytes base : Nat} (ht : P.underlying t = some (.slice e)) (hi : P.info? e = some i) (hz : i.zero = some z)
    (hsize : i.size = size) (hby : i.bytes = bytes) (hzs : z.cells.size = size) (hsz : 0 < size)
    {v s : Value} {n m : Nat} {xs ys : List Value} (hown : w.ownsRow base e size v n xs) (hs : RdV F w size s m ys) (h1 : ∀ u ∈ ys, u.oneCell' = true)
    (hbytes : (n + m) * bytes ≤ 140737488355328) (hpos : 0 < bytes) (hbase : base ≤ w.heap.size) :
    ∃ v' w', (Builtin.append_ #[t, t] ty #[v, s]).run P w = .ok v' w' ∧ w'.ownsRow base e size v' (n + m) (xs ++ ys) ∧ w.grownBy w' v.ownBlock ∧
      (v'.ownBlock = v.ownBlock ∨ v'.ownBlock = some w.heap.size) ∧ (v' = .slice none 0 0 ↔ v = .slice none 0 0 ∧ m = 0) := by
  have h63 : n + m ≤ maxLen := by
    have : n + m ≤ (n + m) * bytes := Nat.le_mul_of_pos_right _ hpos
    unfold maxLen; omega
  obtain ⟨hl, a, c, rfl, hc1, hc2, hnil, hrd⟩ := hs
  by_cases hm : m = 0
  · subst hm
    obtain rfl : ys = [] := List.eq_nil_of_length_eq_zero (by simpa using hl)
    refine ⟨v, w, ?_, by simpa using hown, ⟨rfl, rfl, rfl, Nat.le_refl _, fun _ _ _ => rfl⟩, .inl rfl, by simp⟩
    subst hsize
    subst hby
    rcases hown.2 with ⟨rfl, rfl⟩ | ⟨g, cap, cur, rfl, hbg, hg, hnc, hcm, hcs, htake⟩
    · cases a <;> simp [Builtin.append_, run_underlying ht, Go.sizeOf, typeInfo, hi, Builtin.lenOf, Builtin.firstCells, loadCells, loadCellsFrom]
    · cases a with
      | none =>
        obtain rfl : c = 0 := hnil rfl
        exact run_append_owned_none (P := P) (w := w) base t ty e i _ ht hi _ n xs hown
      | some ad =>
        have hr := run_append_room (P := P) w t ty e i ht hi g n cap cur hg ad 0 c [] (by simp) (by simp) (by simp) (by omega)
          (by simp only [List.length_nil, Nat.add_zero]; rw [hcs]; exact Nat.mul_le_mul_right _ hnc)
        rw [hr]
        simp only [List.length_nil, Nat.add_zero, List.append_nil, List.take_append_drop]
        congr 1
        have : cur.toList.toArray = cur := by simp
        rw [this]
        exact setRow_self w g cur e (0, 0) hg
  · obtain ⟨g0, off, cur0, e0, fr, rfl, _, hh, hx⟩ := hrd (by omega)
    have hnews : ∀ j u, ys[j]? = some u → w.cell? ((⟨g0, off, none⟩ : Addr).add j) = some u := by
      intro j u hu
      rw [addr_add, cell_of_row w g0 (off + j) cur0 e0 fr hh]
      rw [← hx, List.getElem?_take] at hu
      split at hu
      · rw [List.getElem?_drop] at hu; simpa using hu
      · cases hu
    obtain ⟨v', w', hr, h2, h3, h4⟩ := run_append_own (P := P) w base t ty e i z size bytes ht hi hz hsize hby hzs hsz v n xs hown ⟨g0, off, none⟩ m c ys hl hnews h1 h63 hbytes hbase
    refine ⟨v', w', hr, h2, h3, ?_, h4⟩
    subst hsize
    subst hby
    rcases hown.2 with ⟨rfl, rfl⟩ | ⟨g, cap, cur, rfl, hbg, hg, hnc, hcm, hcs, htake⟩
    · have hr' := run_append_nil (P := P) w t ty e i z ht hi hz ⟨g0, off, none⟩ m c ys hl hnews (by omega) (by unfold maxLen at h63; omega) (by have hb := hbytes; simp only [Nat.zero_add] at hb; omega)
      rw [hr] at hr'
      injection hr' with e1 e2
      subst e1
      exact .inr rfl
    · by_cases hroom : n + m ≤ cap
      · have hfit : n * i.size + ys.length ≤ cur.size := by rw [hl, hcs, ← Nat.add_mul]; exact Nat.mul_le_mul_right _ hroom
        have hr' := run_append_room (P := P) w t ty e i ht hi g n cap cur hg ⟨g0, off, none⟩ m c ys hl hnews h1 hroom hfit
        rw [hr] at hr'
        injection hr' with e1 e2
        subst e1
        exact .inl rfl
      · have holds : ∀ j u, xs[j]? = some u → w.cell? ((⟨g, 0, none⟩ : Addr).add j) = some u := hown.cells (g := g) rfl
        have hr' := run_append_grow (P := P) w t ty e i z ht hi hz ⟨g, 0, none⟩ n cap xs hown.1 holds ⟨g0, off, none⟩ m c ys hl hnews (by omega) (by unfold maxLen at h63; omega) (growslice_fits (by omega) hbytes)
        rw [hr] at hr'
        injection hr' with e1 e2
        subst e1
        exact .inr rfl


/-- an append whose run is known -/
theorem wpList_append_eq {P : Program} {ops : Array Oper} {rest : List Oper} {o : Oper} {a : Act} {w : World} {Q : Exit → Act → World → Prop} (hgd : o.guard = none) {s x : Operand} {t : TypeId}
    (ho : o.op = .call { callee := .builtin .append, args := #[s, x], argTypes := #[t, t] }) {v sv v' : Value} {w' : World}
    (hr : (Builtin.append_ #[t, t] o.type #[v, sv]).run P w = .ok v' w') (hs : a.eval s = v) (hx : a.eval x = sv) (h : wpList P ops Q rest (a.put o.dst v') w') : wpList P ops Q (o :: rest) a w := by
  refine wpList_plain hgd fun K hK => ?_
  unfold Oper.wp
  simp [execOp, ho, resolve, invoke, builtin, hs, hx, hr, Result.andThen]
  exact hK _ _ h

/-- any builtin whose run is known -/
theorem wpList_copy_eq {P : Program} {ops : Array Oper} {rest : List Oper} {o : Oper} {a : Act} {w : World} {Q : Exit → Act → World → Prop} (hgd : o.guard = none) {s x : Operand} {t u : TypeId}
    (ho : o.op = .call { callee := .builtin .copy, args := #[s, x], argTypes := #[t, u] }) {v sv v' : Value} {w' : World}
    (hr : (Builtin.copy_ #[t, u] o.type #[v, sv]).run P w = .ok v' w') (hs : a.eval s = v) (hx : a.eval x = sv) (h : wpList P ops Q rest (a.put o.dst v') w') : wpList P ops Q (o :: rest) a w := by
  refine wpList_plain hgd fun K hK => ?_
  unfold Oper.wp
  simp [execOp, ho, resolve, invoke, builtin, hs, hx, hr, Result.andThen]
  exact hK _ _ h

theorem wpList_clear_eq {P : Program} {ops : Array Oper} {rest : List Oper} {o : Oper} {a : Act} {w : World} {Q : Exit → Act → World → Prop} (hgd : o.guard = none) {s : Operand} {t : TypeId}
    (ho : o.op = .call { callee := .builtin .clear, args := #[s], argTypes := #[t] }) {v v' : Value} {w' : World}
    (hr : (Builtin.clear_ #[t] o.type #[v]).run P w = .ok v' w') (hs : a.eval s = v) (h : wpList P ops Q rest (a.put o.dst v') w') : wpList P ops Q (o :: rest) a w := by
  refine wpList_plain hgd fun K hK => ?_
  unfold Oper.wp
  simp [execOp, ho, resolve, invoke, builtin, hs, hr, Result.andThen]
  exact hK _ _ h


/-- a string of bytes -/
def strOf (l : List UInt8) : ByteArray := ⟨l.toArray⟩

section
variable {w w' : World} {base : Nat} {e : TypeId} {v : Value} {l : List UInt8}

theorem OwnB.at_ (h : OwnB w base e v l) (hn : 0 < l.length) : ∃ g c, v = .slice (some ⟨g, 0, none⟩) l.length c ∧ base ≤ g ∧ g < w.heap.size ∧ l.length ≤ c ∧ c ≤ maxLen ∧
    (∀ i (hi : i < l.length), w.cell? ⟨g, i, none⟩ = some (.int .u8 (l[i].toNat : Int))) ∧ (∀ i, w.frozen? ⟨g, i, none⟩ = false) := by
  rcases h.2 with ⟨rfl, h0⟩ | ⟨g, cap, cur, rfl, hb, hg, h1, h2, h3, h4⟩
  · omega
  · refine ⟨g, cap, rfl, hb, (Array.getElem?_eq_some_iff.1 hg).1, h1, h2, fun i hi => ?_, fun i => ?_⟩
    · rw [cell_of_row w g i cur e (0, 0) hg]
      have hc := congrArg (fun x => x[i]?) h4
      simp only [bv_getElem?, List.getElem?_eq_getElem hi, Option.map_some] at hc
      rw [List.getElem?_take, if_pos (by omega)] at hc
      simpa using hc
    · simp [World.frozen?, hg]

theorem OwnB.below (h : OwnB w base e v l) (hb : Below w.heap.size w w') : OwnB w' base e v l := by
  refine ⟨h.1, ?_⟩
  rcases h.2 with hn | ⟨g, cap, cur, rfl, hbg, hg, rest⟩
  · exact .inl hn
  · exact .inr ⟨g, cap, cur, rfl, hbg, by rw [hb.block g (Array.getElem?_eq_some_iff.1 hg).1]; exact hg, rest⟩

theorem OwnB.chg {F F' : Foot} (h : OwnB w base e v l) (hc : Chg F F' w w') (hF : ∀ k, v.ownBlock = some k → ¬ F k) : OwnB w' base e v l := by
  refine ⟨h.1, ?_⟩
  rcases h.2 with hn | ⟨g, cap, cur, rfl, hbg, hg, rest⟩
  · exact .inl hn
  · exact .inr ⟨g, cap, cur, rfl, hbg, by rw [hc.block g (Array.getElem?_eq_some_iff.1 hg).1 (hF g rfl)]; exact hg, rest⟩

theorem OwnB.set (h : OwnB w base e v l) {g i : Nat} (hg : v.ownBlock = some g) (hi : i < l.length) (b : UInt8) (x : Int) (hx : x = b.toNat) : OwnB (w.setCell ⟨g, i, none⟩ (.int .u8 x)) base e v (l.set i b) := by
  subst hx
  unfold OwnB
  rw [List.length_set]
  refine ⟨by simp [bv], ?_⟩
  rcases h.2 with ⟨rfl, h0⟩ | ⟨g', cap, cur, rfl, hbg, hgg, h1, h2, h3, h4⟩
  · omega
  · simp only [Value.ownBlock, Option.some.injEq] at hg
    subst hg
    refine .inr ⟨g', cap, cur.setIfInBounds i (.int .u8 (b.toNat : Int)), rfl, hbg, ?_, h1, h2, by simpa using h3, ?_⟩
    · simp [World.setCell, Array.getElem?_modify, hgg]
    · rw [Array.toList_setIfInBounds, List.take_set, h4]
      simp [bv, List.map_set]
end


section
variable {w w' : World} {base g n c : Nat} {e : TypeId} {l : List UInt8}
theorem OwnB.cellAt (h : OwnB w base e (.slice (some ⟨g, 0, none⟩) n c) l) (i : Nat) (hi : i < l.length) : w.cell? ⟨g, i, none⟩ = some (.int .u8 (l[i].toNat : Int)) := by
  obtain ⟨g', c', hv, _, _, _, _, h5, _⟩ := h.at_ (by omega)
  injection hv with e1 _ _
  injection e1 with e1
  injection e1 with e1 _ _
  subst e1
  exact h5 i hi
theorem OwnB.cellEx (h : OwnB w base e (.slice (some ⟨g, 0, none⟩) n c) l) (i : Nat) (hi : i < l.length) : ∃ b : Int, w.cell? ⟨g, i, none⟩ = some (.int .u8 b) := ⟨_, h.cellAt i hi⟩
theorem OwnB.frozenAt (h : OwnB w base e (.slice (some ⟨g, 0, none⟩) n c) l) (hl : 0 < l.length) (i : Nat) : w.frozen? ⟨g, i, none⟩ = false := by
  obtain ⟨g', c', hv, _, _, _, _, _, h6⟩ := h.at_ hl
  injection hv with e1 _ _
  injection e1 with e1
  injection e1 with e1 _ _
  subst e1
  exact h6 i
end


/-- the form, the length a letter of its own -/
theorem RdB.formN {F : Foot} {w : World} {v : Value} {l : List UInt8} (h : RdB F w v l) : ∃ a n c, v = .slice a n c ∧ Hid (n = l.length) ∧ n ≤ c ∧ c ≤ maxLen := by
  obtain ⟨a, c, hv, h1, h2⟩ := h.form
  exact ⟨a, _, c, hv, rfl, h1, h2⟩


theorem RdV.drewN {F : Foot} {w : World} {size n : Nat} {v : Value} {xs : List Value} (h : RdV F w size v n xs) (k : Nat) : RdV F (w.drewN k) size v n xs := h
theorem RdB.drewN {F : Foot} {w : World} {v : Value} {l : List UInt8} (h : RdB F w v l) (k : Nat) : RdB F (w.drewN k) v l := h
theorem below_drewN {B : Nat} {a w : World} (h : Below B a w) (n : Nat) : Below B a (w.drewN n) := ⟨h.os, h.tape, h.output, h.size, h.block⟩

/-- a call that leaves the world alone, in a region that draws its order -/
theorem quiet_eq {P : Program} {f : FuncId} {args : Array Value} {w : World} {n : Nat} {v : Value} (h : Calls P f args (w.drewN n) fun e w' => e = .returned v ∧ w.drewN n = w') :
    Calls P f args (w.drewN n) fun e w'' => e = .returned v ∧ ∃ m, w'' = w.drewN m := h.mono fun _ _ ⟨he, hm⟩ => ⟨he, n, hm.symm⟩


theorem RdV.alloc {F : Foot} {w : World} {size n : Nat} {v : Value} {xs : List Value} (h : RdV F w size v n xs) (o : Obj) : RdV F (w.alloc o) size v n xs := h.below ((Below.refl _ _).alloc (Nat.le_refl _) o)
theorem RdB.alloc {F : Foot} {w : World} {v : Value} {l : List UInt8} (h : RdB F w v l) (o : Obj) : RdB F (w.alloc o) v l := RdV.alloc h o


theorem below_more {a w : World} (h : Below a.heap.size a w) (o : Obj) : Below a.heap.size a (w.alloc o) := h.alloc h.size o

end Mun
end

section
/- The seat's own facts on types. -/
namespace Mun
open Go Go.RowKit
open Go.Proofs

theorem info_u8 : (Try.prog.info? 5).map (fun i => (i.zero, i.size, i.bytes)) = some (some (.int .u8 0), 1, 1) := by kernel_rfl

theorem info_of {P : Program} {e : TypeId} {z : Value} {s b : Nat} (h : (P.info? e).map (fun i => (i.zero, i.size, i.bytes)) = some (some z, s, b)) :
    ∃ i, P.info? e = some i ∧ i.zero = some z ∧ i.size = s ∧ i.bytes = b := by
  cases hi : P.info? e with
  | none => simp [hi] at h
  | some i => simp [hi] at h; exact ⟨i, rfl, h.1, h.2.1, h.2.2⟩

/-- an append of bytes to a row of the call's own -/
theorem append_bytes {F : Foot} {w : World} {base : Nat} {ty : TypeId} {v s : Value} {xs ys : List UInt8} (hown : OwnB w base 5 v xs) (hs : RdB F w s ys)
    (hbytes : xs.length + ys.length ≤ 140737488355328) (hbase : base ≤ w.heap.size) :
    ∃ v' w', (Builtin.append_ #[23, 23] ty #[v, s]).run Try.prog w = .ok v' w' ∧ OwnB w' base 5 v' (xs ++ ys) ∧ w.grownBy w' v.ownBlock ∧
      (v'.ownBlock = v.ownBlock ∨ v'.ownBlock = some w.heap.size) ∧ (v' = .slice none 0 0 ↔ v = .slice none 0 0 ∧ ys.length = 0) := by
  obtain ⟨i, hi, hz, h1, h2⟩ := info_of info_u8
  obtain ⟨v', w', hr, h3, h4, h5, h6⟩ := run_append_rd (P := Try.prog) (ty := ty) Try.underlying23 hi hz h1 h2 (by rfl) (by omega) hown hs (bv_oneCell _) (by omega) (by omega) hbase
  refine ⟨v', w', hr, ?_, h4, h5, h6⟩
  unfold OwnB
  rw [List.length_append, bv_append]
  exact h3

/-- a block of bytes -/
def bobj (l : List UInt8) : Obj := .cells (bv l).toArray 5

theorem bobj_cell (w : World) (l : List UInt8) (i : Nat) (h : i < l.length) : (w.alloc (bobj l)).cell? ⟨w.heap.size, i, none⟩ = some (.int .u8 (l[i].toNat : Int)) := by
  have := cell_of_row (w.alloc (bobj l)) w.heap.size i (bv l).toArray 5 (0, 0) (heap_alloc_new w _)
  rw [this]
  simp [bv, h]

theorem bobj_frozen (w : World) (l : List UInt8) (i : Nat) : (w.alloc (bobj l)).frozen? ⟨w.heap.size, i, none⟩ = false := by
  have : (w.alloc (bobj l)).heap[w.heap.size]? = some (.cells (bv l).toArray 5 (0, 0)) := heap_alloc_new w _
  simp only [World.frozen?, this]
  simp

theorem bobj_set (w : World) (l : List UInt8) (i : Nat) (x : Int) (b : UInt8) (hb : x = b.toNat) : (w.alloc (bobj l)).setCell ⟨w.heap.size, i, none⟩ (.int .u8 x) = w.alloc (bobj (l.set i b)) := by
  subst hb
  unfold bobj
  rw [World.setCell_alloc_new]
  congr 2
  simp [bv, List.map_set]

theorem bobj_rd {F : Foot} (w : World) (l : List UInt8) (c : Nat) (hc : c = l.length) (hm : l.length ≤ maxLen) (hF : ¬ F w.heap.size) : RdB F (w.alloc (bobj l)) (.slice (some ⟨w.heap.size, 0, none⟩) l.length c) l := by
  subst hc
  refine ⟨by simp [bv], _, _, rfl, Nat.le_refl _, hm, by simp, fun _ => ⟨_, 0, _, _, _, rfl, hF, heap_alloc_new w _, ?_⟩⟩
  simp only [List.drop_zero]
  rw [List.take_of_length_le (by simp [bv])]

theorem bobj_own (w : World) (l : List UInt8) (c base : Nat) (hc : c = l.length) (hm : l.length ≤ maxLen) (hB : base ≤ w.heap.size) : OwnB (w.alloc (bobj l)) base 5 (.slice (some ⟨w.heap.size, 0, none⟩) l.length c) l := by
  subst hc
  refine ⟨by simp [bv], .inr ⟨_, _, _, rfl, hB, heap_alloc_new w _, Nat.le_refl _, hm, by simp [bv], ?_⟩⟩
  rw [List.take_of_length_le (by simp [bv])]

theorem madeCells_u8 (n : Nat) : madeCells #[Value.int .u8 0] n = (bv (List.replicate n 0)).toArray := by
  apply Array.ext
  · simp [madeCells, bv]
  · intro i h1 h2
    simp [madeCells, bv, Nat.mod_one]

theorem make_bytes (n c : Nat) (hn : n ≤ c) (hc : c ≤ 140737488355328) (w : World) :
    (Instr.makeSlice 23 (.int .i64 n) (.int .i64 c)).run Try.prog w = .ok (.slice (some ⟨w.heap.size, 0, none⟩) n c) (w.alloc (bobj (List.replicate c 0))) := by
  obtain ⟨i, hi, hz, h1, h2⟩ := info_of info_u8
  have hr := run_make (P := Try.prog) w _ _ i _ Try.underlying23 hi hz .i64 .i64 n c (by omega) (by omega) (by rw [h2]; omega) (by omega)
  rw [hr, h1]
  simp only [Int.toNat_natCast, Nat.mul_one]
  unfold bobj
  rw [show (Value.int IntKind.u8 0).cells = #[Value.int .u8 0] from rfl, madeCells_u8]

theorem make_bytes0 (c : Nat) (hc : c ≤ 140737488355328) (w : World) :
    (Instr.makeSlice 23 (.int .i64 0) (.int .i64 c)).run Try.prog w = .ok (.slice (some ⟨w.heap.size, 0, none⟩) 0 c) (w.alloc (bobj (List.replicate c 0))) :=
  make_bytes 0 c (Nat.zero_le _) hc w

theorem setRow_alloc (w : World) (c d : Array Value) (t : TypeId) : (w.alloc (.cells c t)).setRow w.heap.size d = w.alloc (.cells d t) := by
  simp only [World.setRow, World.alloc]
  congr 1
  apply Array.ext_getElem?
  intro i
  rw [Array.getElem?_modify]
  by_cases h : w.heap.size = i
  · subst h; simp
  · rw [if_neg h]
    by_cases h2 : i < w.heap.size
    · simp [Array.getElem?_push, Ne.symm h]
    · simp [Array.getElem?_push, Ne.symm h]

set_option maxRecDepth 100000 in
/-- make with just the room, then append: the copy -/
theorem copied_bytes {F : Foot} {w : World} {ty : TypeId} {v : Value} {l : List UInt8} (h : RdB F w v l) (hl : l.length ≤ 140737488355328) :
    (Builtin.append_ #[23, 23] ty #[.slice (some ⟨w.heap.size, 0, none⟩) 0 l.length, v]).run Try.prog (w.alloc (bobj (List.replicate l.length 0))) =
      .ok (.slice (some ⟨w.heap.size, 0, none⟩) l.length l.length) (w.alloc (bobj l)) := by
  obtain ⟨i, hi, hz, h1, h2⟩ := info_of info_u8
  have hb : RdB F (w.alloc (bobj (List.replicate l.length 0))) v l := h.below ((Below.refl _ _).alloc (Nat.le_refl _) _)
  rcases Nat.eq_zero_or_pos l.length with h0 | hp
  · obtain rfl : l = [] := List.eq_nil_of_length_eq_zero h0
    have hown : OwnB (w.alloc (bobj [])) w.heap.size 5 (.slice (some ⟨w.heap.size, 0, none⟩) 0 0) [] := bobj_own w [] 0 _ rfl (Nat.zero_le _) (Nat.le_refl _)
    obtain ⟨a, c, rfl, hc1, hc2⟩ := h.form
    have hnil : a = none → c = 0 := by
      obtain ⟨_, a', c', hv, _, _, h3, _⟩ := h
      injection hv with e1 _ e3
      subst e1 e3
      exact h3
    simp only [List.length_nil, List.replicate_zero]
    cases a with
    | none =>
      obtain rfl := hnil rfl
      exact run_append_owned_none (P := Try.prog) (w := w.alloc (bobj [])) _ _ ty _ i 1 Try.underlying23 hi _ 0 [] hown
    | some ad =>
      have hg : (w.alloc (bobj [])).heap[w.heap.size]? = some (.cells #[] 5 (0, 0)) := heap_alloc_new w _
      have hr := run_append_room (P := Try.prog) (w.alloc (bobj [])) 23 ty 5 i Try.underlying23 hi w.heap.size 0 0 #[] hg ad 0 c [] (by simp) (by simp) (by simp) (by omega) (by simp)
      rw [hr]
      congr 1
      simp only [Nat.zero_mul, List.take_zero, List.nil_append, List.length_nil, Nat.add_zero, List.drop_zero]
      exact setRow_self _ w.heap.size #[] _ _ hg
  · obtain ⟨g, off, c, rfl, hc1, hc2, hF, hlt, hcell⟩ := hb.at_ hp
    have hg : (w.alloc (bobj (List.replicate l.length 0))).heap[w.heap.size]? = some (.cells (bv (List.replicate l.length 0)).toArray 5 (0, 0)) := heap_alloc_new w _
    have hr := run_append_room (P := Try.prog) (w.alloc (bobj (List.replicate l.length 0))) 23 ty 5 i Try.underlying23 hi w.heap.size 0 l.length _ hg ⟨g, off, none⟩ l.length c (bv l) (by simp [bv, h1])
      (by
        intro j u hu
        rw [addr_add]
        rw [bv_getElem?] at hu
        have hj : j < l.length := by
          rcases Nat.lt_or_ge j l.length with h | h
          · exact h
          · rw [List.getElem?_eq_none h] at hu; cases hu
        rw [List.getElem?_eq_getElem hj] at hu
        simp only [Option.map_some, Option.some.injEq] at hu
        rw [← hu]
        exact hcell j hj) (bv_oneCell l) (by omega) (by simp [bv])
    rw [hr]
    simp only [Nat.zero_add, Nat.zero_mul, List.take_zero, List.nil_append]
    congr 1
    rw [List.drop_eq_nil_of_le (by simp [bv]), List.append_nil]
    exact setRow_alloc _ _ _ _
/-- a part of what reads -/
theorem RdB.part {F : Foot} {w : World} {a : Option Addr} {n c : Nat} {l : List UInt8} (h : RdB F w (.slice a n c) l) (lo hi : Nat) (h1 : lo ≤ hi) (h2 : hi ≤ l.length) :
    RdB F w (.slice (if c = lo then a else a.map (·.add lo)) (hi - lo) (c - lo)) ((l.drop lo).take (hi - lo)) := by
  obtain ⟨h0, a', c', hv, hc1, hc2, hnil, h4⟩ := h
  injection hv with e1 e2 e3
  subst e1 e2 e3
  have hlen : ((l.drop lo).take (hi - lo)).length = hi - lo := by rw [List.length_take, List.length_drop]; omega
  refine ⟨by rw [hlen, bv_length, hlen]; omega, _, _, by rw [hlen], by omega, by omega, ?_, ?_⟩
  · intro hn
    split at hn
    · have := hnil hn; omega
    · cases a with
      | none => have := hnil rfl; omega
      | some _ => simp at hn
  · intro hp
    rw [hlen] at hp
    obtain ⟨g, off, cur, e, fr, ha, hg, hh, hx⟩ := h4 (by omega)
    subst ha
    refine ⟨g, off + lo, cur, e, fr, ?_, hg, hh, ?_⟩
    · rw [if_neg (by omega)]
      simp only [Option.map_some, addr_add]
    · have e1 : bv ((l.drop lo).take (hi - lo)) = ((bv l).drop lo).take (hi - lo) := by simp [bv, List.map_take, List.map_drop]
      rw [hlen, e1, ← hx, List.drop_take, List.take_take, List.drop_drop]
      congr 1
      omega


/-- the run of a cut -/
theorem slice_bytes {F : Foot} {w : World} {a : Option Addr} {n c : Nat} {l : List UInt8} (h : RdB F w (.slice a n c) l) (lo hi : Nat) (L H : Int) (hL : L = lo) (hH : H = hi) (h1 : lo ≤ hi) (h2 : hi ≤ l.length) :
    ∃ a1 c1, (∀ W, (Instr.sliceAt 23 (.slice a n c) (some (.int .i64 L)) (some (.int .i64 H)) none).run Try.prog W = .ok (.slice a1 (hi - lo) c1) W) ∧
      RdB F w (.slice a1 (hi - lo) c1) ((l.drop lo).take (hi - lo)) := by
  subst hL
  subst hH
  have hp := h.part lo hi h1 h2
  obtain ⟨a', c', hv, hc1, hc2⟩ := h.form
  injection hv with e1 e2 e3
  subst e1 e2 e3
  refine ⟨_, _, fun W => ?_, hp⟩
  obtain ⟨i, hi', hz, hs1, hs2⟩ := info_of info_u8
  have he : Try.prog.elem 23 = 5 := by kernel_rfl
  have ht : Try.prog.underlying 23 = some (.slice (Try.prog.elem 23)) := by rw [he]; exact Try.underlying23
  rw [run_sliceAt_slice _ _ _ _ _ _ ht, run_slice_lh _ _ _ _ _ ht _ _ _ _ (by omega) (by omega) (by omega), he]
  simp [Go.sizeOf, typeInfo, hi', hs1, sliced]


/-- one byte, as the walk writes it -/
theorem bobj_one (w : World) (b : UInt8) (x : Int) (hx : x = b.toNat) : w.alloc (.cells #[Value.int .u8 x] 5) = w.alloc (bobj [b]) := by
  subst hx; rfl


theorem conv_bytes (w : World) (C : Array Value) (g n c : Nat) (hg : g = w.heap.size) :
    (convert 23 23 (.slice (some ⟨g, 0, none⟩) n c)).run Try.prog (w.alloc (.cells C 5)) = .ok (.slice (some ⟨g, 0, none⟩) n c) (w.alloc (.cells C 5 (C.size, C.size + 1))) := by
  subst hg
  exact Lib.run_convert_bytes_const (P := Try.prog) w 23 5 C n c Try.underlying23 Try.underlying5

/-- a block of bytes that the walk has written out reads as them -/
theorem lit_rd {F : Foot} (w : World) (C : Array Value) (fr : Nat × Nat) (l : List UInt8) (hC : C.toList = bv l) (g n c : Nat) (hg : g = w.heap.size) (hn : n = l.length) (hc : c = l.length) (hm : l.length ≤ maxLen) (hF : ¬ F w.heap.size) :
    RdB F (w.alloc (.cells C 5 fr)) (.slice (some ⟨g, 0, none⟩) n c) l := by
  subst hg
  subst hn
  subst hc
  refine ⟨by simp [bv], _, _, rfl, Nat.le_refl _, hm, by simp, fun _ => ⟨_, 0, _, _, _, rfl, hF, heap_alloc_new w _, ?_⟩⟩
  simp only [List.drop_zero]
  rw [hC, List.take_of_length_le (by simp [bv])]


/-- string(b) -/
theorem str_bytes {F : Foot} {w : World} {v : Value} {l : List UInt8} (h : RdB F w v l) : (convert 23 9 v).run Try.prog w = .ok (.string (strOf l)) w := by
  obtain ⟨h0, a, c, rfl, hc1, hc2, hnil, h4⟩ := h
  cases a with
  | none =>
    have : c = 0 := hnil rfl
    obtain rfl : l = [] := List.eq_nil_of_length_eq_zero (by omega)
    rw [run_convert_bytes_string w _ _ 5 none _ c Try.underlying23 Try.underlying5 Try.underlying9]
    rfl
  | some ad =>
    refine run_convert_bytes_back w _ _ 5 ad c l Try.underlying23 Try.underlying5 Try.underlying9 (fun j hj => ?_)
    obtain ⟨g, off, cur, e, fr, ha, hg, hh, hx⟩ := h4 (by omega)
    injection ha with ha
    subst ha
    rw [addr_add, cell_of_row w g (off + j) cur e fr hh]
    have := congrArg (fun x => x[j]?) hx
    simp only [bv_getElem?, List.getElem?_eq_getElem hj, Option.map_some] at this
    rw [List.getElem?_take, if_pos (by omega), List.getElem?_drop] at this
    simpa using this

theorem strOf_toList (l : List UInt8) : (strOf l).toList = l := by
  rw [ByteArray.toList_eq]; rfl

theorem strOf_eq (a b : List UInt8) : ((strOf a).toList == (strOf b).toList) = decide (a = b) := by
  rw [strOf_toList, strOf_toList]
  by_cases h : a = b
  · subst h; simp
  · rw [decide_eq_false h]; simpa using h


theorem OwnB.nil (w : World) (base : Nat) (e : TypeId) : OwnB w base e (.slice none 0 0) [] := World.ownsRow_nil w base e 1

/-- append(nil, b...) -/
theorem append_nil_bytes {F : Foot} {w : World} {ty : TypeId} {s : Value} {ys : List UInt8} (hs : RdB F w s ys) (hbytes : ys.length ≤ 140737488355328) (hpos : 0 < ys.length) :
    ∃ g cap w', (Builtin.append_ #[23, 23] ty #[.slice none 0 0, s]).run Try.prog w = .ok (.slice (some ⟨g, 0, none⟩) ys.length cap) w' ∧
      OwnB w' w.heap.size 5 (.slice (some ⟨g, 0, none⟩) ys.length cap) ys ∧ Below w.heap.size w w' ∧ w.heap.size ≤ g := by
  obtain ⟨v3, w3, hr, ho, hgr, hob, hnil⟩ := append_bytes (base := w.heap.size) (ty := ty) (OwnB.nil w w.heap.size 5) hs (by simpa using hbytes) (Nat.le_refl _)
  rw [List.nil_append] at ho
  obtain ⟨g, cap, hvv, hg1, _⟩ := ho.at_ hpos
  subst hvv
  exact ⟨g, cap, w3, hr, ho, (Below.refl _ _).grown hgr (Nat.le_refl _) (fun k hk => by simp [Value.ownBlock] at hk), hg1⟩


/-- append([]byte{}, b...): an empty block of the call's own first -/
theorem append_empty_bytes {F : Foot} {w : World} {ty : TypeId} {s : Value} {ys : List UInt8} (hs : RdB F w s ys) (hbytes : ys.length ≤ 140737488355328) :
    ∃ g cap w', (Builtin.append_ #[23, 23] ty #[.slice (some ⟨w.heap.size, 0, none⟩) 0 0, s]).run Try.prog (w.alloc (.cells #[] 5)) = .ok (.slice (some ⟨g, 0, none⟩) ys.length cap) w' ∧
      OwnB w' w.heap.size 5 (.slice (some ⟨g, 0, none⟩) ys.length cap) ys ∧ Below w.heap.size w w' ∧ w.heap.size ≤ g := by
  have hb : Below w.heap.size w (w.alloc (.cells #[] 5)) := (Below.refl _ _).alloc (Nat.le_refl _) _
  have hown : OwnB (w.alloc (.cells #[] 5)) w.heap.size 5 (.slice (some ⟨w.heap.size, 0, none⟩) 0 0) [] := bobj_own w [] 0 _ rfl (Nat.zero_le _) (Nat.le_refl _)
  obtain ⟨v3, w3, hr, ho, hgr, hob, hnil⟩ := append_bytes (ty := ty) hown (hs.below hb) (by simpa using hbytes) (by simp)
  rw [List.nil_append] at ho
  have hB : Below w.heap.size w w3 := hb.grown hgr (by simp) (fun k hk => by simp [Value.ownBlock] at hk; omega)
  rcases ho.2 with ⟨rfl, _⟩ | ⟨g, cap, cur, rfl, hbg, rest⟩
  · simp at hnil
  · exact ⟨g, cap, w3, hr, ho, hB, hbg⟩


/-- an append of one byte to a row of the call's own -/
theorem append_byte {w : World} {base : Nat} {ty : TypeId} {v : Value} {xs : List UInt8} (b : UInt8) (x : Int) (hx : x = b.toNat) (hown : OwnB w base 5 v xs)
    (hbytes : xs.length + 1 ≤ 140737488355328) (hbase : base ≤ w.heap.size) :
    ∃ g cap w', (Builtin.append_ #[23, 23] ty #[v, .slice (some ⟨w.heap.size, 0, none⟩) 1 1]).run Try.prog (w.alloc (.cells #[.int .u8 x] 5)) = .ok (.slice (some ⟨g, 0, none⟩) (xs.length + 1) cap) w' ∧
      OwnB w' base 5 (.slice (some ⟨g, 0, none⟩) (xs.length + 1) cap) (xs ++ [b]) ∧ (w.alloc (.cells #[.int .u8 x] 5)).grownBy w' v.ownBlock ∧ base ≤ g ∧ xs.length + 1 ≤ cap ∧ (v.ownBlock = some g ∨ w.heap.size < g) := by
  have hx' : RdB (fun _ => False) (w.alloc (.cells #[.int .u8 x] 5)) (.slice (some ⟨w.heap.size, 0, none⟩) 1 1) [b] := lit_rd w _ _ [b] (by rw [hx]; rfl) _ _ _ rfl rfl rfl (by simp [maxLen]) (fun h => h)
  obtain ⟨v', w', hr, h1, h2, h3, h4⟩ := append_bytes (ty := ty) (World.ownsRow.alloc hown _) hx' (by simpa using hbytes) (by simp; omega)
  obtain ⟨g, cap, hv, hg1, hg2, hg3, hg4, _⟩ := h1.at_ (by simp)
  subst hv
  simp only [List.length_append, List.length_cons, List.length_nil, Nat.zero_add] at hr h1 hg3
  refine ⟨g, cap, w', hr, h1, h2, hg1, hg3, ?_⟩
  rcases h3 with h | h
  · exact .inl h.symm
  · simp [Value.ownBlock] at h; exact .inr (by omega)

/-- the run of a cut at the end -/
theorem slice_to (a : Option Addr) (n c m : Nat) (M : Int) (hM : M = m) (hm : m ≤ c) (ha : a = none ∨ ∃ g off, a = some ⟨g, off, none⟩) (W : World) :
    (Instr.sliceAt 23 (.slice a n c) none (some (.int .i64 M)) none).run Try.prog W = .ok (.slice a m c) W := by
  subst hM
  obtain ⟨i, hi', hz, hs1, hs2⟩ := info_of info_u8
  have he : Try.prog.elem 23 = 5 := by kernel_rfl
  have ht : Try.prog.underlying 23 = some (.slice (Try.prog.elem 23)) := by rw [he]; exact Try.underlying23
  rw [run_sliceAt_slice _ _ _ _ _ _ ht, run_slice_h _ _ _ _ _ ht _ _ (by omega) (by omega), he]
  have hadd : (if c = 0 then a else a.map (·.add 0)) = a := by
    split
    · rfl
    · rcases ha with rfl | ⟨g, off, rfl⟩
      · rfl
      · simp [addr_add]
  simp [Go.sizeOf, typeInfo, hi', hs1, sliced]
  cases a with
  | none => simp
  | some x => simp [Addr.add]

end Mun
end

section
/- From what a row reads of its arguments to my own words; and back. -/
set_option linter.unusedVariables false
namespace Mun
open Go Go.RowKit Go.ChangeShapes Go.WideShapes Go.ChangeAt

def NoF : Foot := fun _ => False
theorem noF (k : Nat) : ¬ NoF k := fun h => h

theorem cell_block {w : World} {a : Addr} {v : Value} (h : w.cell? a = some v) : a.spot = none ∧ ∃ cur e fr, w.heap[a.block]? = some (.cells cur e fr) ∧ cur[a.off]? = some v := by
  unfold World.cell? at h
  split at h
  · rename_i c e fr hh
    split at h
    · cases h
    · rename_i hs
      exact ⟨by simpa using hs, c, e, fr, hh, h⟩
  · cases h

theorem rd_of_cells {F : Foot} {w : World} {x : Addr} {len cap : Nat} {l : List UInt8} (hl : l.length = len) (hlc : len ≤ cap) (hcm : cap ≤ maxLen) (hF : ¬ F x.block)
    (hc : ∀ i (hi : i < l.length), w.cell? (x.add i) = some (.int .u8 (l[i].toNat : Int))) : RdB F w (.slice (some x) len cap) l := by
  subst hl
  refine ⟨by simp [bv], _, _, rfl, hlc, hcm, by simp, fun hn => ?_⟩
  have h0 := hc 0 hn
  rw [show x.add 0 = x by simp [Addr.add]] at h0
  obtain ⟨hs, cur, e, fr, hh, _⟩ := cell_block h0
  obtain ⟨g, off, spot⟩ := x
  simp only at hs hh hF
  subst hs
  refine ⟨g, off, cur, e, fr, rfl, hF, hh, ?_⟩
  apply List.ext_getElem?
  intro i
  rw [List.getElem?_take, bv_getElem?]
  by_cases hi : i < l.length
  · rw [if_pos (by omega), List.getElem?_drop, List.getElem?_eq_getElem hi]
    have h := hc i hi
    rw [addr_add, cell_of_row w g (off + i) cur e fr hh] at h
    simpa using h
  · rw [if_neg (by omega), List.getElem?_eq_none (by omega)]; rfl

section
variable {H : Type} {enc : TypeId × Value → H} {P : Program}

/-- an argument that is a slice of bytes -/
theorem open_bytes {w : World} {r : Reach} {b0 base : Nat} {spare : Nat → Bool} {held : Bool} {t e : TypeId} {v : Value} {d : DataW H} {p : List MemPlace} (ht : P.underlying t = some (.slice e)) (he : P.underlying e = some (.int .u8)) (hc : P.cellsOf e = 1)
    (hv : Value.okWide P w r b0 t v) (h : DataW.Trod enc P w base spare held t v d p) :
    ∃ l : List UInt8, RdB NoF w v l ∧ ((d = .nil ∧ l = []) ∨ ∃ el sp, d = .slice el sp ∧ l.length ≤ el.length + sp.length) := by
  obtain ⟨a0, len0, cap0, rfl⟩ := okWide_slice ht hv
  obtain ⟨fuel, hf⟩ := h
  rcases open_ints ht he hc hf with ⟨hcs, hx⟩ | ⟨x, len, c, zs, hcs, _, hl, hm, hz, hx, hcell, hwz⟩
  · simp [Value.cells] at hcs
    obtain ⟨rfl, rfl, rfl⟩ := hcs
    simp only [Prod.mk.injEq] at hx
    exact ⟨[], RdB.nil _ _, .inl ⟨hx.1, rfl⟩⟩
  · simp [Value.cells] at hcs
    obtain ⟨rfl, rfl, rfl⟩ := hcs
    simp only [Prod.mk.injEq] at hx
    have hlen : len0 ≤ zs.length := by rw [hz]; split <;> omega
    refine ⟨(zs.take len0).map fun n => UInt8.ofNat n.toNat, ?_, .inr ⟨_, _, hx.1, ?_⟩⟩
    · refine rd_of_cells (by simp; omega) hl hm (noF _) (fun i hi => ?_)
      have hi' : i < zs.length := by simp at hi; omega
      rw [hcell i hi']
      have hw := hwz (zs.getD i 0) (by rw [List.getD_eq_getElem?_getD, List.getElem?_eq_getElem hi']; exact List.getElem_mem hi')
      have hb := bounds_u8 hw
      simp only [List.getElem_map, List.getElem_take, UInt8.toNat_ofNat']
      rw [List.getD_eq_getElem?_getD, List.getElem?_eq_getElem hi'] at hb ⊢
      simp only [Option.getD_some] at hb ⊢
      congr 2
      omega
    · simp [lits]

theorem bytes_reach {ts : List TypeId} {ds : List (DataW H)} {j : Nat} {t e : TypeId} {d : DataW H} {l : List UInt8} (hsz : (DataW.weightsEach P ts ds).all (· ≤ reachBytes) = true)
    (htj : ts[j]? = some t) (hdj : ds[j]? = some d) (ht : P.underlying t = some (.slice e)) (hb : P.bytesOf e = 1)
    (h : (d = .nil ∧ l = []) ∨ ∃ el sp, d = .slice el sp ∧ l.length ≤ el.length + sp.length) : l.length ≤ 140737488351232 := by
  rcases h with ⟨_, rfl⟩ | ⟨el, sp, rfl, hl⟩
  · simp
  · have := sized_slice hsz htj hdj ht
    rw [hb] at this
    simp only [reachBytes] at this
    omega
end

end Mun
end

section
/- A map whose keys are ints, at the raw level: what it holds, and what the operations on it come to. -/
set_option linter.unusedVariables false
set_option linter.unusedSimpArgs false
namespace Mun
open Go Go.RowKit

theorem getObj_map {P : Program} {w : World} {r : Nat} {es : Array MapEntry} {clock : Nat} (hb : w.heap[r]? = some (.map es clock)) : (getObj r).run P w = .ok (.map es clock) w := by simp [getObj, Sem.run, hb]
theorem setObj_map {P : Program} {w : World} {r : Nat} {es : Array MapEntry} {clock : Nat} (o : Obj) (hb : w.heap[r]? = some (.map es clock)) : (setObj r o).run P w = .ok () { w with heap := w.heap.setIfInBounds r o } := by simp [setObj, Sem.run, hb]

/-- what a list of pairs holds at a key -/
def alook (es : List (Int × Value)) (k : Int) : Option Value := (es.find? (·.1 == k)).map (·.2)

/-- the entries with their stamps -/
def mkEntries (es : List ((Int × Value) × Nat)) : Array MapEntry := (es.map fun p => ({ key := .int .i64 p.1.1, val := p.1.2, born := p.2 } : MapEntry)).toArray

/-- block M is a map that holds these pairs (the keys apart, the stamps apart and below the clock) -/
def IMapC (w : World) (M : Nat) (es : List ((Int × Value) × Nat)) (clock : Nat) : Prop :=
  (es.map (·.1.1)).Nodup ∧ (es.map (·.2)).Nodup ∧ (∀ p ∈ es, p.2 < clock) ∧ w.heap[M]? = some (.map (mkEntries es) clock)

def IMap (w : World) (M : Nat) (es : List (Int × Value)) : Prop := ∃ l clock, IMapC w M l clock ∧ l.map (·.1) = es

def setObjW (w : World) (r : Nat) (o : Obj) : World := { w with heap := w.heap.setIfInBounds r o }

theorem setObjW_same {w : World} {r : Nat} {o o' : Obj} (h : w.heap[r]? = some o) : (setObjW w r o').heap[r]? = some o' := by
  have hlt : r < w.heap.size := (Array.getElem?_eq_some_iff.1 h).1
  simp [setObjW, Array.getElem?_setIfInBounds, hlt]
theorem setObjW_other (w : World) (r k : Nat) (o : Obj) (h : k ≠ r) : (setObjW w r o).heap[k]? = w.heap[k]? := by
  simp [setObjW, Array.getElem?_setIfInBounds, Ne.symm h]
theorem setObjW_size (w : World) (r : Nat) (o : Obj) : (setObjW w r o).heap.size = w.heap.size := by simp [setObjW]
theorem setObjW_chg {F : Foot} (w : World) (r : Nat) (o : Obj) (hF : F r) : Chg F F w (setObjW w r o) :=
  ⟨rfl, rfl, rfl, by rw [setObjW_size]; exact Nat.le_refl _, fun k _ hn => setObjW_other w r k o (fun h => hn (h ▸ hF)), fun _ h => .inl h⟩

theorem IMapC.keep {w w' : World} {M : Nat} {es : List ((Int × Value) × Nat)} {c : Nat} (h : IMapC w M es c) (hk : w'.heap[M]? = w.heap[M]?) : IMapC w' M es c := ⟨h.1, h.2.1, h.2.2.1, hk.trans h.2.2.2⟩
theorem IMap.keep {w w' : World} {M : Nat} {es : List (Int × Value)} (h : IMap w M es) (hk : w'.heap[M]? = w.heap[M]?) : IMap w' M es := by
  obtain ⟨l, c, h1, h2⟩ := h
  exact ⟨l, c, h1.keep hk, h2⟩
theorem IMap.lt {w : World} {M : Nat} {es : List (Int × Value)} (h : IMap w M es) : M < w.heap.size := by
  obtain ⟨l, c, h1, h2⟩ := h
  exact (Array.getElem?_eq_some_iff.1 h1.2.2.2).1

theorem imap_new (w : World) : IMap (w.alloc (.map #[] 0)) w.heap.size [] := ⟨[], 0, ⟨by simp, by simp, by simp, heap_alloc_new w _⟩, rfl⟩

section
variable {P : Program} {tm tk te : TypeId}

theorem findNow_int (k : Int) : ∀ (es : List ((Int × Value) × Nat)) (i : Nat), Instr.findNow (.int .i64) (.int .i64 k) (es.map fun p => ({ key := .int .i64 p.1.1, val := p.1.2, born := p.2 } : MapEntry)) i =
    some ((es.findIdx? (·.1.1 == k)).map fun j => (i + j, ((es[j]?).map (·.1.2)).getD undef))
  | [], i => by simp [Instr.findNow]
  | p :: es, i => by
    simp only [List.map_cons, Instr.findNow, Instr.sameNow, if_true]
    by_cases h : k = p.1.1
    · subst h
      simp [List.findIdx?_cons]
    · have h1 : (k == p.1.1) = false := by simpa using h
      have h2 : (p.1.1 == k) = false := by simpa using Ne.symm h
      rw [h1]
      simp only
      rw [findNow_int k es (i + 1), List.findIdx?_cons, h2]
      simp only [Bool.false_eq_true, if_false, Option.map_map]
      congr 2
      funext j
      simp [Nat.add_assoc, Nat.add_comm 1 j]

theorem run_findKey_int {w : World} (hk : P.underlying tk = some (.int .i64)) (k : Int) (es : List ((Int × Value) × Nat)) :
    (Instr.findKey tk (.int .i64 k) (mkEntries es).toList).run P w = .ok ((es.findIdx? (·.1.1 == k)).map fun j => (j, ((es[j]?).map (·.1.2)).getD undef)) w := by
  have h := findNow_int k es 0
  simp only [Nat.zero_add] at h
  simp [Instr.findKey, run_underlying hk, mkEntries, h]

theorem find_of_idx (es : List ((Int × Value) × Nat)) (k : Int) :
    ((es.findIdx? (·.1.1 == k)).map fun j => ((es[j]?).map (·.1.2)).getD undef) = alook (es.map (·.1)) k := by
  induction es with
  | nil => rfl
  | cons p es ih =>
    simp only [alook, List.map_cons, List.findIdx?_cons, List.find?_cons] at ih ⊢
    by_cases h : (p.1.1 == k) = true
    · rw [if_pos h, h]
      simp
    · simp only [Bool.not_eq_true] at h
      rw [if_neg (by simp [h]), h]
      simp only
      rw [← ih, Option.map_map]
      congr 1

theorem run_checkKey_int {w : World} (hk : P.underlying tk = some (.int .i64)) (e : Bool) (k : Int) : (Instr.checkKey e 10000 tk (.int .i64 k)).run P w = .ok () w := by
  exact Go.MapKept.run_checkKey hk (by simp [Go.MapKept.IsKey]) e 9999

/-- v, ok := m[k] -/
theorem imap_lookup {w : World} {M : Nat} {es : List (Int × Value)} (ht : P.underlying tm = some (.map tk te)) (hk : P.underlying tk = some (.int .i64)) {z : Value} (hz : (zeroValue te).run P w = .ok z w) (h : IMap w M es) (k : Int) :
    (Instr.lookup tm (.map (some M)) (.int .i64 k) true).run P w = .ok (.tuple #[(alook es k).getD z, .bool (alook es k).isSome]) w := by
  obtain ⟨l, c, ⟨h1, h2, h3, h4⟩, rfl⟩ := h
  rw [← find_of_idx]
  simp only [Instr.lookup, Sem.run_bind, run_underlying ht, Result.andThen, getObj_map h4, run_checkKey_int hk, run_findKey_int hk, Sem.run_pure]
  cases l.findIdx? (·.1.1 == k) with
  | none => simp [hz]
  | some j => simp

/-- v := m[k] -/
theorem imap_lookup1 {w : World} {M : Nat} {es : List (Int × Value)} (ht : P.underlying tm = some (.map tk te)) (hk : P.underlying tk = some (.int .i64)) {z : Value} (hz : (zeroValue te).run P w = .ok z w) (h : IMap w M es) (k : Int) :
    (Instr.lookup tm (.map (some M)) (.int .i64 k) false).run P w = .ok ((alook es k).getD z) w := by
  obtain ⟨l, c, ⟨h1, h2, h3, h4⟩, rfl⟩ := h
  rw [← find_of_idx]
  simp only [Instr.lookup, Sem.run_bind, run_underlying ht, Result.andThen, getObj_map h4, run_checkKey_int hk, run_findKey_int hk, Sem.run_pure]
  cases l.findIdx? (·.1.1 == k) with
  | none => simp [hz]
  | some j => simp

theorem alook_none_iff (es : List (Int × Value)) (k : Int) : alook es k = none ↔ k ∉ es.map (·.1) := by
  simp only [alook, Option.map_eq_none_iff, List.find?_eq_none, List.mem_map, not_exists, not_and, beq_iff_eq]

theorem alook_append (a b : List (Int × Value)) (k : Int) : alook (a ++ b) k = (alook a k).or (alook b k) := by
  simp only [alook, List.find?_append]
  cases a.find? (·.1 == k) <;> simp

theorem alook_set (es : List (Int × Value)) (hn : (es.map (·.1)).Nodup) (j : Nat) (p : Int × Value) (hj : es[j]? = some p) (v : Value) (k : Int) :
    alook (es.set j (p.1, v)) k = if k = p.1 then some v else alook es k := by
  induction es generalizing j with
  | nil => simp at hj
  | cons q es ih =>
    simp only [List.map_cons, List.nodup_cons] at hn
    cases j with
    | zero =>
      simp only [List.getElem?_cons_zero, Option.some.injEq] at hj
      subst hj
      simp only [List.set_cons_zero, alook, List.find?_cons]
      by_cases h : k = q.1
      · subst h; simp
      · have : (q.1 == k) = false := by simpa using Ne.symm h
        simp [this, h]
    | succ j =>
      simp only [List.getElem?_cons_succ] at hj
      have hmem : p ∈ es := List.mem_of_getElem? hj
      have hne : q.1 ≠ p.1 := fun e => hn.1 (by rw [e]; exact List.mem_map_of_mem hmem)
      simp only [List.set_cons_succ, alook, List.find?_cons]
      by_cases h : (q.1 == k) = true
      · have hk : q.1 = k := by simpa using h
        have : ¬ k = p.1 := fun e => hne (hk.trans e)
        simp [h, this]
      · simp only [Bool.not_eq_true] at h
        simp only [h]
        have := ih hn.2 j hj
        simp only [alook] at this
        exact this

/-- m[k] = v -/
theorem imap_update {w : World} {M : Nat} {es : List (Int × Value)} (ht : P.underlying tm = some (.map tk te)) (hk : P.underlying tk = some (.int .i64)) (h : IMap w M es) (k : Int) (v : Value) :
    ∃ o es', (Instr.mapUpdate tm (.map (some M)) (.int .i64 k) v).run P w = .ok () (setObjW w M o) ∧ IMap (setObjW w M o) M es' ∧ (∀ n, alook es' n = if n = k then some v else alook es n) := by
  obtain ⟨l, c, ⟨h1, h2, h3, h4⟩, rfl⟩ := h
  have hrun : (Instr.mapUpdate tm (.map (some M)) (.int .i64 k) v).run P w = match (l.findIdx? (·.1.1 == k)) with
      | some i => .ok () (setObjW w M (.map ((mkEntries l).modify i fun e => { e with key := .int .i64 k, val := v }) c))
      | none => .ok () (setObjW w M (.map ((mkEntries l).push { key := .int .i64 k, val := v, born := c }) (c + 1))) := by
    simp only [Instr.mapUpdate, Sem.run_bind, run_underlying ht, Result.andThen, getObj_map h4, run_checkKey_int hk, run_findKey_int hk]
    cases hf : l.findIdx? (·.1.1 == k) with
    | none => simp [setObj_map _ h4, setObjW]
    | some i =>
      obtain ⟨hi, hp⟩ := List.findIdx?_eq_some_iff_getElem.1 hf
      have hkey : (((mkEntries l)[i]?).map (·.key)).getD (Value.int .i64 k) = .int .i64 k := by
        simp only [mkEntries, List.getElem?_toArray, List.getElem?_map, List.getElem?_eq_getElem hi, Option.map_some, Option.getD_some]
        have := hp.1
        simp only [beq_iff_eq] at this
        rw [this]
      simp only [Option.map_some]
      rw [hkey]
      simp [Instr.keyThatStays, Instr.sameBits, setObj_map _ h4, setObjW]
  cases hf : l.findIdx? (·.1.1 == k) with
  | none =>
    rw [hf] at hrun
    have hnone : k ∉ (l.map (·.1)).map (·.1) := by
      rw [List.findIdx?_eq_none_iff] at hf
      simp only [List.map_map, List.mem_map, not_exists, not_and]
      intro p hp
      have := hf p hp
      simpa using this
    refine ⟨_, l.map (·.1) ++ [(k, v)], hrun, ⟨l ++ [((k, v), c)], c + 1, ⟨?_, ?_, ?_, ?_⟩, by simp⟩, fun n => ?_⟩
    · rw [List.map_append, List.nodup_append]
      refine ⟨h1, by simp, ?_⟩
      intro a ha b hb
      simp only [List.map_cons, List.map_nil, List.mem_singleton] at hb
      subst hb
      rintro rfl
      exact hnone (by simpa using ha)
    · rw [List.map_append, List.nodup_append]
      refine ⟨h2, by simp, ?_⟩
      intro a ha b hb
      simp only [List.map_cons, List.map_nil, List.mem_singleton] at hb
      subst hb
      rintro rfl
      obtain ⟨p, hp, rfl⟩ := List.mem_map.1 ha
      have := h3 p hp
      omega
    · intro p hp
      rw [List.mem_append] at hp
      rcases hp with hp | hp
      · have := h3 p hp; omega
      · simp only [List.mem_singleton] at hp
        subst hp; simp
    · rw [setObjW_same h4]
      simp [mkEntries]
    · rw [alook_append]
      have hl : alook (l.map (·.1)) k = none := (alook_none_iff _ _).2 hnone
      by_cases hn : n = k
      · subst hn
        rw [hl, if_pos rfl]
        simp [alook]
      · rw [if_neg hn]
        have : alook [(k, v)] n = none := by simp [alook, Ne.symm hn]
        rw [this]; simp
  | some i =>
    rw [hf] at hrun
    obtain ⟨hi, hp⟩ := List.findIdx?_eq_some_iff_getElem.1 hf
    have hkk : l[i].1.1 = k := by simpa using hp.1
    refine ⟨_, (l.map (·.1)).set i (k, v), hrun, ⟨l.set i ((k, v), l[i].2), c, ⟨?_, ?_, ?_, ?_⟩, by rw [List.map_set]⟩, fun n => ?_⟩
    · rw [List.map_set]
      have : (l.map (·.1.1)).set i k = l.map (·.1.1) := by
        rw [← hkk]
        have := @List.set_getElem_self _ (l.map (·.1.1)) i (by simpa using hi)
        simpa using this
      rw [this]; exact h1
    · rw [List.map_set]
      have : (l.map (·.2)).set i l[i].2 = l.map (·.2) := by
        have := @List.set_getElem_self _ (l.map (·.2)) i (by simpa using hi)
        simpa using this
      rw [this]; exact h2
    · intro p hp'
      rcases List.mem_or_eq_of_mem_set hp' with h | h
      · exact h3 p h
      · subst h; exact h3 l[i] (List.getElem_mem hi)
    · rw [setObjW_same h4]
      congr 2
      apply Array.ext_getElem?
      intro j
      simp only [mkEntries, Array.getElem?_modify, List.getElem?_toArray, List.getElem?_map, List.getElem?_set]
      by_cases hj : i = j
      · subst hj; simp [hi]
      · simp [hj]
    · have := alook_set (l.map (·.1)) (by rw [List.map_map]; exact h1) i l[i].1 (by simp [hi]) v n
      rw [hkk] at this
      exact this

/-- clear(m) -/
theorem imap_clear {w : World} {M : Nat} {es : List (Int × Value)} {ty : TypeId} (ht : P.underlying tm = some (.map tk te)) (h : IMap w M es) :
    ∃ o, (Builtin.clear_ #[tm] ty #[.map (some M)]).run P w = .ok (.tuple #[]) (setObjW w M o) ∧ IMap (setObjW w M o) M [] := by
  obtain ⟨l, c, ⟨h1, h2, h3, h4⟩, rfl⟩ := h
  refine ⟨.map #[] c, ?_, ⟨[], c, ⟨by simp, by simp, by simp, setObjW_same h4⟩, rfl⟩⟩
  simp [Builtin.clear_, run_underlying ht, getObj_map h4, setObj_map _ h4, setObjW]

/-- range m -/
theorem imap_range {w : World} {M : Nat} {l : List ((Int × Value) × Nat)} {c : Nat} (ht : P.underlying tm = some (.map tk te)) (h : IMapC w M l c) :
    (Instr.range tm (.map (some M))).run P w = .ok (.pointer (some ⟨w.heap.size, 0, none⟩)) (w.alloc (.mapIter (some M) c #[] c)) := by
  simp [Instr.range, run_underlying ht, getObj_map h.2.2.2, Result.andThen]

theorem getObj_iter {P : Program} {w : World} {r : Nat} {m : Option Nat} {s : Nat} {seen : Array Nat} {c : Nat} (hb : w.heap[r]? = some (.mapIter m s seen c)) : (getObj r).run P w = .ok (.mapIter m s seen c) w := by simp [getObj, Sem.run, hb]
theorem setObj_iter {P : Program} {w : World} {r : Nat} {m : Option Nat} {s : Nat} {seen : Array Nat} {c : Nat} (o : Obj) (hb : w.heap[r]? = some (.mapIter m s seen c)) : (setObj r o).run P w = .ok () (setObjW w r o) := by simp [setObj, Sem.run, hb, setObjW]

/-- one step of the range: all have been seen, or one that has not is taken -/
theorem imap_next {w : World} {M r : Nat} {l : List ((Int × Value) × Nat)} {c : Nat} {seen : Array Nat} {ty : TypeId} (h : IMapC w M l c) (hr : w.heap[r]? = some (.mapIter (some M) c seen c)) :
    ∃ v w0 w', (Instr.next (.pointer (some ⟨r, 0, none⟩)) false ty).run P w = .ok v w' ∧ (w0 = w ∨ w0 = w.drew) ∧
      (((∀ p ∈ l, seen.contains p.2 = true) ∧ v = .tuple #[.bool false] ∧ w' = w0) ∨
       (∃ p ∈ l, seen.contains p.2 = false ∧ v = .tuple #[.bool true, .int .i64 p.1.1, p.1.2] ∧ w' = setObjW w0 r (.mapIter (some M) c (seen.push p.2) c))) := by
  obtain ⟨h1, h2, h3, h4⟩ := h
  have hall : (mkEntries l).all (fun x => decide (c ≤ x.born)) = true → l = [] := by
    intro ha
    cases l with
    | nil => rfl
    | cons p l =>
      have := Array.all_eq_true_iff_forall_mem.1 ha { key := .int .i64 p.1.1, val := p.1.2, born := p.2 } (by simp [mkEntries])
      have := h3 p (by simp)
      simp at *
      omega
  have hcheck : (!seen.isEmpty && !(mkEntries l).isEmpty && (mkEntries l).all (fun x => decide (c ≤ x.born))) = false := by
    rw [Bool.and_eq_false_iff, Bool.and_eq_false_iff]
    cases hl : (mkEntries l).all (fun x => decide (c ≤ x.born)) with
    | false => exact .inr rfl
    | true => rw [hall hl]; exact .inl (.inr rfl)
  generalize hleft : ((mkEntries l).filter fun e => !seen.contains e.born) = left
  have hold : left.filter (fun x => decide (x.born < c)) = left := by
    apply Array.filter_eq_self.2
    intro e he
    rw [← hleft, Array.mem_filter] at he
    obtain ⟨hm, _⟩ := he
    simp only [mkEntries, List.mem_toArray, List.mem_map] at hm
    obtain ⟨p, hp, rfl⟩ := hm
    simpa using h3 p hp
  have hnew : left.filter (fun x => decide (c ≤ x.born)) = #[] := by
    apply Array.filter_eq_empty_iff.2
    intro e he
    rw [← hleft, Array.mem_filter] at he
    obtain ⟨hm, _⟩ := he
    simp only [mkEntries, List.mem_toArray, List.mem_map] at hm
    obtain ⟨p, hp, rfl⟩ := hm
    have := h3 p hp
    simp; omega
  by_cases hemp : left = #[]
  · refine ⟨.tuple #[.bool false], w, w, ?_, .inl rfl, .inl ⟨fun p hp => ?_, rfl, rfl⟩⟩
    · simp only [Instr.next, Sem.run_bind, getObj_iter hr, getObj_map h4, Result.andThen]
      simp only [ge_iff_le, hcheck, hleft, hold, hnew, hemp]
      simp [Question.forced]
    · rw [hemp] at hleft
      have := Array.filter_eq_empty_iff.1 hleft { key := .int .i64 p.1.1, val := p.1.2, born := p.2 } (by simp [mkEntries]; exact ⟨_, _, _, hp, rfl, rfl, rfl⟩)
      simpa using this
  · have hpos : 0 < left.size := Array.size_pos_iff.2 hemp
    have hcand : (if left.isEmpty = true then #[(none : Option MapEntry)] else #[]) ++ (left ++ #[]).map some = left.map some := by
      have : left.isEmpty = false := by simpa using hemp
      simp [this]
    obtain ⟨i, w0, hi, hw0, hch⟩ : ∃ i w0, i < left.size ∧ (w0 = w ∨ w0 = w.drew) ∧ (choose (.mapNext left.size)).run P w = .ok i w0 := by
      by_cases hf : left.size ≤ 1
      · exact ⟨0, w, hpos, .inl rfl, by simp [Question.forced, hf]⟩
      · exact ⟨_, w.drew, Nat.mod_lt _ hpos, .inr rfl, by simp [Question.forced, hf, Question.cut]; rfl⟩
    have hmem : left[i] ∈ (mkEntries l).filter (fun e => !seen.contains e.born) := by rw [hleft]; exact Array.getElem_mem hi
    rw [Array.mem_filter] at hmem
    obtain ⟨hm, hs⟩ := hmem
    simp only [mkEntries, List.mem_toArray, List.mem_map] at hm
    obtain ⟨p, hp, hpe⟩ := hm
    have hr0 : w0.heap[r]? = some (.mapIter (some M) c seen c) := by rcases hw0 with rfl | rfl <;> exact hr
    have hli : left[i] = { key := .int .i64 p.1.1, val := p.1.2, born := p.2 } := hpe.symm
    refine ⟨.tuple #[.bool true, .int .i64 p.1.1, p.1.2], w0, _, ?_, hw0, .inr ⟨p, hp, ?_, rfl, rfl⟩⟩
    · simp only [Instr.next, Sem.run_bind, getObj_iter hr, getObj_map h4, Result.andThen]
      simp only [ge_iff_le, hcheck]
      simp only [hleft, hold, hnew, hcand, Array.size_map, Bool.false_eq_true, if_false]
      simp only [Sem.run_bind, hch, Result.andThen, Array.getElem?_map, Array.getElem?_eq_getElem hi, Option.map_some, hli, setObj_iter _ hr0, Sem.run_pure]
    · rw [← hpe] at hs
      simpa using hs

theorem imap_entry {w : World} {M r : Nat} {l : List ((Int × Value) × Nat)} {c : Nat} {seen : Array Nat} (h : IMapC w M l c) {p : (Int × Value) × Nat} (hp : p ∈ l) (hr : w.heap[r]? = some (.mapIter (some M) c (seen.push p.2) c)) :
    (Instr.entry (.pointer (some ⟨r, 0, none⟩))).run P w = .ok (.tuple #[.int .i64 p.1.1, p.1.2]) w := by
  obtain ⟨h1, h2, h3, h4⟩ := h
  have hfind : (mkEntries l).find? (fun x => x.born == p.2) = some { key := .int .i64 p.1.1, val := p.1.2, born := p.2 } := by
    simp only [mkEntries, List.find?_toArray, List.find?_map]
    have : l.find? ((fun x : MapEntry => x.born == p.2) ∘ fun p => { key := .int .i64 p.1.1, val := p.1.2, born := p.2 }) = some p := by
      clear h1 h3 h4 hr
      induction l with
      | nil => simp at hp
      | cons q l ih =>
        simp only [List.map_cons, List.nodup_cons] at h2
        simp only [List.find?_cons, Function.comp]
        rcases List.mem_cons.1 hp with rfl | hp
        · simp
        · have : (q.2 == p.2) = false := by
            simp only [beq_eq_false_iff_ne]
            intro e
            exact h2.1 (by rw [e]; exact List.mem_map_of_mem hp)
          rw [this]
          exact ih hp h2.2
    rw [this]; rfl
  simp [Instr.entry, getObj_iter hr, getObj_map h4, Result.andThen, hfind]
end
end Mun
end

section
/- Contracts of the functions of sum and munimentref1. -/
set_option maxRecDepth 100000
set_option linter.unusedVariables false
namespace Mun
open Go Go.RowKit
open Go.Proofs

theorem ret_int {k : IntKind} {a b : Int} (h : a = b) : Ending.returned (.int k a) = .returned (.int k b) := by rw [h]

theorem wrap_u64_nat (n : Nat) (h : n < 18446744073709551616) : IntKind.u64.wrap (n : Int) = (n : Int) := by
  have := IntKind.wrap_u64 (n : Int)
  rw [this]; omega

theorem word_step (a b : Nat) (k : Nat) (hk : k < 8) (ha : a < 2 ^ (8 * k)) (hb : b < 256) :
    bits .or .u64 (a : Int) (IntKind.u64.wrap (IntKind.u64.wrap (b : Int) * 2 ^ (8 * k))) = ((a + 2 ^ (8 * k) * b : Nat) : Int) := by
  have h1 : 2 ^ (8 * k) ≤ 2 ^ 56 := Nat.pow_le_pow_right (by omega) (by omega)
  have h2 : b * 2 ^ (8 * k) < 18446744073709551616 := by
    have : b * 2 ^ (8 * k) ≤ 255 * 2 ^ 56 := Nat.mul_le_mul (by omega) h1
    omega
  rw [wrap_u64_nat b (by omega)]
  have e : ((b : Int) * 2 ^ (8 * k)) = ((b * 2 ^ (8 * k) : Nat) : Int) := by push_cast; rfl
  rw [e, wrap_u64_nat _ h2, u64_or_nat a _ (by omega) h2, or_shift _ _ _ ha, Nat.mul_comm b]

set_option maxHeartbeats 400000 in
theorem word_any {F : Foot} (w : World) (v : Value) (l : List UInt8) (hv : RdB F w v l) (h8 : l.length ≤ 8) :
    Calls Try.prog 37 #[v] w fun e w' => e = .returned (.int .u64 (leNat l)) ∧ w = w' := by
  obtain ⟨a, c, rfl, hlc, hcm⟩ := hv.form
  have hm : (l.length : Int) ≤ 8 := by omega
  go_enter Try.func37, Try.ntmps37
  go_wp2
  go_loop [3, 8] (fun n i => ∃ k : Nat, k ≤ l.length ∧ i = .int .i64 k ∧ n = .int .u64 (leNat (l.take k))) (fun _ i => l.length - (intOf i).toNat)
  case atStart => exact ⟨0, Nat.zero_le _, rfl, rfl⟩
  case round =>
    obtain ⟨k, hk, rfl, rfl⟩ := hrel
    by_cases hlt : k < l.length
    · obtain ⟨g, off, c', hv', h1, h2, h3, h4, h5⟩ := hv.at_ (by omega)
      injection hv' with e1 e2 e3
      subst e1 e3
      have hck := h5 k hlt
      clear h5 h1 h2 h4
      go_wp2
      go_round
      case rel =>
        refine ⟨k + 1, by omega, by go_num, ?_⟩
        rw [take_snoc l k hlt, leNat_snoc]
        have hl : (l.take k).length = k := by simp; omega
        rw [hl, word_step _ _ k (by omega) _ (l[k].toNat_lt)]
        have := leNat_lt (l.take k)
        rw [hl, show (256 : Nat) = 2 ^ 8 from rfl, ← Nat.pow_mul] at this
        exact this
      case measure => simp [intOf]; omega
    · go_wp2
      go_ret
      exact ⟨ret_int (by rw [List.take_of_length_le (by omega)]), rfl⟩

theorem xor_u32 (a b : BitVec 32) : bits .xor .u32 (a.toNat : Int) (b.toNat : Int) = ((a ^^^ b).toNat : Int) := by
  rw [u32_xor_nat _ _ a.isLt b.isLt, BitVec.toNat_xor]


theorem xor_u32_byte (a : BitVec 32) (b : UInt8) : bits .xor .u32 (a.toNat : Int) (b.toNat : Int) = ((a ^^^ b.toBitVec.setWidth 32).toNat : Int) := by
  have h : (b.toBitVec.setWidth 32).toNat = b.toNat := by
    rw [BitVec.toNat_setWidth]
    have := b.toNat_lt
    show b.toNat % 2 ^ 32 = b.toNat
    omega
  rw [← xor_u32, h]

theorem and1_u32 (x : BitVec 32) : bits .and .u32 (x.toNat : Int) 1 = (x.toNat : Int) % 2 := by
  rw [show (1 : Int) = ((1 : Nat) : Int) from rfl, u32_and_nat _ _ x.isLt (by omega), Nat.and_one_is_mod]; rfl

theorem crcIter_even (j : Nat) (x : BitVec 32) (h : (bits .and .u32 ((crcIter j x).toNat : Int) 1 == 1) = false) : ((crcIter j x).toNat : Int) / 2 = ((crcIter (j + 1) x).toNat : Int) := by
  rw [crcIter_succ']
  generalize crcIter j x = r at h ⊢
  rw [and1_u32] at h
  have h0 : r.getLsbD 0 = false := by
    rw [BitVec.getLsbD, Nat.testBit_zero]
    simp at h ⊢
    omega
  unfold crcBit
  rw [h0]
  simp [Nat.shiftRight_eq_div_pow]

theorem crcIter_odd (j : Nat) (x : BitVec 32) (h : (bits .and .u32 ((crcIter j x).toNat : Int) 1 == 1) = true) : bits .xor .u32 (((crcIter j x).toNat : Int) / 2) 3988292384 = ((crcIter (j + 1) x).toNat : Int) := by
  rw [crcIter_succ']
  generalize crcIter j x = r at h ⊢
  rw [and1_u32] at h
  have h0 : r.getLsbD 0 = true := by
    rw [BitVec.getLsbD, Nat.testBit_zero]
    simp at h ⊢
    omega
  unfold crcBit
  rw [h0, if_pos rfl, ← xor_u32]
  simp [Nat.shiftRight_eq_div_pow]

set_option maxHeartbeats 400000 in
theorem more_any {F : Foot} (w : World) (z : Int) (s : BitVec 32) (v : Value) (l : List UInt8) (hz : z = s.toNat) (hv : RdB F w v l) :
    Calls Try.prog 63 #[.int .u32 z, v] w fun e w' => e = .returned (.int .u32 ((crcMore s l).toNat)) ∧ w = w' := by
  obtain ⟨a, c, rfl, hlc, hcm⟩ := hv.form
  have hm : (l.length : Int) ≤ 9223372036854775807 := by unfold maxLen at hcm; omega
  have H0 : Hid (bits .xor .u32 z 4294967295 = ((s ^^^ 0xffffffff#32).toNat : Int)) := by rw [hz]; exact xor_u32 s 0xffffffff#32
  clear hz hcm hlc
  go_enter Try.func63, Try.ntmps63
  go_wp2
  go_loop [5, 12] (fun r i => ∃ k : Nat, k ≤ l.length ∧ i = .int .i64 k ∧ r = .int .u32 ((crcReg (s ^^^ 0xffffffff#32) (l.take k)).toNat)) (fun _ i => l.length - (intOf i).toNat)
  case atStart => exact ⟨0, Nat.zero_le _, rfl, by rw [H0.out]; rfl⟩
  case round =>
    obtain ⟨k, hk, rfl, rfl⟩ := hrel
    by_cases hlt : k < l.length
    · obtain ⟨g, off, c', hv', h1, h2, h3, h4, h5⟩ := hv.at_ (by omega)
      injection hv' with e1 e2 e3
      subst e1 e3
      have hck := h5 k hlt
      have hb : (l[k].toNat : Int) < 256 := by have := l[k].toNat_lt; omega
      have Hs : Hid (crcReg (s ^^^ 0xffffffff#32) (l.take (k + 1)) = crcIter 8 (crcReg (s ^^^ 0xffffffff#32) (l.take k) ^^^ l[k].toBitVec.setWidth 32)) := by
        rw [take_snoc l k hlt, crcReg_append]; rfl
      clear h5 h1 h2 h4
      generalize crcReg (s ^^^ 0xffffffff#32) (l.take k) = r at Hs
      have Hx := Lib.hid (xor_u32_byte r l[k])
      go_wp2
      go_loop [5, 20] (fun q i => ∃ j : Nat, j ≤ 8 ∧ i = .int .i64 j ∧ q = .int .u32 ((crcIter j (r ^^^ l[k].toBitVec.setWidth 32)).toNat)) (fun _ i => 8 - (intOf i).toNat)
      case atStart => exact ⟨0, Nat.zero_le _, rfl, by rw [Hx.out]; rfl⟩
      case round =>
        obtain ⟨j, hj, rfl, rfl⟩ := hrel
        by_cases hj8 : j < 8
        · have Ho1 := Lib.hid (crcIter_odd j (r ^^^ l[k].toBitVec.setWidth 32))
          have Ho2 := Lib.hid (crcIter_even j (r ^^^ l[k].toBitVec.setWidth 32))
          generalize (crcIter j (r ^^^ l[k].toBitVec.setWidth 32)).toNat = q at Ho1 Ho2
          by_cases hodd : (bits .and .u32 (q : Int) 1 == 1) = true
          · have Ho := Lib.hid (Ho1.out hodd)
            go_wp2
            go_round
            case rel => exact ⟨j + 1, by omega, by go_num, by rw [Ho.out]⟩
            case measure => simp [intOf]; omega
          · simp only [Bool.not_eq_true] at hodd
            have Ho := Lib.hid (Ho2.out hodd)
            go_wp2
            go_round
            case rel => exact ⟨j + 1, by omega, by go_num, by rw [Ho.out]⟩
            case measure => simp [intOf]; omega
        · obtain rfl : j = 8 := by omega
          go_wp2
          go_round
          case rel => exact ⟨k + 1, by omega, by go_num, by rw [Hs.out]⟩
          case measure => simp [intOf]; omega
    · obtain rfl : k = l.length := by omega
      have Hf := Lib.hid (xor_u32 (crcReg (s ^^^ 0xffffffff#32) (l.take l.length)) 0xffffffff#32)
      go_wp2
      go_ret
      refine ⟨ret_int ?_, rfl⟩
      have := Hf.out
      simp only [List.take_length] at this ⊢
      exact this
end Mun
end

section
/- Contracts of what pages need of sum and munimentref1. -/
set_option maxRecDepth 100000
set_option linter.unusedVariables false
namespace Mun
open Go Go.RowKit
open Go.Proofs

theorem of_any {F : Foot} (w : World) (v : Value) (l : List UInt8) (z : Int) (hz : ((crcOf l).toNat : Int) = z) (hv : RdB F w v l) :
    Calls Try.prog 64 #[v] w fun e w' => e = .returned (.int .u32 z) ∧ w = w' := by
  subst hz
  go_enter Try.func64, Try.ntmps64
  go_wp2_with (go_at_call 63; refine (more_any _ _ 0#32 _ l rfl hv).mono ?_; rintro e w' ⟨rfl, rfl⟩)
  go_ret
  exact ⟨rfl, rfl⟩

theorem ret_bool {a b : Bool} (h : a = b) : Ending.returned (.bool a) = .returned (.bool b) := by rw [h]

theorem refget_step (a : Nat) (b : UInt8) (k : Nat) (hk : k < 8) (ha : a < 256 ^ k) :
    bits .or .u64 (IntKind.u64.wrap ((a : Int) * 256)) (b.toNat : Int) = ((b.toNat + 256 * a : Nat) : Int) := by
  have h1 : 256 ^ k ≤ 256 ^ 7 := Nat.pow_le_pow_right (by omega) (by omega)
  have hb := b.toNat_lt
  have e : ((a : Int) * 256) = ((a * 2 ^ 8 : Nat) : Int) := by omega
  rw [e, wrap_u64_nat _ (by omega), u64_or_nat _ _ (by omega) (by omega), Nat.or_comm, or_shift _ _ 8 (by omega)]
  congr 1
  omega

theorem leNat_drop (l : List UInt8) (j : Nat) (h : j < l.length) : leNat (l.drop j) = l[j].toNat + 256 * leNat (l.drop (j + 1)) := by
  rw [List.drop_eq_getElem_cons h]; rfl

set_option maxHeartbeats 400000 in
theorem refget_any {F : Foot} (w : World) (v : Value) (l : List UInt8) (at_ sz : Int) (A K : Nat) (z : Int) (hA : at_ = A) (hK : sz = K) (hz : ((leNat ((l.drop A).take K) : Nat) : Int) = z) (hv : RdB F w v l) (hl : A + K ≤ l.length) (h8 : K ≤ 8) :
    Calls Try.prog 71 #[v, .int .i64 at_, .int .i64 sz] w fun e w' => e = .returned (.int .u64 z) ∧ w = w' := by
  subst hz
  subst hA
  subst hK
  obtain ⟨a, c, rfl, hlc, hcm⟩ := hv.form
  have hm : (l.length : Int) ≤ 9223372036854775807 := by unfold maxLen at hcm; omega
  have hlen : ((l.drop A).take K).length = K := by rw [List.length_take, List.length_drop]; omega
  have HL := Lib.hid hlen
  clear hlen
  go_enter Try.func71, Try.ntmps71
  go_wp2
  go_loop [7, 8] (fun n i => ∃ j : Nat, j ≤ K ∧ i = .int .i64 ((j : Int) - 1) ∧ n = .int .u64 (leNat (((l.drop A).take K).drop j))) (fun _ i => (intOf i + 1).toNat)
  case atStart => exact ⟨K, Nat.le_refl _, rfl, by rw [List.drop_of_length_le (by rw [HL.out]; exact Nat.le_refl _)]; rfl⟩
  case round =>
    obtain ⟨j, hj, rfl, rfl⟩ := hrel
    by_cases h0 : j = 0
    · subst h0
      go_wp2
      go_ret
      exact ⟨rfl, rfl⟩
    · obtain ⟨i, rfl⟩ : ∃ i, j = i + 1 := ⟨j - 1, by omega⟩
      obtain ⟨g, off, c', hv', h1, h2, h3, h4, h5⟩ := hv.at_ (by omega)
      injection hv' with e1 e2 e3
      subst e1 e3
      have hck := h5 (A + i) (by omega)
      have hb : (l[A + i].toNat : Int) < 256 := by have := l[A + i].toNat_lt; omega
      have hs : Hid (leNat (((l.drop A).take K).drop i) = l[A + i].toNat + 256 * leNat (((l.drop A).take K).drop (i + 1))) := by
        have := leNat_drop ((l.drop A).take K) i (by rw [HL.out]; omega)
        rw [List.getElem_take, List.getElem_drop] at this
        exact this
      have hlt := leNat_lt (((l.drop A).take K).drop (i + 1))
      rw [List.length_drop, HL.out] at hlt
      have Hw := Lib.hid (refget_step _ l[A + i] _ (by omega) hlt)
      clear h5 h1 h2 h4 hlt
      generalize leNat (((l.drop A).take K).drop (i + 1)) = q at hs Hw
      have e0 : ((i + 1 : Nat) : Int) - 1 = (i : Int) := by omega
      rw [e0]
      clear e0
      go_wp2
      go_round
      case rel =>
        refine ⟨i, by omega, rfl, ?_⟩
        rw [hs.out, Hw.out]
      case measure => simp [intOf]

set_option maxHeartbeats 400000 in
theorem refput_any (w : World) (n : Nat) (sz : Int) (K : Nat) (hK : sz = K) (_hn : n < 18446744073709551616) (h8 : K ≤ 8) :
    Calls Try.prog 52 #[.int .u64 n, .int .i64 sz] w fun e w' => ∃ v, e = .returned v ∧ OwnB w' w.heap.size 5 v (leBytes K n) ∧ Below w.heap.size w w' := by
  subst hK
  go_enter Try.func52, Try.ntmps52
  go_wp2
  go_loopw [5, 6] (fun v i wr => ∃ k : Nat, k ≤ K ∧ i = .int .i64 (k : Int) ∧ OwnB wr w.heap.size 5 v (leBytes k n) ∧ Below w.heap.size w wr) (fun _ i _ => K - (intOf i).toNat)
  case atStart => exact ⟨0, Nat.zero_le _, rfl, World.ownsRow_nil _ _ _ _, Below.refl _ _⟩
  case round =>
    obtain ⟨k, hk, rfl, hown, hb⟩ := hrel
    by_cases hlt : k < K
    · have hx : RdB (fun _ => False) (wr.alloc (bobj [UInt8.ofNat (n / 256 ^ k)])) (.slice (some ⟨wr.heap.size, 0, none⟩) 1 1) [UInt8.ofNat (n / 256 ^ k)] := bobj_rd wr [_] 1 rfl (by simp [maxLen]) (fun h => h)
      have hB : w.heap.size ≤ (wr.alloc (bobj [UInt8.ofNat (n / 256 ^ k)])).heap.size := by have := hb.size; simp; omega
      obtain ⟨v', w', hr, h1, h2, h3, h4⟩ := append_bytes (ty := 23) (World.ownsRow.alloc hown _) hx (by rw [leBytes_length]; simp; omega) hB
      have hb' : Below w.heap.size w w' := (hb.alloc hb.size _).grown h2 hB (fun k hk => (hown.lt k hk).1)
      rw [← bobj_one wr _ ((n : Int) / 2 ^ (8 * k) % 256) (byte_cast n k)] at hr
      have H1 := Lib.hid h1
      have HR := Lib.hid hr
      clear h1 h2 h3 h4 hx hr hown hb hB
      go_wp2_with (at_builtin; refine wpList_append_eq rfl rfl HR.out rfl rfl ?_)
      go_roundw
      case rel => exact ⟨k + 1, by omega, by go_num, by rw [leBytes_snoc]; exact H1.out, hb'⟩
      case measure => simp [intOf]; omega
    · go_wp2_with fail
      go_ret
      obtain rfl : k = K := by omega
      exact ⟨_, rfl, hown, hb⟩


set_option maxHeartbeats 400000 in
theorem refmore_any {F : Foot} (w : World) (z : Int) (s : BitVec 32) (v : Value) (l : List UInt8) (hz : z = s.toNat) (hv : RdB F w v l) :
    Calls Try.prog 70 #[.int .u32 z, v] w fun e w' => e = .returned (.int .u32 ((crcMore s l).toNat)) ∧ w = w' := by
  obtain ⟨a, c, rfl, hlc, hcm⟩ := hv.form
  have hm : (l.length : Int) ≤ 9223372036854775807 := by unfold maxLen at hcm; omega
  have H0 : Hid (bits .xor .u32 z 4294967295 = ((s ^^^ 0xffffffff#32).toNat : Int)) := by rw [hz]; exact xor_u32 s 0xffffffff#32
  clear hz hcm hlc
  go_enter Try.func70, Try.ntmps70
  go_wp2
  go_loop [5, 6] (fun r i => ∃ k : Nat, k ≤ l.length ∧ i = .int .i64 k ∧ r = .int .u32 ((crcReg (s ^^^ 0xffffffff#32) (l.take k)).toNat)) (fun _ i => l.length - (intOf i).toNat)
  case atStart => exact ⟨0, Nat.zero_le _, rfl, by rw [H0.out]; rfl⟩
  case round =>
    obtain ⟨k, hk, rfl, rfl⟩ := hrel
    by_cases hlt : k < l.length
    · obtain ⟨g, off, c', hv', h1, h2, h3, h4, h5⟩ := hv.at_ (by omega)
      injection hv' with e1 e2 e3
      subst e1 e3
      have hck := h5 k hlt
      have hb : (l[k].toNat : Int) < 256 := by have := l[k].toNat_lt; omega
      have Hs : Hid (crcReg (s ^^^ 0xffffffff#32) (l.take (k + 1)) = crcIter 8 (crcReg (s ^^^ 0xffffffff#32) (l.take k) ^^^ l[k].toBitVec.setWidth 32)) := by
        rw [take_snoc l k hlt, crcReg_append]; rfl
      clear h5 h1 h2 h4
      generalize crcReg (s ^^^ 0xffffffff#32) (l.take k) = r at Hs
      have Hx := Lib.hid (xor_u32_byte r l[k])
      go_wp2
      go_loop [5, 7] (fun q i => ∃ j : Nat, j ≤ 8 ∧ i = .int .i64 j ∧ q = .int .u32 ((crcIter j (r ^^^ l[k].toBitVec.setWidth 32)).toNat)) (fun _ i => 8 - (intOf i).toNat)
      case atStart => exact ⟨0, Nat.zero_le _, rfl, by rw [Hx.out]; rfl⟩
      case round =>
        obtain ⟨j, hj, rfl, rfl⟩ := hrel
        by_cases hj8 : j < 8
        · have Ho1 := Lib.hid (crcIter_odd j (r ^^^ l[k].toBitVec.setWidth 32))
          have Ho2 := Lib.hid (crcIter_even j (r ^^^ l[k].toBitVec.setWidth 32))
          generalize (crcIter j (r ^^^ l[k].toBitVec.setWidth 32)).toNat = q at Ho1 Ho2
          by_cases hodd : (bits .and .u32 (q : Int) 1 == 1) = true
          · have Ho := Lib.hid (Ho1.out hodd)
            go_wp2
            go_round
            case rel => exact ⟨j + 1, by omega, by go_num, by rw [Ho.out]⟩
            case measure => simp [intOf]; omega
          · simp only [Bool.not_eq_true] at hodd
            have Ho := Lib.hid (Ho2.out hodd)
            go_wp2
            go_round
            case rel => exact ⟨j + 1, by omega, by go_num, by rw [Ho.out]⟩
            case measure => simp [intOf]; omega
        · obtain rfl : j = 8 := by omega
          go_wp2
          go_round
          case rel => exact ⟨k + 1, by omega, by go_num, by rw [Hs.out]⟩
          case measure => simp [intOf]; omega
    · obtain rfl : k = l.length := by omega
      have Hf := Lib.hid (xor_u32 (crcReg (s ^^^ 0xffffffff#32) (l.take l.length)) 0xffffffff#32)
      go_wp2
      go_ret
      refine ⟨ret_int ?_, rfl⟩
      have := Hf.out
      simp only [List.take_length] at this ⊢
      exact this

theorem refof_any {F : Foot} (w : World) (v : Value) (l : List UInt8) (hv : RdB F w v l) :
    Calls Try.prog 51 #[v] w fun e w' => e = .returned (.int .u32 ((crcOf l).toNat)) ∧ w = w' := by
  go_enter Try.func51, Try.ntmps51
  go_wp2_with (go_at_call 70; refine (refmore_any _ _ 0#32 _ l rfl hv).mono ?_; rintro e w' ⟨rfl, rfl⟩)
  go_ret
  exact ⟨rfl, rfl⟩

set_option maxHeartbeats 400000 in
/-- a number's bytes behind a row of the call's own -/
theorem lay_any (w : World) (base : Nat) (v : Value) (xs : List UInt8) (n : Nat) (sz : Int) (K : Nat) (hK : sz = K) (h8 : K ≤ 8) (ho : OwnB w base 5 v xs) (hbase : base ≤ w.heap.size) (hx : xs.length ≤ 140737488355000) :
    Calls Try.prog 35 #[v, .int .i64 sz, .int .u64 n] w fun e w' => ∃ v', e = .returned v' ∧ OwnB w' base 5 v' (xs ++ leBytes K n) ∧ Below base w w' := by
  subst hK
  go_enter Try.func35, Try.ntmps35
  go_wp2
  go_loopw [0, 9] (fun v i wr => ∃ k : Nat, k ≤ K ∧ i = .int .i64 (k : Int) ∧ OwnB wr base 5 v (xs ++ leBytes k n) ∧ Below base w wr) (fun _ i _ => K - (intOf i).toNat)
  case atStart => exact ⟨0, Nat.zero_le _, rfl, by simpa [leBytes] using ho, Below.refl _ _⟩
  case round =>
    obtain ⟨k, hk, rfl, hown, hb⟩ := hrel
    by_cases hlt : k < K
    · have hx2 : RdB (fun _ => False) (wr.alloc (bobj [UInt8.ofNat (n / 256 ^ k)])) (.slice (some ⟨wr.heap.size, 0, none⟩) 1 1) [UInt8.ofNat (n / 256 ^ k)] := bobj_rd wr [_] 1 rfl (by simp [maxLen]) (fun h => h)
      have hB : base ≤ (wr.alloc (bobj [UInt8.ofNat (n / 256 ^ k)])).heap.size := by have := hb.size; simp; omega
      obtain ⟨v', w', hr, h1, h2, h3, h4⟩ := append_bytes (ty := 23) (World.ownsRow.alloc hown _) hx2 (by rw [List.length_append, leBytes_length]; simp; omega) hB
      have hb' : Below base w w' := (hb.alloc (by have := hb.size; omega) _).grown h2 hB (fun k hk => (hown.lt k hk).1)
      rw [← bobj_one wr _ ((n : Int) / 2 ^ (8 * k) % 256) (byte_cast n k)] at hr
      have H1 := Lib.hid h1
      have HR := Lib.hid hr
      clear h1 h2 h3 h4 hx2 hr hown hb hB
      go_wp2_with (at_builtin; refine wpList_append_eq rfl rfl HR.out rfl rfl ?_)
      go_roundw
      case rel => exact ⟨k + 1, by omega, by go_num, by rw [leBytes_snoc, ← List.append_assoc]; exact H1.out, hb'⟩
      case measure => simp [intOf]; omega
    · go_wp2_with fail
      go_ret
      obtain rfl : k = K := by omega
      exact ⟨_, rfl, hown, hb⟩
end Mun
end
