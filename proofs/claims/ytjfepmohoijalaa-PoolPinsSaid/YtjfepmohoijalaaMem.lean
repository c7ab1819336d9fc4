/- Words for memory, over any program: a slice that reads as a list of cells outside a set of blocks that may turn; what a call may turn. -/
import Derived.WalkKit
import Derived.WalkSpells
import Derived.WalkLawsBesides
import Derived.Lib.Hide
import Derived.Laws.CopyOwn
import Derived.Laws.AppendOwnNone
import Derived.Deep.QuietTactic
import Derived.BigQuiet
import Derived.Lib.SlBytesConst
namespace Mun
open Go Go.RowKit

/-- a set of blocks -/
abbrev Foot := Nat → Prop

/-- bytes as values -/
def bv (l : List UInt8) : List Value := l.map fun b => .int .u8 (b.toNat : Int)

theorem bv_length (l : List UInt8) : (bv l).length = l.length := by simp [bv]
theorem bv_getElem? (l : List UInt8) (i : Nat) : (bv l)[i]? = (l[i]?).map fun b => Value.int .u8 (b.toNat : Int) := by simp [bv]
theorem bv_append (a b : List UInt8) : bv (a ++ b) = bv a ++ bv b := by simp [bv]
theorem bv_oneCell (l : List UInt8) : ∀ u ∈ bv l, u.oneCell' = true := by
  intro u hu
  simp only [bv, List.mem_map] at hu
  obtain ⟨b, _, rfl⟩ := hu
  rfl
theorem bv_inj {a b : List UInt8} (h : bv a = bv b) : a = b := by
  apply List.ext_getElem?
  intro i
  have := congrArg (fun x => x[i]?) h
  simp only [bv_getElem?] at this
  cases ha : a[i]? <;> cases hb : b[i]? <;> simp_all
  exact UInt8.toNat_inj.1 (by omega)

theorem addr_add (g off : Nat) (k : Nat) : (⟨g, off, none⟩ : Addr).add k = ⟨g, off + k, none⟩ := by
  unfold Addr.add; split <;> simp_all

/-- A SLICE THAT READS AS A LIST OF CELLS: the value v has n elements of 'size' cells, together the cells xs; they lie in no block of F. -/
def RdV (F : Foot) (w : World) (size : Nat) (v : Value) (n : Nat) (xs : List Value) : Prop :=
  xs.length = n * size ∧ ∃ a c, v = .slice a n c ∧ n ≤ c ∧ c ≤ maxLen ∧ (a = none → c = 0) ∧
    (0 < n → ∃ g off cur e fr, a = some ⟨g, off, none⟩ ∧ ¬ F g ∧ w.heap[g]? = some (.cells cur e fr) ∧ (cur.toList.drop off).take (n * size) = xs)

def RdB (F : Foot) (w : World) (v : Value) (l : List UInt8) : Prop := RdV F w 1 v l.length (bv l)

/-- what was there stays but for F; what F has become has come out of F or is new -/
structure Chg (F F' : Foot) (w w' : World) : Prop where
  os : w'.os = w.os
  tape : w'.tape = w.tape
  output : w'.output = w.output
  size : w.heap.size ≤ w'.heap.size
  block : ∀ k, k < w.heap.size → ¬ F k → w'.heap[k]? = w.heap[k]?
  foot : ∀ k, F' k → F k ∨ (w.heap.size ≤ k ∧ k < w'.heap.size)

theorem Chg.refl (F : Foot) (w : World) : Chg F F w w := ⟨rfl, rfl, rfl, Nat.le_refl _, fun _ _ _ => rfl, fun _ h => .inl h⟩

theorem Chg.trans {F F' F'' : Foot} {a b c : World} (h : Chg F F' a b) (k : Chg F' F'' b c) : Chg F F'' a c :=
  ⟨k.os.trans h.os, k.tape.trans h.tape, k.output.trans h.output, Nat.le_trans h.size k.size,
    fun i hi hF => (k.block i (Nat.lt_of_lt_of_le hi h.size) (fun h' => (h.foot i h').elim hF (fun x => by omega))).trans (h.block i hi hF),
    fun i hi => by
      rcases k.foot i hi with x | x
      · rcases h.foot i x with y | y
        · exact .inl y
        · exact .inr ⟨y.1, Nat.lt_of_lt_of_le y.2 k.size⟩
      · exact .inr ⟨Nat.le_trans h.size x.1, x.2⟩⟩

theorem Chg.of_below {w w' : World} (h : Below w.heap.size w w') (F : Foot) : Chg F F w w' :=
  ⟨h.os, h.tape, h.output, h.size, fun k hk _ => h.block k hk, fun _ hk => .inl hk⟩

theorem Chg.below {F F' : Foot} {w w' : World} (h : Chg F F' w w') {B : Nat} (hB : B ≤ w.heap.size) (hF : ∀ k, k < B → ¬ F k) : Below B w w' :=
  ⟨h.os, h.tape, h.output, h.size, fun k hk => h.block k (by omega) (hF k hk)⟩

theorem Chg.weak {F G F' G' : Foot} {w w' : World} (h : Chg F F' w w') (hF : ∀ k, F k → G k) (hG : ∀ k, G' k → F' k ∨ G k ∨ (w.heap.size ≤ k ∧ k < w'.heap.size)) : Chg G G' w w' :=
  ⟨h.os, h.tape, h.output, h.size, fun k hk hn => h.block k hk (fun h' => hn (hF k h')), fun k hk => by
    rcases hG k hk with x | x | x
    · rcases h.foot k x with y | y
      · exact .inl (hF k y)
      · exact .inr y
    · exact .inl x
    · exact .inr x⟩

section
variable {F F' : Foot} {w w' : World} {size n : Nat} {v : Value} {xs : List Value}

theorem RdV.len (h : RdV F w size v n xs) : xs.length = n * size := h.1
theorem RdV.form (h : RdV F w size v n xs) : ∃ a c, v = .slice a n c ∧ n ≤ c ∧ c ≤ maxLen := by
  obtain ⟨_, a, c, hv, h1, h2, _⟩ := h
  exact ⟨a, c, hv, h1, h2⟩
theorem RdV.nmax (h : RdV F w size v n xs) : n ≤ maxLen := by
  obtain ⟨_, a, c, _, h1, h2, _⟩ := h
  exact Nat.le_trans h1 h2

theorem RdV.nil (F : Foot) (w : World) (size : Nat) : RdV F w size (.slice none 0 0) 0 [] :=
  ⟨by simp, none, 0, rfl, Nat.le_refl _, Nat.zero_le _, fun _ => rfl, fun h => absurd h (by omega)⟩

theorem RdV.keep (h : RdV F w size v n xs) (hk : ∀ k, k < w.heap.size → ¬ F k → w'.heap[k]? = w.heap[k]?) (hF : ∀ k, k < w.heap.size → F' k → F k) : RdV F' w' size v n xs := by
  obtain ⟨h0, a, c, hv, h1, h2, h3, h4⟩ := h
  refine ⟨h0, a, c, hv, h1, h2, h3, fun hn => ?_⟩
  obtain ⟨g, off, cur, e, fr, ha, hg, hh, hx⟩ := h4 hn
  have hlt : g < w.heap.size := (Array.getElem?_eq_some_iff.1 hh).1
  exact ⟨g, off, cur, e, fr, ha, fun h' => hg (hF g hlt h'), (hk g hlt hg).trans hh, hx⟩

theorem RdV.chg (h : RdV F w size v n xs) (hc : Chg F F' w w') : RdV F' w' size v n xs :=
  h.keep hc.block (fun k hk h' => (hc.foot k h').elim id (fun x => by omega))

theorem RdV.below (h : RdV F w size v n xs) (hb : Below w.heap.size w w') : RdV F w' size v n xs := h.keep (fun k hk _ => hb.block k hk) (fun _ _ h => h)
theorem RdV.mono (h : RdV F w size v n xs) (hF : ∀ k, k < w.heap.size → F' k → F k) : RdV F' w size v n xs := h.keep (fun _ _ _ => rfl) hF

/-- the place of an element's cells -/
theorem RdV.at_ (h : RdV F w size v n xs) (hn : 0 < n) : ∃ g off c, v = .slice (some ⟨g, off, none⟩) n c ∧ n ≤ c ∧ c ≤ maxLen ∧ ¬ F g ∧ g < w.heap.size ∧ (∀ j u, xs[j]? = some u → w.cell? ⟨g, off + j, none⟩ = some u) := by
  obtain ⟨h0, a, c, hv, h1, h2, h3, h4⟩ := h
  obtain ⟨g, off, cur, e, fr, ha, hg, hh, hx⟩ := h4 hn
  subst ha
  refine ⟨g, off, c, hv, h1, h2, hg, (Array.getElem?_eq_some_iff.1 hh).1, fun j u hu => ?_⟩
  rw [cell_of_row w g (off + j) cur e fr hh]
  rw [← hx, List.getElem?_take] at hu
  split at hu
  · rw [List.getElem?_drop] at hu; simpa using hu
  · cases hu

/-- a row of the call's own reads as what it holds -/
theorem RdV.of_own {base : Nat} {e : TypeId} (h : w.ownsRow base e size v n xs) (hF : ∀ k, base ≤ k → ¬ F k) : RdV F w size v n xs := by
  refine ⟨h.1, ?_⟩
  rcases h.2 with ⟨rfl, rfl⟩ | ⟨g, cap, cur, rfl, hb, hg, h1, h2, h3, h4⟩
  · exact ⟨none, 0, rfl, Nat.le_refl _, Nat.zero_le _, fun _ => rfl, fun h => absurd h (by omega)⟩
  · exact ⟨_, cap, rfl, h1, h2, (by simp), fun _ => ⟨g, 0, cur, e, _, rfl, hF g hb, hg, by simpa using h4⟩⟩

theorem RdV.of_own' {base : Nat} {e : TypeId} (h : w.ownsRow base e size v n xs) (hF : ∀ k, v.ownBlock = some k → ¬ F k) : RdV F w size v n xs := by
  refine ⟨h.1, ?_⟩
  rcases h.2 with ⟨rfl, rfl⟩ | ⟨g, cap, cur, rfl, hb, hg, h1, h2, h3, h4⟩
  · exact ⟨none, 0, rfl, Nat.le_refl _, Nat.zero_le _, fun _ => rfl, fun h => absurd h (by omega)⟩
  · exact ⟨_, cap, rfl, h1, h2, (by simp), fun _ => ⟨g, 0, cur, e, _, rfl, hF g rfl, hg, by simpa using h4⟩⟩
end

section
variable {F F' : Foot} {w w' : World} {v : Value} {l : List UInt8}
theorem RdB.chg (h : RdB F w v l) (hc : Chg F F' w w') : RdB F' w' v l := RdV.chg h hc
theorem RdB.below (h : RdB F w v l) (hb : Below w.heap.size w w') : RdB F w' v l := RdV.below h hb
theorem RdB.mono (h : RdB F w v l) (hF : ∀ k, k < w.heap.size → F' k → F k) : RdB F' w v l := RdV.mono h hF
theorem RdB.nil (F : Foot) (w : World) : RdB F w (.slice none 0 0) [] := RdV.nil F w 1
theorem RdB.form (h : RdB F w v l) : ∃ a c, v = .slice a l.length c ∧ l.length ≤ c ∧ c ≤ maxLen := RdV.form h
theorem RdB.at_ (h : RdB F w v l) (hn : 0 < l.length) : ∃ g off c, v = .slice (some ⟨g, off, none⟩) l.length c ∧ l.length ≤ c ∧ c ≤ maxLen ∧ ¬ F g ∧ g < w.heap.size ∧
    (∀ i (hi : i < l.length), w.cell? ⟨g, off + i, none⟩ = some (.int .u8 (l[i].toNat : Int))) := by
  obtain ⟨g, off, c, hv, h1, h2, h3, h4, h5⟩ := RdV.at_ h hn
  exact ⟨g, off, c, hv, h1, h2, h3, h4, fun i hi => h5 i _ (by rw [bv_getElem?, List.getElem?_eq_getElem hi]; rfl)⟩
end

/-- a row of bytes of the call's own -/
def OwnB (w : World) (base : Nat) (e : TypeId) (v : Value) (l : List UInt8) : Prop := w.ownsRow base e 1 v l.length (bv l)

theorem OwnB.rd {F : Foot} {w : World} {base : Nat} {e : TypeId} {v : Value} {l : List UInt8} (h : OwnB w base e v l) (hF : ∀ k, base ≤ k → ¬ F k) : RdB F w v l := RdV.of_own h hF

theorem ownBlock_lt {w : World} {base : Nat} {e : TypeId} {size n : Nat} {v : Value} {xs : List Value} (h : w.ownsRow base e size v n xs) {k : Nat} (hk : v.ownBlock = some k) : base ≤ k ∧ k < w.heap.size := h.lt k hk

theorem ownsRow_base {w : World} {base base' : Nat} {e : TypeId} {size n : Nat} {v : Value} {xs : List Value} (h : w.ownsRow base e size v n xs) (hb : ∀ k, v.ownBlock = some k → base' ≤ k) : w.ownsRow base' e size v n xs := by
  refine ⟨h.1, ?_⟩
  rcases h.2 with hn | ⟨g, cap, cur, rfl, _, rest⟩
  · exact .inl hn
  · exact .inr ⟨g, cap, cur, rfl, hb g rfl, rest⟩

/-- AN APPEND TO A ROW OF THE CALL's OWN, the source whatever reads. -/
theorem run_append_rd {P : Program} {F : Foot} {w : World} {t ty e : TypeId} {i : TypeInfo} {z : Value} {size bytes base : Nat} (ht : P.underlying t = some (.slice e)) (hi : P.info? e = some i) (hz : i.zero = some z)
    (hsize : i.size = size) (hby : i.bytes = bytes) (hzs : z.cells.size = size) (hsz : 0 < size)
    {v s : Value} {n m : Nat} {xs ys : List Value} (hown : w.ownsRow base e size v n xs) (hs : RdV F w size s m ys) (h1 : ∀ u ∈ ys, u.oneCell' = true)
    (hbytes : (n + m) * bytes ≤ 140737488355328) (hpos : 0 < bytes) (hbase : base ≤ w.heap.size) :
    ∃ v' w', (Builtin.append_ #[t, t] ty #[v, s]).run P w = .ok v' w' ∧ w'.ownsRow base e size v' (n + m) (xs ++ ys) ∧ w.grownBy w' v.ownBlock ∧
      (v'.ownBlock = v.ownBlock ∨ v'.ownBlock = some w.heap.size) ∧ (v' = .slice none 0 0 ↔ v = .slice none 0 0 ∧ m = 0) := by
  have h63 : n + m ≤ maxLen := by
    have : n + m ≤ (n + m) * bytes := Nat.le_mul_of_pos_right _ hpos
    unfold maxLen; omega
  obtain ⟨hl, a, c, rfl, hc1, hc2, hnil, hrd⟩ := hs
  by_cases hm : m = 0
  · subst hm
    obtain rfl : ys = [] := List.eq_nil_of_length_eq_zero (by simpa using hl)
    refine ⟨v, w, ?_, by simpa using hown, ⟨rfl, rfl, rfl, Nat.le_refl _, fun _ _ _ => rfl⟩, .inl rfl, by simp⟩
    subst hsize
    subst hby
    rcases hown.2 with ⟨rfl, rfl⟩ | ⟨g, cap, cur, rfl, hbg, hg, hnc, hcm, hcs, htake⟩
    · cases a <;> simp [Builtin.append_, run_underlying ht, Go.sizeOf, typeInfo, hi, Builtin.lenOf, Builtin.firstCells, loadCells, loadCellsFrom]
    · cases a with
      | none =>
        obtain rfl : c = 0 := hnil rfl
        exact run_append_owned_none (P := P) (w := w) base t ty e i _ ht hi _ n xs hown
      | some ad =>
        have hr := run_append_room (P := P) w t ty e i ht hi g n cap cur hg ad 0 c [] (by simp) (by simp) (by simp) (by omega)
          (by simp only [List.length_nil, Nat.add_zero]; rw [hcs]; exact Nat.mul_le_mul_right _ hnc)
        rw [hr]
        simp only [List.length_nil, Nat.add_zero, List.append_nil, List.take_append_drop]
        congr 1
        have : cur.toList.toArray = cur := by simp
        rw [this]
        exact setRow_self w g cur e (0, 0) hg
  · obtain ⟨g0, off, cur0, e0, fr, rfl, _, hh, hx⟩ := hrd (by omega)
    have hnews : ∀ j u, ys[j]? = some u → w.cell? ((⟨g0, off, none⟩ : Addr).add j) = some u := by
      intro j u hu
      rw [addr_add, cell_of_row w g0 (off + j) cur0 e0 fr hh]
      rw [← hx, List.getElem?_take] at hu
      split at hu
      · rw [List.getElem?_drop] at hu; simpa using hu
      · cases hu
    obtain ⟨v', w', hr, h2, h3, h4⟩ := run_append_own (P := P) w base t ty e i z size bytes ht hi hz hsize hby hzs hsz v n xs hown ⟨g0, off, none⟩ m c ys hl hnews h1 h63 hbytes hbase
    refine ⟨v', w', hr, h2, h3, ?_, h4⟩
    subst hsize
    subst hby
    rcases hown.2 with ⟨rfl, rfl⟩ | ⟨g, cap, cur, rfl, hbg, hg, hnc, hcm, hcs, htake⟩
    · have hr' := run_append_nil (P := P) w t ty e i z ht hi hz ⟨g0, off, none⟩ m c ys hl hnews (by omega) (by unfold maxLen at h63; omega) (by have hb := hbytes; simp only [Nat.zero_add] at hb; omega)
      rw [hr] at hr'
      injection hr' with e1 e2
      subst e1
      exact .inr rfl
    · by_cases hroom : n + m ≤ cap
      · have hfit : n * i.size + ys.length ≤ cur.size := by rw [hl, hcs, ← Nat.add_mul]; exact Nat.mul_le_mul_right _ hroom
        have hr' := run_append_room (P := P) w t ty e i ht hi g n cap cur hg ⟨g0, off, none⟩ m c ys hl hnews h1 hroom hfit
        rw [hr] at hr'
        injection hr' with e1 e2
        subst e1
        exact .inl rfl
      · have holds : ∀ j u, xs[j]? = some u → w.cell? ((⟨g, 0, none⟩ : Addr).add j) = some u := hown.cells (g := g) rfl
        have hr' := run_append_grow (P := P) w t ty e i z ht hi hz ⟨g, 0, none⟩ n cap xs hown.1 holds ⟨g0, off, none⟩ m c ys hl hnews (by omega) (by unfold maxLen at h63; omega) (growslice_fits (by omega) hbytes)
        rw [hr] at hr'
        injection hr' with e1 e2
        subst e1
        exact .inr rfl


/-- an append whose run is known -/
theorem wpList_append_eq {P : Program} {ops : Array Oper} {rest : List Oper} {o : Oper} {a : Act} {w : World} {Q : Exit → Act → World → Prop} (hgd : o.guard = none) {s x : Operand} {t : TypeId}
    (ho : o.op = .call { callee := .builtin .append, args := #[s, x], argTypes := #[t, t] }) {v sv v' : Value} {w' : World}
    (hr : (Builtin.append_ #[t, t] o.type #[v, sv]).run P w = .ok v' w') (hs : a.eval s = v) (hx : a.eval x = sv) (h : wpList P ops Q rest (a.put o.dst v') w') : wpList P ops Q (o :: rest) a w := by
  refine wpList_plain hgd fun K hK => ?_
  unfold Oper.wp
  simp [execOp, ho, resolve, invoke, builtin, hs, hx, hr, Result.andThen]
  exact hK _ _ h

/-- any builtin whose run is known -/
theorem wpList_copy_eq {P : Program} {ops : Array Oper} {rest : List Oper} {o : Oper} {a : Act} {w : World} {Q : Exit → Act → World → Prop} (hgd : o.guard = none) {s x : Operand} {t u : TypeId}
    (ho : o.op = .call { callee := .builtin .copy, args := #[s, x], argTypes := #[t, u] }) {v sv v' : Value} {w' : World}
    (hr : (Builtin.copy_ #[t, u] o.type #[v, sv]).run P w = .ok v' w') (hs : a.eval s = v) (hx : a.eval x = sv) (h : wpList P ops Q rest (a.put o.dst v') w') : wpList P ops Q (o :: rest) a w := by
  refine wpList_plain hgd fun K hK => ?_
  unfold Oper.wp
  simp [execOp, ho, resolve, invoke, builtin, hs, hx, hr, Result.andThen]
  exact hK _ _ h

theorem wpList_clear_eq {P : Program} {ops : Array Oper} {rest : List Oper} {o : Oper} {a : Act} {w : World} {Q : Exit → Act → World → Prop} (hgd : o.guard = none) {s : Operand} {t : TypeId}
    (ho : o.op = .call { callee := .builtin .clear, args := #[s], argTypes := #[t] }) {v v' : Value} {w' : World}
    (hr : (Builtin.clear_ #[t] o.type #[v]).run P w = .ok v' w') (hs : a.eval s = v) (h : wpList P ops Q rest (a.put o.dst v') w') : wpList P ops Q (o :: rest) a w := by
  refine wpList_plain hgd fun K hK => ?_
  unfold Oper.wp
  simp [execOp, ho, resolve, invoke, builtin, hs, hr, Result.andThen]
  exact hK _ _ h


/-- a string of bytes -/
def strOf (l : List UInt8) : ByteArray := ⟨l.toArray⟩

section
variable {w w' : World} {base : Nat} {e : TypeId} {v : Value} {l : List UInt8}

theorem OwnB.at_ (h : OwnB w base e v l) (hn : 0 < l.length) : ∃ g c, v = .slice (some ⟨g, 0, none⟩) l.length c ∧ base ≤ g ∧ g < w.heap.size ∧ l.length ≤ c ∧ c ≤ maxLen ∧
    (∀ i (hi : i < l.length), w.cell? ⟨g, i, none⟩ = some (.int .u8 (l[i].toNat : Int))) ∧ (∀ i, w.frozen? ⟨g, i, none⟩ = false) := by
  rcases h.2 with ⟨rfl, h0⟩ | ⟨g, cap, cur, rfl, hb, hg, h1, h2, h3, h4⟩
  · omega
  · refine ⟨g, cap, rfl, hb, (Array.getElem?_eq_some_iff.1 hg).1, h1, h2, fun i hi => ?_, fun i => ?_⟩
    · rw [cell_of_row w g i cur e (0, 0) hg]
      have hc := congrArg (fun x => x[i]?) h4
      simp only [bv_getElem?, List.getElem?_eq_getElem hi, Option.map_some] at hc
      rw [List.getElem?_take, if_pos (by omega)] at hc
      simpa using hc
    · simp [World.frozen?, hg]

theorem OwnB.below (h : OwnB w base e v l) (hb : Below w.heap.size w w') : OwnB w' base e v l := by
  refine ⟨h.1, ?_⟩
  rcases h.2 with hn | ⟨g, cap, cur, rfl, hbg, hg, rest⟩
  · exact .inl hn
  · exact .inr ⟨g, cap, cur, rfl, hbg, by rw [hb.block g (Array.getElem?_eq_some_iff.1 hg).1]; exact hg, rest⟩

theorem OwnB.chg {F F' : Foot} (h : OwnB w base e v l) (hc : Chg F F' w w') (hF : ∀ k, v.ownBlock = some k → ¬ F k) : OwnB w' base e v l := by
  refine ⟨h.1, ?_⟩
  rcases h.2 with hn | ⟨g, cap, cur, rfl, hbg, hg, rest⟩
  · exact .inl hn
  · exact .inr ⟨g, cap, cur, rfl, hbg, by rw [hc.block g (Array.getElem?_eq_some_iff.1 hg).1 (hF g rfl)]; exact hg, rest⟩

theorem OwnB.set (h : OwnB w base e v l) {g i : Nat} (hg : v.ownBlock = some g) (hi : i < l.length) (b : UInt8) (x : Int) (hx : x = b.toNat) : OwnB (w.setCell ⟨g, i, none⟩ (.int .u8 x)) base e v (l.set i b) := by
  subst hx
  unfold OwnB
  rw [List.length_set]
  refine ⟨by simp [bv], ?_⟩
  rcases h.2 with ⟨rfl, h0⟩ | ⟨g', cap, cur, rfl, hbg, hgg, h1, h2, h3, h4⟩
  · omega
  · simp only [Value.ownBlock, Option.some.injEq] at hg
    subst hg
    refine .inr ⟨g', cap, cur.setIfInBounds i (.int .u8 (b.toNat : Int)), rfl, hbg, ?_, h1, h2, by simpa using h3, ?_⟩
    · simp [World.setCell, Array.getElem?_modify, hgg]
    · rw [Array.toList_setIfInBounds, List.take_set, h4]
      simp [bv, List.map_set]
end


section
variable {w w' : World} {base g n c : Nat} {e : TypeId} {l : List UInt8}
theorem OwnB.cellAt (h : OwnB w base e (.slice (some ⟨g, 0, none⟩) n c) l) (i : Nat) (hi : i < l.length) : w.cell? ⟨g, i, none⟩ = some (.int .u8 (l[i].toNat : Int)) := by
  obtain ⟨g', c', hv, _, _, _, _, h5, _⟩ := h.at_ (by omega)
  injection hv with e1 _ _
  injection e1 with e1
  injection e1 with e1 _ _
  subst e1
  exact h5 i hi
theorem OwnB.cellEx (h : OwnB w base e (.slice (some ⟨g, 0, none⟩) n c) l) (i : Nat) (hi : i < l.length) : ∃ b : Int, w.cell? ⟨g, i, none⟩ = some (.int .u8 b) := ⟨_, h.cellAt i hi⟩
theorem OwnB.frozenAt (h : OwnB w base e (.slice (some ⟨g, 0, none⟩) n c) l) (hl : 0 < l.length) (i : Nat) : w.frozen? ⟨g, i, none⟩ = false := by
  obtain ⟨g', c', hv, _, _, _, _, _, h6⟩ := h.at_ hl
  injection hv with e1 _ _
  injection e1 with e1
  injection e1 with e1 _ _
  subst e1
  exact h6 i
end


/-- the form, the length a letter of its own -/
theorem RdB.formN {F : Foot} {w : World} {v : Value} {l : List UInt8} (h : RdB F w v l) : ∃ a n c, v = .slice a n c ∧ Hid (n = l.length) ∧ n ≤ c ∧ c ≤ maxLen := by
  obtain ⟨a, c, hv, h1, h2⟩ := h.form
  exact ⟨a, _, c, hv, rfl, h1, h2⟩


theorem RdV.drewN {F : Foot} {w : World} {size n : Nat} {v : Value} {xs : List Value} (h : RdV F w size v n xs) (k : Nat) : RdV F (w.drewN k) size v n xs := h
theorem RdB.drewN {F : Foot} {w : World} {v : Value} {l : List UInt8} (h : RdB F w v l) (k : Nat) : RdB F (w.drewN k) v l := h
theorem below_drewN {B : Nat} {a w : World} (h : Below B a w) (n : Nat) : Below B a (w.drewN n) := ⟨h.os, h.tape, h.output, h.size, h.block⟩

/-- a call that leaves the world alone, in a region that draws its order -/
theorem quiet_eq {P : Program} {f : FuncId} {args : Array Value} {w : World} {n : Nat} {v : Value} (h : Calls P f args (w.drewN n) fun e w' => e = .returned v ∧ w.drewN n = w') :
    Calls P f args (w.drewN n) fun e w'' => e = .returned v ∧ ∃ m, w'' = w.drewN m := h.mono fun _ _ ⟨he, hm⟩ => ⟨he, n, hm.symm⟩


theorem RdV.alloc {F : Foot} {w : World} {size n : Nat} {v : Value} {xs : List Value} (h : RdV F w size v n xs) (o : Obj) : RdV F (w.alloc o) size v n xs := h.below ((Below.refl _ _).alloc (Nat.le_refl _) o)
theorem RdB.alloc {F : Foot} {w : World} {v : Value} {l : List UInt8} (h : RdB F w v l) (o : Obj) : RdB F (w.alloc o) v l := RdV.alloc h o


theorem below_more {a w : World} (h : Below a.heap.size a w) (o : Obj) : Below a.heap.size a (w.alloc o) := h.alloc h.size o

end Mun
