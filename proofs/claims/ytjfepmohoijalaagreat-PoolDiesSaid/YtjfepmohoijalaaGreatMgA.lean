/- Texts of mine, one behind the other: Mem, MapI, MapJ, Base, Law. -/
import Derived.WalkKit
import Derived.WalkSpells
import Derived.WalkLawsBesides
import Derived.Lib.Hide
import Derived.Laws.CopyOwn
import Derived.Laws.AppendOwnNone
import Derived.Deep.QuietTactic
import Derived.BigQuiet
import Derived.Lib.SlBytesConst
import Derived.MapKept
import Derived.Laws.NewFold
import Derived.Test.YtjfepmohoijalaaGreatProg
import Derived.KernelRfl
import Derived.ProofKit
import Derived.OpenShut
import Derived.ShutString
import Derived.ChangeOld
import Derived.Below
import Derived.SizedLaws
section
/- Words for memory, over any program: a slice that reads as a list of cells outside a set of blocks that may turn; what a call may turn. -/
namespace Mun
open Go Go.RowKit

/-- a set of blocks -/
abbrev Foot := Nat → Prop

/-- bytes as values -/
def bv (l : List UInt8) : List Value := l.map fun b => .int .u8 (b.toNat : Int)

theorem bv_length (l : List UInt8) : (bv l).length = l.length := by simp [bv]
theorem bv_getElem? (l : List UInt8) (i : Nat) : (bv l)[i]? = (l[i]?).map fun b => Value.int .u8 (b.toNat : Int) := by simp [bv]
theorem bv_append (a b : List UInt8) : bv (a ++ b) = bv a ++ bv b := by simp [bv]
theorem bv_oneCell (l : List UInt8) : ∀ u ∈ bv l, u.oneCell' = true := by
  intro u hu
  simp only [bv, List.mem_map] at hu
  obtain ⟨b, _, rfl⟩ := hu
  rfl
theorem addr_add (g off : Nat) (k : Nat) : (⟨g, off, none⟩ : Addr).add k = ⟨g, off + k, none⟩ := by
  unfold Addr.add; split <;> simp_all

/-- A SLICE THAT READS AS A LIST OF CELLS: the value v has n elements of 'size' cells, together the cells xs; they lie in no block of F. -/
def RdV (F : Foot) (w : World) (size : Nat) (v : Value) (n : Nat) (xs : List Value) : Prop :=
  xs.length = n * size ∧ ∃ a c, v = .slice a n c ∧ n ≤ c ∧ c ≤ maxLen ∧ (a = none → c = 0) ∧
    (0 < n → ∃ g off cur e fr, a = some ⟨g, off, none⟩ ∧ ¬ F g ∧ w.heap[g]? = some (.cells cur e fr) ∧ (cur.toList.drop off).take (n * size) = xs)

def RdB (F : Foot) (w : World) (v : Value) (l : List UInt8) : Prop := RdV F w 1 v l.length (bv l)

/-- what was there stays but for F; what F has become has come out of F or is new -/
structure Chg (F F' : Foot) (w w' : World) : Prop where
  os : w'.os = w.os
  tape : w'.tape = w.tape
  output : w'.output = w.output
  size : w.heap.size ≤ w'.heap.size
  block : ∀ k, k < w.heap.size → ¬ F k → w'.heap[k]? = w.heap[k]?
  foot : ∀ k, F' k → F k ∨ (w.heap.size ≤ k ∧ k < w'.heap.size)

theorem Chg.refl (F : Foot) (w : World) : Chg F F w w := ⟨rfl, rfl, rfl, Nat.le_refl _, fun _ _ _ => rfl, fun _ h => .inl h⟩

theorem Chg.trans {F F' F'' : Foot} {a b c : World} (h : Chg F F' a b) (k : Chg F' F'' b c) : Chg F F'' a c :=
  ⟨k.os.trans h.os, k.tape.trans h.tape, k.output.trans h.output, Nat.le_trans h.size k.size,
    fun i hi hF => (k.block i (Nat.lt_of_lt_of_le hi h.size) (fun h' => (h.foot i h').elim hF (fun x => by omega))).trans (h.block i hi hF),
    fun i hi => by
      rcases k.foot i hi with x | x
      · rcases h.foot i x with y | y
        · exact .inl y
        · exact .inr ⟨y.1, Nat.lt_of_lt_of_le y.2 k.size⟩
      · exact .inr ⟨Nat.le_trans h.size x.1, x.2⟩⟩

theorem Chg.of_below {w w' : World} (h : Below w.heap.size w w') (F : Foot) : Chg F F w w' :=
  ⟨h.os, h.tape, h.output, h.size, fun k hk _ => h.block k hk, fun _ hk => .inl hk⟩

theorem Chg.below {F F' : Foot} {w w' : World} (h : Chg F F' w w') {B : Nat} (hB : B ≤ w.heap.size) (hF : ∀ k, k < B → ¬ F k) : Below B w w' :=
  ⟨h.os, h.tape, h.output, h.size, fun k hk => h.block k (by omega) (hF k hk)⟩

theorem Chg.weak {F G F' G' : Foot} {w w' : World} (h : Chg F F' w w') (hF : ∀ k, F k → G k) (hG : ∀ k, G' k → F' k ∨ G k ∨ (w.heap.size ≤ k ∧ k < w'.heap.size)) : Chg G G' w w' :=
  ⟨h.os, h.tape, h.output, h.size, fun k hk hn => h.block k hk (fun h' => hn (hF k h')), fun k hk => by
    rcases hG k hk with x | x | x
    · rcases h.foot k x with y | y
      · exact .inl (hF k y)
      · exact .inr y
    · exact .inl x
    · exact .inr x⟩

section
variable {F F' : Foot} {w w' : World} {size n : Nat} {v : Value} {xs : List Value}

theorem RdV.len (h : RdV F w size v n xs) : xs.length = n * size := h.1
theorem RdV.form (h : RdV F w size v n xs) : ∃ a c, v = .slice a n c ∧ n ≤ c ∧ c ≤ maxLen := by
  obtain ⟨_, a, c, hv, h1, h2, _⟩ := h
  exact ⟨a, c, hv, h1, h2⟩
theorem RdV.nil (F : Foot) (w : World) (size : Nat) : RdV F w size (.slice none 0 0) 0 [] :=
  ⟨by simp, none, 0, rfl, Nat.le_refl _, Nat.zero_le _, fun _ => rfl, fun h => absurd h (by omega)⟩

theorem RdV.keep (h : RdV F w size v n xs) (hk : ∀ k, k < w.heap.size → ¬ F k → w'.heap[k]? = w.heap[k]?) (hF : ∀ k, k < w.heap.size → F' k → F k) : RdV F' w' size v n xs := by
  obtain ⟨h0, a, c, hv, h1, h2, h3, h4⟩ := h
  refine ⟨h0, a, c, hv, h1, h2, h3, fun hn => ?_⟩
  obtain ⟨g, off, cur, e, fr, ha, hg, hh, hx⟩ := h4 hn
  have hlt : g < w.heap.size := (Array.getElem?_eq_some_iff.1 hh).1
  exact ⟨g, off, cur, e, fr, ha, fun h' => hg (hF g hlt h'), (hk g hlt hg).trans hh, hx⟩

theorem RdV.chg (h : RdV F w size v n xs) (hc : Chg F F' w w') : RdV F' w' size v n xs :=
  h.keep hc.block (fun k hk h' => (hc.foot k h').elim id (fun x => by omega))

theorem RdV.below (h : RdV F w size v n xs) (hb : Below w.heap.size w w') : RdV F w' size v n xs := h.keep (fun k hk _ => hb.block k hk) (fun _ _ h => h)
theorem RdV.mono (h : RdV F w size v n xs) (hF : ∀ k, k < w.heap.size → F' k → F k) : RdV F' w size v n xs := h.keep (fun _ _ _ => rfl) hF

/-- the place of an element's cells -/
theorem RdV.at_ (h : RdV F w size v n xs) (hn : 0 < n) : ∃ g off c, v = .slice (some ⟨g, off, none⟩) n c ∧ n ≤ c ∧ c ≤ maxLen ∧ ¬ F g ∧ g < w.heap.size ∧ (∀ j u, xs[j]? = some u → w.cell? ⟨g, off + j, none⟩ = some u) := by
  obtain ⟨h0, a, c, hv, h1, h2, h3, h4⟩ := h
  obtain ⟨g, off, cur, e, fr, ha, hg, hh, hx⟩ := h4 hn
  subst ha
  refine ⟨g, off, c, hv, h1, h2, hg, (Array.getElem?_eq_some_iff.1 hh).1, fun j u hu => ?_⟩
  rw [cell_of_row w g (off + j) cur e fr hh]
  rw [← hx, List.getElem?_take] at hu
  split at hu
  · rw [List.getElem?_drop] at hu; simpa using hu
  · cases hu

/-- a row of the call's own reads as what it holds -/
theorem RdV.of_own {base : Nat} {e : TypeId} (h : w.ownsRow base e size v n xs) (hF : ∀ k, base ≤ k → ¬ F k) : RdV F w size v n xs := by
  refine ⟨h.1, ?_⟩
  rcases h.2 with ⟨rfl, rfl⟩ | ⟨g, cap, cur, rfl, hb, hg, h1, h2, h3, h4⟩
  · exact ⟨none, 0, rfl, Nat.le_refl _, Nat.zero_le _, fun _ => rfl, fun h => absurd h (by omega)⟩
  · exact ⟨_, cap, rfl, h1, h2, (by simp), fun _ => ⟨g, 0, cur, e, _, rfl, hF g hb, hg, by simpa using h4⟩⟩

theorem RdV.of_own' {base : Nat} {e : TypeId} (h : w.ownsRow base e size v n xs) (hF : ∀ k, v.ownBlock = some k → ¬ F k) : RdV F w size v n xs := by
  refine ⟨h.1, ?_⟩
  rcases h.2 with ⟨rfl, rfl⟩ | ⟨g, cap, cur, rfl, hb, hg, h1, h2, h3, h4⟩
  · exact ⟨none, 0, rfl, Nat.le_refl _, Nat.zero_le _, fun _ => rfl, fun h => absurd h (by omega)⟩
  · exact ⟨_, cap, rfl, h1, h2, (by simp), fun _ => ⟨g, 0, cur, e, _, rfl, hF g rfl, hg, by simpa using h4⟩⟩
end

section
variable {F F' : Foot} {w w' : World} {v : Value} {l : List UInt8}
theorem RdB.chg (h : RdB F w v l) (hc : Chg F F' w w') : RdB F' w' v l := RdV.chg h hc
theorem RdB.below (h : RdB F w v l) (hb : Below w.heap.size w w') : RdB F w' v l := RdV.below h hb
theorem RdB.mono (h : RdB F w v l) (hF : ∀ k, k < w.heap.size → F' k → F k) : RdB F' w v l := RdV.mono h hF
theorem RdB.nil (F : Foot) (w : World) : RdB F w (.slice none 0 0) [] := RdV.nil F w 1
theorem RdB.form (h : RdB F w v l) : ∃ a c, v = .slice a l.length c ∧ l.length ≤ c ∧ c ≤ maxLen := RdV.form h
theorem RdB.at_ (h : RdB F w v l) (hn : 0 < l.length) : ∃ g off c, v = .slice (some ⟨g, off, none⟩) l.length c ∧ l.length ≤ c ∧ c ≤ maxLen ∧ ¬ F g ∧ g < w.heap.size ∧
    (∀ i (hi : i < l.length), w.cell? ⟨g, off + i, none⟩ = some (.int .u8 (l[i].toNat : Int))) := by
  obtain ⟨g, off, c, hv, h1, h2, h3, h4, h5⟩ := RdV.at_ h hn
  exact ⟨g, off, c, hv, h1, h2, h3, h4, fun i hi => h5 i _ (by rw [bv_getElem?, List.getElem?_eq_getElem hi]; rfl)⟩
end

/-- a row of bytes of the call's own -/
def OwnB (w : World) (base : Nat) (e : TypeId) (v : Value) (l : List UInt8) : Prop := w.ownsRow base e 1 v l.length (bv l)

theorem OwnB.rd {F : Foot} {w : World} {base : Nat} {e : TypeId} {v : Value} {l : List UInt8} (h : OwnB w base e v l) (hF : ∀ k, base ≤ k → ¬ F k) : RdB F w v l := RdV.of_own h hF

theorem ownsRow_base {w : World} {base base' : Nat} {e : TypeId} {size n : Nat} {v : Value} {xs : List Value} (h : w.ownsRow base e size v n xs) (hb : ∀ k, v.ownBlock = some k → base' ≤ k) : w.ownsRow base' e size v n xs := by
  refine ⟨h.1, ?_⟩
  rcases h.2 with hn | ⟨g, cap, cur, rfl, _, rest⟩
  · exact .inl hn
  · exact .inr ⟨g, cap, cur, rfl, hb g rfl, rest⟩

/-- AN APPEND TO A ROW OF THE CALL's OWN, the source whatever reads. -/
theorem run_append_rd {P : Program} {F : Foot} {w : World} {t ty e : TypeId} {i : TypeInfo} {z : Value} {size bytes base : Nat} (ht : P.underlying t = some (.slice e)) (hi : P.info? e = some i) (hz : i.zero = some z)
    (hsize : i.size = size) (hby : i.bytes = bytes) (hzs : z.cells.size = size) (hsz : 0 < size)
    {v s : Value} {n m : Nat} {xs ys : List Value} (hown : w.ownsRow base e size v n xs) (hs : RdV F w size s m ys) (h1 : ∀ u ∈ ys, u.oneCell' = true)
    (hbytes : (n + m) * bytes ≤ 140737488355328) (hpos : 0 < bytes) (hbase : base ≤ w.heap.size) :
    ∃ v' w', (Builtin.append_ #[t, t] ty #[v, s]).run P w = .ok v' w' ∧ w'.ownsRow base e size v' (n + m) (xs ++ ys) ∧ w.grownBy w' v.ownBlock ∧
      (v'.ownBlock = v.ownBlock ∨ v'.ownBlock = some w.heap.size) ∧ (v' = .slice none 0 0 ↔ v = .slice none 0 0 ∧ m = 0) := by
  have h63 : n + m ≤ maxLen := by
    have : n + m ≤ (n + m) * bytes := Nat.le_mul_of_pos_right _ hpos
    unfold maxLen; omega
  obtain ⟨hl, a, c, rfl, hc1, hc2, hnil, hrd⟩ := hs
  by_cases hm : m = 0
  · subst hm
    obtain rfl : ys = [] := List.eq_nil_of_length_eq_zero (by simpa using hl)
    refine ⟨v, w, ?_, by simpa using hown, ⟨rfl, rfl, rfl, Nat.le_refl _, fun _ _ _ => rfl⟩, .inl rfl, by simp⟩
    subst hsize
    subst hby
    rcases hown.2 with ⟨rfl, rfl⟩ | ⟨g, cap, cur, rfl, hbg, hg, hnc, hcm, hcs, htake⟩
    · cases a <;> simp [Builtin.append_, run_underlying ht, Go.sizeOf, typeInfo, hi, Builtin.lenOf, Builtin.firstCells, loadCells, loadCellsFrom]
    · cases a with
      | none =>
        obtain rfl : c = 0 := hnil rfl
        exact run_append_owned_none (P := P) (w := w) base t ty e i _ ht hi _ n xs hown
      | some ad =>
        have hr := run_append_room (P := P) w t ty e i ht hi g n cap cur hg ad 0 c [] (by simp) (by simp) (by simp) (by omega)
          (by simp only [List.length_nil, Nat.add_zero]; rw [hcs]; exact Nat.mul_le_mul_right _ hnc)
        rw [hr]
        simp only [List.length_nil, Nat.add_zero, List.append_nil, List.take_append_drop]
        congr 1
        have : cur.toList.toArray = cur := by simp
        rw [this]
        exact setRow_self w g cur e (0, 0) hg
  · obtain ⟨g0, off, cur0, e0, fr, rfl, _, hh, hx⟩ := hrd (by omega)
    have hnews : ∀ j u, ys[j]? = some u → w.cell? ((⟨g0, off, none⟩ : Addr).add j) = some u := by
      intro j u hu
      rw [addr_add, cell_of_row w g0 (off + j) cur0 e0 fr hh]
      rw [← hx, List.getElem?_take] at hu
      split at hu
      · rw [List.getElem?_drop] at hu; simpa using hu
      · cases hu
    obtain ⟨v', w', hr, h2, h3, h4⟩ := run_append_own (P := P) w base t ty e i z size bytes ht hi hz hsize hby hzs hsz v n xs hown ⟨g0, off, none⟩ m c ys hl hnews h1 h63 hbytes hbase
    refine ⟨v', w', hr, h2, h3, ?_, h4⟩
    subst hsize
    subst hby
    rcases hown.2 with ⟨rfl, rfl⟩ | ⟨g, cap, cur, rfl, hbg, hg, hnc, hcm, hcs, htake⟩
    · have hr' := run_append_nil (P := P) w t ty e i z ht hi hz ⟨g0, off, none⟩ m c ys hl hnews (by omega) (by unfold maxLen at h63; omega) (by have hb := hbytes; simp only [Nat.zero_add] at hb; omega)
      rw [hr] at hr'
      injection hr' with e1 e2
      subst e1
      exact .inr rfl
    · by_cases hroom : n + m ≤ cap
      · have hfit : n * i.size + ys.length ≤ cur.size := by rw [hl, hcs, ← Nat.add_mul]; exact Nat.mul_le_mul_right _ hroom
        have hr' := run_append_room (P := P) w t ty e i ht hi g n cap cur hg ⟨g0, off, none⟩ m c ys hl hnews h1 hroom hfit
        rw [hr] at hr'
        injection hr' with e1 e2
        subst e1
        exact .inl rfl
      · have holds : ∀ j u, xs[j]? = some u → w.cell? ((⟨g, 0, none⟩ : Addr).add j) = some u := hown.cells (g := g) rfl
        have hr' := run_append_grow (P := P) w t ty e i z ht hi hz ⟨g, 0, none⟩ n cap xs hown.1 holds ⟨g0, off, none⟩ m c ys hl hnews (by omega) (by unfold maxLen at h63; omega) (growslice_fits (by omega) hbytes)
        rw [hr] at hr'
        injection hr' with e1 e2
        subst e1
        exact .inr rfl


/-- an append whose run is known -/
theorem wpList_append_eq {P : Program} {ops : Array Oper} {rest : List Oper} {o : Oper} {a : Act} {w : World} {Q : Exit → Act → World → Prop} (hgd : o.guard = none) {s x : Operand} {t : TypeId}
    (ho : o.op = .call { callee := .builtin .append, args := #[s, x], argTypes := #[t, t] }) {v sv v' : Value} {w' : World}
    (hr : (Builtin.append_ #[t, t] o.type #[v, sv]).run P w = .ok v' w') (hs : a.eval s = v) (hx : a.eval x = sv) (h : wpList P ops Q rest (a.put o.dst v') w') : wpList P ops Q (o :: rest) a w := by
  refine wpList_plain hgd fun K hK => ?_
  unfold Oper.wp
  simp [execOp, ho, resolve, invoke, builtin, hs, hx, hr, Result.andThen]
  exact hK _ _ h

/-- a string of bytes -/
def strOf (l : List UInt8) : ByteArray := ⟨l.toArray⟩

section
variable {w w' : World} {base : Nat} {e : TypeId} {v : Value} {l : List UInt8}

theorem OwnB.at_ (h : OwnB w base e v l) (hn : 0 < l.length) : ∃ g c, v = .slice (some ⟨g, 0, none⟩) l.length c ∧ base ≤ g ∧ g < w.heap.size ∧ l.length ≤ c ∧ c ≤ maxLen ∧
    (∀ i (hi : i < l.length), w.cell? ⟨g, i, none⟩ = some (.int .u8 (l[i].toNat : Int))) ∧ (∀ i, w.frozen? ⟨g, i, none⟩ = false) := by
  rcases h.2 with ⟨rfl, h0⟩ | ⟨g, cap, cur, rfl, hb, hg, h1, h2, h3, h4⟩
  · omega
  · refine ⟨g, cap, rfl, hb, (Array.getElem?_eq_some_iff.1 hg).1, h1, h2, fun i hi => ?_, fun i => ?_⟩
    · rw [cell_of_row w g i cur e (0, 0) hg]
      have hc := congrArg (fun x => x[i]?) h4
      simp only [bv_getElem?, List.getElem?_eq_getElem hi, Option.map_some] at hc
      rw [List.getElem?_take, if_pos (by omega)] at hc
      simpa using hc
    · simp [World.frozen?, hg]

theorem OwnB.below (h : OwnB w base e v l) (hb : Below w.heap.size w w') : OwnB w' base e v l := by
  refine ⟨h.1, ?_⟩
  rcases h.2 with hn | ⟨g, cap, cur, rfl, hbg, hg, rest⟩
  · exact .inl hn
  · exact .inr ⟨g, cap, cur, rfl, hbg, by rw [hb.block g (Array.getElem?_eq_some_iff.1 hg).1]; exact hg, rest⟩

theorem OwnB.chg {F F' : Foot} (h : OwnB w base e v l) (hc : Chg F F' w w') (hF : ∀ k, v.ownBlock = some k → ¬ F k) : OwnB w' base e v l := by
  refine ⟨h.1, ?_⟩
  rcases h.2 with hn | ⟨g, cap, cur, rfl, hbg, hg, rest⟩
  · exact .inl hn
  · exact .inr ⟨g, cap, cur, rfl, hbg, by rw [hc.block g (Array.getElem?_eq_some_iff.1 hg).1 (hF g rfl)]; exact hg, rest⟩

theorem OwnB.set (h : OwnB w base e v l) {g i : Nat} (hg : v.ownBlock = some g) (hi : i < l.length) (b : UInt8) (x : Int) (hx : x = b.toNat) : OwnB (w.setCell ⟨g, i, none⟩ (.int .u8 x)) base e v (l.set i b) := by
  subst hx
  unfold OwnB
  rw [List.length_set]
  refine ⟨by simp [bv], ?_⟩
  rcases h.2 with ⟨rfl, h0⟩ | ⟨g', cap, cur, rfl, hbg, hgg, h1, h2, h3, h4⟩
  · omega
  · simp only [Value.ownBlock, Option.some.injEq] at hg
    subst hg
    refine .inr ⟨g', cap, cur.setIfInBounds i (.int .u8 (b.toNat : Int)), rfl, hbg, ?_, h1, h2, by simpa using h3, ?_⟩
    · simp [World.setCell, Array.getElem?_modify, hgg]
    · rw [Array.toList_setIfInBounds, List.take_set, h4]
      simp [bv, List.map_set]
end


section
variable {w w' : World} {base g n c : Nat} {e : TypeId} {l : List UInt8}
theorem OwnB.cellAt (h : OwnB w base e (.slice (some ⟨g, 0, none⟩) n c) l) (i : Nat) (hi : i < l.length) : w.cell? ⟨g, i, none⟩ = some (.int .u8 (l[i].toNat : Int)) := by
  obtain ⟨g', c', hv, _, _, _, _, h5, _⟩ := h.at_ (by omega)
  injection hv with e1 _ _
  injection e1 with e1
  injection e1 with e1 _ _
  subst e1
  exact h5 i hi
theorem OwnB.frozenAt (h : OwnB w base e (.slice (some ⟨g, 0, none⟩) n c) l) (hl : 0 < l.length) (i : Nat) : w.frozen? ⟨g, i, none⟩ = false := by
  obtain ⟨g', c', hv, _, _, _, _, _, h6⟩ := h.at_ hl
  injection hv with e1 _ _
  injection e1 with e1
  injection e1 with e1 _ _
  subst e1
  exact h6 i
end


/-- the form, the length a letter of its own -/
theorem RdB.formN {F : Foot} {w : World} {v : Value} {l : List UInt8} (h : RdB F w v l) : ∃ a n c, v = .slice a n c ∧ Hid (n = l.length) ∧ n ≤ c ∧ c ≤ maxLen := by
  obtain ⟨a, c, hv, h1, h2⟩ := h.form
  exact ⟨a, _, c, hv, rfl, h1, h2⟩


theorem RdV.drewN {F : Foot} {w : World} {size n : Nat} {v : Value} {xs : List Value} (h : RdV F w size v n xs) (k : Nat) : RdV F (w.drewN k) size v n xs := h
theorem RdB.drewN {F : Foot} {w : World} {v : Value} {l : List UInt8} (h : RdB F w v l) (k : Nat) : RdB F (w.drewN k) v l := h
theorem below_drewN {B : Nat} {a w : World} (h : Below B a w) (n : Nat) : Below B a (w.drewN n) := ⟨h.os, h.tape, h.output, h.size, h.block⟩

/-- a call that leaves the world alone, in a region that draws its order -/
theorem quiet_eq {P : Program} {f : FuncId} {args : Array Value} {w : World} {n : Nat} {v : Value} (h : Calls P f args (w.drewN n) fun e w' => e = .returned v ∧ w.drewN n = w') :
    Calls P f args (w.drewN n) fun e w'' => e = .returned v ∧ ∃ m, w'' = w.drewN m := h.mono fun _ _ ⟨he, hm⟩ => ⟨he, n, hm.symm⟩


theorem RdV.alloc {F : Foot} {w : World} {size n : Nat} {v : Value} {xs : List Value} (h : RdV F w size v n xs) (o : Obj) : RdV F (w.alloc o) size v n xs := h.below ((Below.refl _ _).alloc (Nat.le_refl _) o)
theorem RdB.alloc {F : Foot} {w : World} {v : Value} {l : List UInt8} (h : RdB F w v l) (o : Obj) : RdB F (w.alloc o) v l := RdV.alloc h o


theorem below_more {a w : World} (h : Below a.heap.size a w) (o : Obj) : Below a.heap.size a (w.alloc o) := h.alloc h.size o

end Mun
end

section
/- A map whose keys are ints, at the raw level: what it holds, and what the operations on it come to. -/
set_option linter.unusedVariables false
set_option linter.unusedSimpArgs false
namespace Mun
open Go Go.RowKit

theorem getObj_map {P : Program} {w : World} {r : Nat} {es : Array MapEntry} {clock : Nat} (hb : w.heap[r]? = some (.map es clock)) : (getObj r).run P w = .ok (.map es clock) w := by simp [getObj, Sem.run, hb]
theorem setObj_map {P : Program} {w : World} {r : Nat} {es : Array MapEntry} {clock : Nat} (o : Obj) (hb : w.heap[r]? = some (.map es clock)) : (setObj r o).run P w = .ok () { w with heap := w.heap.setIfInBounds r o } := by simp [setObj, Sem.run, hb]

/-- what a list of pairs holds at a key -/
def alook (es : List (Int × Value)) (k : Int) : Option Value := (es.find? (·.1 == k)).map (·.2)

/-- the entries with their stamps -/
def mkEntries (es : List ((Int × Value) × Nat)) : Array MapEntry := (es.map fun p => ({ key := .int .i64 p.1.1, val := p.1.2, born := p.2 } : MapEntry)).toArray

/-- block M is a map that holds these pairs (the keys apart, the stamps apart and below the clock) -/
def IMapC (w : World) (M : Nat) (es : List ((Int × Value) × Nat)) (clock : Nat) : Prop :=
  (es.map (·.1.1)).Nodup ∧ (es.map (·.2)).Nodup ∧ (∀ p ∈ es, p.2 < clock) ∧ w.heap[M]? = some (.map (mkEntries es) clock)

def IMap (w : World) (M : Nat) (es : List (Int × Value)) : Prop := ∃ l clock, IMapC w M l clock ∧ l.map (·.1) = es

def setObjW (w : World) (r : Nat) (o : Obj) : World := { w with heap := w.heap.setIfInBounds r o }

theorem setObjW_same {w : World} {r : Nat} {o o' : Obj} (h : w.heap[r]? = some o) : (setObjW w r o').heap[r]? = some o' := by
  have hlt : r < w.heap.size := (Array.getElem?_eq_some_iff.1 h).1
  simp [setObjW, Array.getElem?_setIfInBounds, hlt]
theorem setObjW_other (w : World) (r k : Nat) (o : Obj) (h : k ≠ r) : (setObjW w r o).heap[k]? = w.heap[k]? := by
  simp [setObjW, Array.getElem?_setIfInBounds, Ne.symm h]
theorem setObjW_size (w : World) (r : Nat) (o : Obj) : (setObjW w r o).heap.size = w.heap.size := by simp [setObjW]
theorem setObjW_chg {F : Foot} (w : World) (r : Nat) (o : Obj) (hF : F r) : Chg F F w (setObjW w r o) :=
  ⟨rfl, rfl, rfl, by rw [setObjW_size]; exact Nat.le_refl _, fun k _ hn => setObjW_other w r k o (fun h => hn (h ▸ hF)), fun _ h => .inl h⟩

theorem IMapC.keep {w w' : World} {M : Nat} {es : List ((Int × Value) × Nat)} {c : Nat} (h : IMapC w M es c) (hk : w'.heap[M]? = w.heap[M]?) : IMapC w' M es c := ⟨h.1, h.2.1, h.2.2.1, hk.trans h.2.2.2⟩
theorem IMap.keep {w w' : World} {M : Nat} {es : List (Int × Value)} (h : IMap w M es) (hk : w'.heap[M]? = w.heap[M]?) : IMap w' M es := by
  obtain ⟨l, c, h1, h2⟩ := h
  exact ⟨l, c, h1.keep hk, h2⟩
theorem IMap.lt {w : World} {M : Nat} {es : List (Int × Value)} (h : IMap w M es) : M < w.heap.size := by
  obtain ⟨l, c, h1, h2⟩ := h
  exact (Array.getElem?_eq_some_iff.1 h1.2.2.2).1

theorem imap_new (w : World) : IMap (w.alloc (.map #[] 0)) w.heap.size [] := ⟨[], 0, ⟨by simp, by simp, by simp, heap_alloc_new w _⟩, rfl⟩

section
variable {P : Program} {tm tk te : TypeId}

theorem findNow_int (k : Int) : ∀ (es : List ((Int × Value) × Nat)) (i : Nat), Instr.findNow (.int .i64) (.int .i64 k) (es.map fun p => ({ key := .int .i64 p.1.1, val := p.1.2, born := p.2 } : MapEntry)) i =
    some ((es.findIdx? (·.1.1 == k)).map fun j => (i + j, ((es[j]?).map (·.1.2)).getD undef))
  | [], i => by simp [Instr.findNow]
  | p :: es, i => by
    simp only [List.map_cons, Instr.findNow, Instr.sameNow, if_true]
    by_cases h : k = p.1.1
    · subst h
      simp [List.findIdx?_cons]
    · have h1 : (k == p.1.1) = false := by simpa using h
      have h2 : (p.1.1 == k) = false := by simpa using Ne.symm h
      rw [h1]
      simp only
      rw [findNow_int k es (i + 1), List.findIdx?_cons, h2]
      simp only [Bool.false_eq_true, if_false, Option.map_map]
      congr 2
      funext j
      simp [Nat.add_assoc, Nat.add_comm 1 j]

theorem run_findKey_int {w : World} (hk : P.underlying tk = some (.int .i64)) (k : Int) (es : List ((Int × Value) × Nat)) :
    (Instr.findKey tk (.int .i64 k) (mkEntries es).toList).run P w = .ok ((es.findIdx? (·.1.1 == k)).map fun j => (j, ((es[j]?).map (·.1.2)).getD undef)) w := by
  have h := findNow_int k es 0
  simp only [Nat.zero_add] at h
  simp [Instr.findKey, run_underlying hk, mkEntries, h]

theorem find_of_idx (es : List ((Int × Value) × Nat)) (k : Int) :
    ((es.findIdx? (·.1.1 == k)).map fun j => ((es[j]?).map (·.1.2)).getD undef) = alook (es.map (·.1)) k := by
  induction es with
  | nil => rfl
  | cons p es ih =>
    simp only [alook, List.map_cons, List.findIdx?_cons, List.find?_cons] at ih ⊢
    by_cases h : (p.1.1 == k) = true
    · rw [if_pos h, h]
      simp
    · simp only [Bool.not_eq_true] at h
      rw [if_neg (by simp [h]), h]
      simp only
      rw [← ih, Option.map_map]
      congr 1

theorem run_checkKey_int {w : World} (hk : P.underlying tk = some (.int .i64)) (e : Bool) (k : Int) : (Instr.checkKey e 10000 tk (.int .i64 k)).run P w = .ok () w := by
  exact Go.MapKept.run_checkKey hk (by simp [Go.MapKept.IsKey]) e 9999

/-- v, ok := m[k] -/
theorem imap_lookup {w : World} {M : Nat} {es : List (Int × Value)} (ht : P.underlying tm = some (.map tk te)) (hk : P.underlying tk = some (.int .i64)) {z : Value} (hz : (zeroValue te).run P w = .ok z w) (h : IMap w M es) (k : Int) :
    (Instr.lookup tm (.map (some M)) (.int .i64 k) true).run P w = .ok (.tuple #[(alook es k).getD z, .bool (alook es k).isSome]) w := by
  obtain ⟨l, c, ⟨h1, h2, h3, h4⟩, rfl⟩ := h
  rw [← find_of_idx]
  simp only [Instr.lookup, Sem.run_bind, run_underlying ht, Result.andThen, getObj_map h4, run_checkKey_int hk, run_findKey_int hk, Sem.run_pure]
  cases l.findIdx? (·.1.1 == k) with
  | none => simp [hz]
  | some j => simp

/-- v := m[k] -/
theorem imap_lookup1 {w : World} {M : Nat} {es : List (Int × Value)} (ht : P.underlying tm = some (.map tk te)) (hk : P.underlying tk = some (.int .i64)) {z : Value} (hz : (zeroValue te).run P w = .ok z w) (h : IMap w M es) (k : Int) :
    (Instr.lookup tm (.map (some M)) (.int .i64 k) false).run P w = .ok ((alook es k).getD z) w := by
  obtain ⟨l, c, ⟨h1, h2, h3, h4⟩, rfl⟩ := h
  rw [← find_of_idx]
  simp only [Instr.lookup, Sem.run_bind, run_underlying ht, Result.andThen, getObj_map h4, run_checkKey_int hk, run_findKey_int hk, Sem.run_pure]
  cases l.findIdx? (·.1.1 == k) with
  | none => simp [hz]
  | some j => simp

theorem alook_none_iff (es : List (Int × Value)) (k : Int) : alook es k = none ↔ k ∉ es.map (·.1) := by
  simp only [alook, Option.map_eq_none_iff, List.find?_eq_none, List.mem_map, not_exists, not_and, beq_iff_eq]

theorem alook_append (a b : List (Int × Value)) (k : Int) : alook (a ++ b) k = (alook a k).or (alook b k) := by
  simp only [alook, List.find?_append]
  cases a.find? (·.1 == k) <;> simp

theorem alook_set (es : List (Int × Value)) (hn : (es.map (·.1)).Nodup) (j : Nat) (p : Int × Value) (hj : es[j]? = some p) (v : Value) (k : Int) :
    alook (es.set j (p.1, v)) k = if k = p.1 then some v else alook es k := by
  induction es generalizing j with
  | nil => simp at hj
  | cons q es ih =>
    simp only [List.map_cons, List.nodup_cons] at hn
    cases j with
    | zero =>
      simp only [List.getElem?_cons_zero, Option.some.injEq] at hj
      subst hj
      simp only [List.set_cons_zero, alook, List.find?_cons]
      by_cases h : k = q.1
      · subst h; simp
      · have : (q.1 == k) = false := by simpa using Ne.symm h
        simp [this, h]
    | succ j =>
      simp only [List.getElem?_cons_succ] at hj
      have hmem : p ∈ es := List.mem_of_getElem? hj
      have hne : q.1 ≠ p.1 := fun e => hn.1 (by rw [e]; exact List.mem_map_of_mem hmem)
      simp only [List.set_cons_succ, alook, List.find?_cons]
      by_cases h : (q.1 == k) = true
      · have hk : q.1 = k := by simpa using h
        have : ¬ k = p.1 := fun e => hne (hk.trans e)
        simp [h, this]
      · simp only [Bool.not_eq_true] at h
        simp only [h]
        have := ih hn.2 j hj
        simp only [alook] at this
        exact this

/-- m[k] = v -/
theorem imap_update {w : World} {M : Nat} {es : List (Int × Value)} (ht : P.underlying tm = some (.map tk te)) (hk : P.underlying tk = some (.int .i64)) (h : IMap w M es) (k : Int) (v : Value) :
    ∃ o es', (Instr.mapUpdate tm (.map (some M)) (.int .i64 k) v).run P w = .ok () (setObjW w M o) ∧ IMap (setObjW w M o) M es' ∧ (∀ n, alook es' n = if n = k then some v else alook es n) := by
  obtain ⟨l, c, ⟨h1, h2, h3, h4⟩, rfl⟩ := h
  have hrun : (Instr.mapUpdate tm (.map (some M)) (.int .i64 k) v).run P w = match (l.findIdx? (·.1.1 == k)) with
      | some i => .ok () (setObjW w M (.map ((mkEntries l).modify i fun e => { e with key := .int .i64 k, val := v }) c))
      | none => .ok () (setObjW w M (.map ((mkEntries l).push { key := .int .i64 k, val := v, born := c }) (c + 1))) := by
    simp only [Instr.mapUpdate, Sem.run_bind, run_underlying ht, Result.andThen, getObj_map h4, run_checkKey_int hk, run_findKey_int hk]
    cases hf : l.findIdx? (·.1.1 == k) with
    | none => simp [setObj_map _ h4, setObjW]
    | some i =>
      obtain ⟨hi, hp⟩ := List.findIdx?_eq_some_iff_getElem.1 hf
      have hkey : (((mkEntries l)[i]?).map (·.key)).getD (Value.int .i64 k) = .int .i64 k := by
        simp only [mkEntries, List.getElem?_toArray, List.getElem?_map, List.getElem?_eq_getElem hi, Option.map_some, Option.getD_some]
        have := hp.1
        simp only [beq_iff_eq] at this
        rw [this]
      simp only [Option.map_some]
      rw [hkey]
      simp [Instr.keyThatStays, Instr.sameBits, setObj_map _ h4, setObjW]
  cases hf : l.findIdx? (·.1.1 == k) with
  | none =>
    rw [hf] at hrun
    have hnone : k ∉ (l.map (·.1)).map (·.1) := by
      rw [List.findIdx?_eq_none_iff] at hf
      simp only [List.map_map, List.mem_map, not_exists, not_and]
      intro p hp
      have := hf p hp
      simpa using this
    refine ⟨_, l.map (·.1) ++ [(k, v)], hrun, ⟨l ++ [((k, v), c)], c + 1, ⟨?_, ?_, ?_, ?_⟩, by simp⟩, fun n => ?_⟩
    · rw [List.map_append, List.nodup_append]
      refine ⟨h1, by simp, ?_⟩
      intro a ha b hb
      simp only [List.map_cons, List.map_nil, List.mem_singleton] at hb
      subst hb
      rintro rfl
      exact hnone (by simpa using ha)
    · rw [List.map_append, List.nodup_append]
      refine ⟨h2, by simp, ?_⟩
      intro a ha b hb
      simp only [List.map_cons, List.map_nil, List.mem_singleton] at hb
      subst hb
      rintro rfl
      obtain ⟨p, hp, rfl⟩ := List.mem_map.1 ha
      have := h3 p hp
      omega
    · intro p hp
      rw [List.mem_append] at hp
      rcases hp with hp | hp
      · have := h3 p hp; omega
      · simp only [List.mem_singleton] at hp
        subst hp; simp
    · rw [setObjW_same h4]
      simp [mkEntries]
    · rw [alook_append]
      have hl : alook (l.map (·.1)) k = none := (alook_none_iff _ _).2 hnone
      by_cases hn : n = k
      · subst hn
        rw [hl, if_pos rfl]
        simp [alook]
      · rw [if_neg hn]
        have : alook [(k, v)] n = none := by simp [alook, Ne.symm hn]
        rw [this]; simp
  | some i =>
    rw [hf] at hrun
    obtain ⟨hi, hp⟩ := List.findIdx?_eq_some_iff_getElem.1 hf
    have hkk : l[i].1.1 = k := by simpa using hp.1
    refine ⟨_, (l.map (·.1)).set i (k, v), hrun, ⟨l.set i ((k, v), l[i].2), c, ⟨?_, ?_, ?_, ?_⟩, by rw [List.map_set]⟩, fun n => ?_⟩
    · rw [List.map_set]
      have : (l.map (·.1.1)).set i k = l.map (·.1.1) := by
        rw [← hkk]
        have := @List.set_getElem_self _ (l.map (·.1.1)) i (by simpa using hi)
        simpa using this
      rw [this]; exact h1
    · rw [List.map_set]
      have : (l.map (·.2)).set i l[i].2 = l.map (·.2) := by
        have := @List.set_getElem_self _ (l.map (·.2)) i (by simpa using hi)
        simpa using this
      rw [this]; exact h2
    · intro p hp'
      rcases List.mem_or_eq_of_mem_set hp' with h | h
      · exact h3 p h
      · subst h; exact h3 l[i] (List.getElem_mem hi)
    · rw [setObjW_same h4]
      congr 2
      apply Array.ext_getElem?
      intro j
      simp only [mkEntries, Array.getElem?_modify, List.getElem?_toArray, List.getElem?_map, List.getElem?_set]
      by_cases hj : i = j
      · subst hj; simp [hi]
      · simp [hj]
    · have := alook_set (l.map (·.1)) (by rw [List.map_map]; exact h1) i l[i].1 (by simp [hi]) v n
      rw [hkk] at this
      exact this

/-- clear(m) -/
theorem imap_clear {w : World} {M : Nat} {es : List (Int × Value)} {ty : TypeId} (ht : P.underlying tm = some (.map tk te)) (h : IMap w M es) :
    ∃ o, (Builtin.clear_ #[tm] ty #[.map (some M)]).run P w = .ok (.tuple #[]) (setObjW w M o) ∧ IMap (setObjW w M o) M [] := by
  obtain ⟨l, c, ⟨h1, h2, h3, h4⟩, rfl⟩ := h
  refine ⟨.map #[] c, ?_, ⟨[], c, ⟨by simp, by simp, by simp, setObjW_same h4⟩, rfl⟩⟩
  simp [Builtin.clear_, run_underlying ht, getObj_map h4, setObj_map _ h4, setObjW]

/-- range m -/
theorem imap_range {w : World} {M : Nat} {l : List ((Int × Value) × Nat)} {c : Nat} (ht : P.underlying tm = some (.map tk te)) (h : IMapC w M l c) :
    (Instr.range tm (.map (some M))).run P w = .ok (.pointer (some ⟨w.heap.size, 0, none⟩)) (w.alloc (.mapIter (some M) c #[] c)) := by
  simp [Instr.range, run_underlying ht, getObj_map h.2.2.2, Result.andThen]

theorem getObj_iter {P : Program} {w : World} {r : Nat} {m : Option Nat} {s : Nat} {seen : Array Nat} {c : Nat} (hb : w.heap[r]? = some (.mapIter m s seen c)) : (getObj r).run P w = .ok (.mapIter m s seen c) w := by simp [getObj, Sem.run, hb]
theorem setObj_iter {P : Program} {w : World} {r : Nat} {m : Option Nat} {s : Nat} {seen : Array Nat} {c : Nat} (o : Obj) (hb : w.heap[r]? = some (.mapIter m s seen c)) : (setObj r o).run P w = .ok () (setObjW w r o) := by simp [setObj, Sem.run, hb, setObjW]

/-- one step of the range: all have been seen, or one that has not is taken -/
theorem imap_next {w : World} {M r : Nat} {l : List ((Int × Value) × Nat)} {c : Nat} {seen : Array Nat} {ty : TypeId} (h : IMapC w M l c) (hr : w.heap[r]? = some (.mapIter (some M) c seen c)) :
    ∃ v w0 w', (Instr.next (.pointer (some ⟨r, 0, none⟩)) false ty).run P w = .ok v w' ∧ (w0 = w ∨ w0 = w.drew) ∧
      (((∀ p ∈ l, seen.contains p.2 = true) ∧ v = .tuple #[.bool false] ∧ w' = w0) ∨
       (∃ p ∈ l, seen.contains p.2 = false ∧ v = .tuple #[.bool true, .int .i64 p.1.1, p.1.2] ∧ w' = setObjW w0 r (.mapIter (some M) c (seen.push p.2) c))) := by
  obtain ⟨h1, h2, h3, h4⟩ := h
  have hall : (mkEntries l).all (fun x => decide (c ≤ x.born)) = true → l = [] := by
    intro ha
    cases l with
    | nil => rfl
    | cons p l =>
      have := Array.all_eq_true_iff_forall_mem.1 ha { key := .int .i64 p.1.1, val := p.1.2, born := p.2 } (by simp [mkEntries])
      have := h3 p (by simp)
      simp at *
      omega
  have hcheck : (!seen.isEmpty && !(mkEntries l).isEmpty && (mkEntries l).all (fun x => decide (c ≤ x.born))) = false := by
    rw [Bool.and_eq_false_iff, Bool.and_eq_false_iff]
    cases hl : (mkEntries l).all (fun x => decide (c ≤ x.born)) with
    | false => exact .inr rfl
    | true => rw [hall hl]; exact .inl (.inr rfl)
  generalize hleft : ((mkEntries l).filter fun e => !seen.contains e.born) = left
  have hold : left.filter (fun x => decide (x.born < c)) = left := by
    apply Array.filter_eq_self.2
    intro e he
    rw [← hleft, Array.mem_filter] at he
    obtain ⟨hm, _⟩ := he
    simp only [mkEntries, List.mem_toArray, List.mem_map] at hm
    obtain ⟨p, hp, rfl⟩ := hm
    simpa using h3 p hp
  have hnew : left.filter (fun x => decide (c ≤ x.born)) = #[] := by
    apply Array.filter_eq_empty_iff.2
    intro e he
    rw [← hleft, Array.mem_filter] at he
    obtain ⟨hm, _⟩ := he
    simp only [mkEntries, List.mem_toArray, List.mem_map] at hm
    obtain ⟨p, hp, rfl⟩ := hm
    have := h3 p hp
    simp; omega
  by_cases hemp : left = #[]
  · refine ⟨.tuple #[.bool false], w, w, ?_, .inl rfl, .inl ⟨fun p hp => ?_, rfl, rfl⟩⟩
    · simp only [Instr.next, Sem.run_bind, getObj_iter hr, getObj_map h4, Result.andThen]
      simp only [ge_iff_le, hcheck, hleft, hold, hnew, hemp]
      simp [Question.forced]
    · rw [hemp] at hleft
      have := Array.filter_eq_empty_iff.1 hleft { key := .int .i64 p.1.1, val := p.1.2, born := p.2 } (by simp [mkEntries]; exact ⟨_, _, _, hp, rfl, rfl, rfl⟩)
      simpa using this
  · have hpos : 0 < left.size := Array.size_pos_iff.2 hemp
    have hcand : (if left.isEmpty = true then #[(none : Option MapEntry)] else #[]) ++ (left ++ #[]).map some = left.map some := by
      have : left.isEmpty = false := by simpa using hemp
      simp [this]
    obtain ⟨i, w0, hi, hw0, hch⟩ : ∃ i w0, i < left.size ∧ (w0 = w ∨ w0 = w.drew) ∧ (choose (.mapNext left.size)).run P w = .ok i w0 := by
      by_cases hf : left.size ≤ 1
      · exact ⟨0, w, hpos, .inl rfl, by simp [Question.forced, hf]⟩
      · exact ⟨_, w.drew, Nat.mod_lt _ hpos, .inr rfl, by simp [Question.forced, hf, Question.cut]; rfl⟩
    have hmem : left[i] ∈ (mkEntries l).filter (fun e => !seen.contains e.born) := by rw [hleft]; exact Array.getElem_mem hi
    rw [Array.mem_filter] at hmem
    obtain ⟨hm, hs⟩ := hmem
    simp only [mkEntries, List.mem_toArray, List.mem_map] at hm
    obtain ⟨p, hp, hpe⟩ := hm
    have hr0 : w0.heap[r]? = some (.mapIter (some M) c seen c) := by rcases hw0 with rfl | rfl <;> exact hr
    have hli : left[i] = { key := .int .i64 p.1.1, val := p.1.2, born := p.2 } := hpe.symm
    refine ⟨.tuple #[.bool true, .int .i64 p.1.1, p.1.2], w0, _, ?_, hw0, .inr ⟨p, hp, ?_, rfl, rfl⟩⟩
    · simp only [Instr.next, Sem.run_bind, getObj_iter hr, getObj_map h4, Result.andThen]
      simp only [ge_iff_le, hcheck]
      simp only [hleft, hold, hnew, hcand, Array.size_map, Bool.false_eq_true, if_false]
      simp only [Sem.run_bind, hch, Result.andThen, Array.getElem?_map, Array.getElem?_eq_getElem hi, Option.map_some, hli, setObj_iter _ hr0, Sem.run_pure]
    · rw [← hpe] at hs
      simpa using hs

theorem imap_entry {w : World} {M r : Nat} {l : List ((Int × Value) × Nat)} {c : Nat} {seen : Array Nat} (h : IMapC w M l c) {p : (Int × Value) × Nat} (hp : p ∈ l) (hr : w.heap[r]? = some (.mapIter (some M) c (seen.push p.2) c)) :
    (Instr.entry (.pointer (some ⟨r, 0, none⟩))).run P w = .ok (.tuple #[.int .i64 p.1.1, p.1.2]) w := by
  obtain ⟨h1, h2, h3, h4⟩ := h
  have hfind : (mkEntries l).find? (fun x => x.born == p.2) = some { key := .int .i64 p.1.1, val := p.1.2, born := p.2 } := by
    simp only [mkEntries, List.find?_toArray, List.find?_map]
    have : l.find? ((fun x : MapEntry => x.born == p.2) ∘ fun p => { key := .int .i64 p.1.1, val := p.1.2, born := p.2 }) = some p := by
      clear h1 h3 h4 hr
      induction l with
      | nil => simp at hp
      | cons q l ih =>
        simp only [List.map_cons, List.nodup_cons] at h2
        simp only [List.find?_cons, Function.comp]
        rcases List.mem_cons.1 hp with rfl | hp
        · simp
        · have : (q.2 == p.2) = false := by
            simp only [beq_eq_false_iff_ne]
            intro e
            exact h2.1 (by rw [e]; exact List.mem_map_of_mem hp)
          rw [this]
          exact ih hp h2.2
    rw [this]; rfl
  simp [Instr.entry, getObj_iter hr, getObj_map h4, Result.andThen, hfind]
end
end Mun
end

section
/- delete(m, k) and len(m) on maps whose keys are ints. -/
set_option linter.unusedVariables false
set_option linter.unusedSimpArgs false
set_option linter.unusedSectionVars false
namespace Mun
open Go Go.RowKit

variable {P : Program} {tm tk te : TypeId}

theorem map_erase {β γ : Type} (f : β → γ) : ∀ (l : List β) (i : Nat), (l.map f).eraseIdx i = (l.eraseIdx i).map f
  | [], _ => by simp
  | _ :: _, 0 => rfl
  | a :: l, i + 1 => by simp only [List.map_cons, List.eraseIdx_cons_succ, map_erase f l i]
/-- a key taken out -/
def adel : List (Int × Value) → Int → List (Int × Value)
  | [], _ => []
  | p :: es, k => if p.1 = k then es else p :: adel es k

theorem adel_erase (l : List ((Int × Value) × Nat)) (k : Int) : adel (l.map (·.1)) k = match l.findIdx? (·.1.1 == k) with | some i => (l.eraseIdx i).map (·.1) | none => l.map (·.1) := by
  induction l with
  | nil => rfl
  | cons p l ih =>
    simp only [List.map_cons, adel, List.findIdx?_cons]
    by_cases hp : p.1.1 = k
    · rw [if_pos hp]
      have h1 : (p.1.1 == k) = true := by simpa using hp
      simp [h1]
    · rw [if_neg hp, ih]
      have h1 : (p.1.1 == k) = false := by simpa using hp
      simp only [h1]
      cases l.findIdx? (·.1.1 == k) with
      | none => rfl
      | some i => simp

theorem alook_adel (es : List (Int × Value)) (hn : (es.map (·.1)).Nodup) (k n : Int) : alook (adel es k) n = if n = k then none else alook es n := by
  induction es with
  | nil => simp [adel, alook]
  | cons p es ih =>
    simp only [List.map_cons, List.nodup_cons] at hn
    simp only [adel]
    by_cases hp : p.1 = k
    · rw [if_pos hp]
      by_cases h : n = k
      · rw [if_pos h, alook_none_iff, h, ← hp]
        exact hn.1
      · rw [if_neg h]
        have h1 : (p.1 == n) = false := by rw [hp]; simpa using Ne.symm h
        simp [alook, List.find?_cons, h1]
    · rw [if_neg hp]
      have ih2 := ih hn.2
      by_cases hq : p.1 = n
      · have h1 : (p.1 == n) = true := by simpa using hq
        have h2 : ¬ n = k := fun e => hp (hq.trans e)
        rw [if_neg h2]
        simp [alook, List.find?_cons, h1]
      · have h1 : (p.1 == n) = false := by simpa using hq
        simp only [alook, List.find?_cons, h1] at ih2 ⊢
        exact ih2

theorem mkEntries_erase (l : List ((Int × Value) × Nat)) (i : Nat) : (mkEntries l).eraseIdxIfInBounds i = mkEntries (l.eraseIdx i) := by
  apply Array.ext'
  unfold mkEntries
  rw [Array.eraseIdxIfInBounds]
  split
  · rename_i h
    simp [map_erase]
  · rename_i h
    simp only [List.size_toArray, List.length_map] at h
    rw [List.eraseIdx_of_length_le (by omega)]

theorem imap_delete {w : World} {M : Nat} {es : List (Int × Value)} {ty : TypeId} (ht : P.underlying tm = some (.map tk te)) (hk : P.underlying tk = some (.int .i64)) (h : IMap w M es) (k : Int) (tk2 : TypeId) :
    ∃ o, (Builtin.delete_ #[tm, tk2] ty #[.map (some M), .int .i64 k]).run P w = .ok (.tuple #[]) (setObjW w M o) ∧ IMap (setObjW w M o) M (adel es k) := by
  obtain ⟨l, c, ⟨h1, h2, h3, h4⟩, rfl⟩ := h
  have hrun : (Builtin.delete_ #[tm, tk2] ty #[.map (some M), .int .i64 k]).run P w = match (l.findIdx? (·.1.1 == k)) with
      | some i => .ok (.tuple #[]) (setObjW w M (.map ((mkEntries l).eraseIdxIfInBounds i) c))
      | none => .ok (.tuple #[]) (setObjW w M (.map (mkEntries l) c)) := by
    simp [Builtin.delete_, Sem.run_bind, run_underlying ht, getObj_map h4, run_checkKey_int hk, run_findKey_int hk, Result.andThen]
    cases hf : l.findIdx? (·.1.1 == k) with
    | none => simp [setObj_map _ h4, setObjW]
    | some i => simp [setObj_map _ h4, setObjW]
  have he := adel_erase l k
  cases hf : l.findIdx? (·.1.1 == k) with
  | none =>
    rw [hf] at hrun he
    exact ⟨_, hrun, ⟨l, c, ⟨h1, h2, h3, setObjW_same h4⟩, he.symm⟩⟩
  | some i =>
    rw [hf] at hrun he
    refine ⟨_, hrun, ⟨l.eraseIdx i, c, ⟨?_, ?_, fun p hp => h3 p (List.mem_of_mem_eraseIdx hp), ?_⟩, he.symm⟩⟩
    · rw [← map_erase]
      exact h1.sublist (List.eraseIdx_sublist ..)
    · rw [← map_erase]
      exact h2.sublist (List.eraseIdx_sublist ..)
    · rw [setObjW_same h4, mkEntries_erase]

theorem imap_len {w : World} {M : Nat} {es : List (Int × Value)} {ty : TypeId} (ht : P.underlying tm = some (.map tk te)) (h : IMap w M es) : (Builtin.len_ #[tm] ty #[.map (some M)]).run P w = .ok (.int .i64 es.length) w := by
  obtain ⟨l, c, ⟨-, -, -, hb⟩, rfl⟩ := h
  simp [Builtin.len_, Sem.run_bind, run_underlying ht, getObj_map hb, mkEntries, goInt]
end Mun
end

section
/- The seat's own facts on types. -/
namespace Mun
open Go Go.RowKit
open Go.Proofs

theorem info_u8 : (Tryz.prog.info? 5).map (fun i => (i.zero, i.size, i.bytes)) = some (some (.int .u8 0), 1, 1) := by kernel_rfl

theorem info_of {P : Program} {e : TypeId} {z : Value} {s b : Nat} (h : (P.info? e).map (fun i => (i.zero, i.size, i.bytes)) = some (some z, s, b)) :
    ∃ i, P.info? e = some i ∧ i.zero = some z ∧ i.size = s ∧ i.bytes = b := by
  cases hi : P.info? e with
  | none => simp [hi] at h
  | some i => simp [hi] at h; exact ⟨i, rfl, h.1, h.2.1, h.2.2⟩

/-- an append of bytes to a row of the call's own -/
theorem append_bytes {F : Foot} {w : World} {base : Nat} {ty : TypeId} {v s : Value} {xs ys : List UInt8} (hown : OwnB w base 5 v xs) (hs : RdB F w s ys)
    (hbytes : xs.length + ys.length ≤ 140737488355328) (hbase : base ≤ w.heap.size) :
    ∃ v' w', (Builtin.append_ #[41, 41] ty #[v, s]).run Tryz.prog w = .ok v' w' ∧ OwnB w' base 5 v' (xs ++ ys) ∧ w.grownBy w' v.ownBlock ∧
      (v'.ownBlock = v.ownBlock ∨ v'.ownBlock = some w.heap.size) ∧ (v' = .slice none 0 0 ↔ v = .slice none 0 0 ∧ ys.length = 0) := by
  obtain ⟨i, hi, hz, h1, h2⟩ := info_of info_u8
  obtain ⟨v', w', hr, h3, h4, h5, h6⟩ := run_append_rd (P := Tryz.prog) (ty := ty) Tryz.underlying41 hi hz h1 h2 (by rfl) (by omega) hown hs (bv_oneCell _) (by omega) (by omega) hbase
  refine ⟨v', w', hr, ?_, h4, h5, h6⟩
  unfold OwnB
  rw [List.length_append, bv_append]
  exact h3

/-- a block of bytes -/
def bobj (l : List UInt8) : Obj := .cells (bv l).toArray 5

theorem bobj_cell (w : World) (l : List UInt8) (i : Nat) (h : i < l.length) : (w.alloc (bobj l)).cell? ⟨w.heap.size, i, none⟩ = some (.int .u8 (l[i].toNat : Int)) := by
  have := cell_of_row (w.alloc (bobj l)) w.heap.size i (bv l).toArray 5 (0, 0) (heap_alloc_new w _)
  rw [this]
  simp [bv, h]

theorem bobj_rd {F : Foot} (w : World) (l : List UInt8) (c : Nat) (hc : c = l.length) (hm : l.length ≤ maxLen) (hF : ¬ F w.heap.size) : RdB F (w.alloc (bobj l)) (.slice (some ⟨w.heap.size, 0, none⟩) l.length c) l := by
  subst hc
  refine ⟨by simp [bv], _, _, rfl, Nat.le_refl _, hm, by simp, fun _ => ⟨_, 0, _, _, _, rfl, hF, heap_alloc_new w _, ?_⟩⟩
  simp only [List.drop_zero]
  rw [List.take_of_length_le (by simp [bv])]

theorem bobj_own (w : World) (l : List UInt8) (c base : Nat) (hc : c = l.length) (hm : l.length ≤ maxLen) (hB : base ≤ w.heap.size) : OwnB (w.alloc (bobj l)) base 5 (.slice (some ⟨w.heap.size, 0, none⟩) l.length c) l := by
  subst hc
  refine ⟨by simp [bv], .inr ⟨_, _, _, rfl, hB, heap_alloc_new w _, Nat.le_refl _, hm, by simp [bv], ?_⟩⟩
  rw [List.take_of_length_le (by simp [bv])]

theorem madeCells_u8 (n : Nat) : madeCells #[Value.int .u8 0] n = (bv (List.replicate n 0)).toArray := by
  apply Array.ext
  · simp [madeCells, bv]
  · intro i h1 h2
    simp [madeCells, bv, Nat.mod_one]

theorem make_bytes (n c : Nat) (hn : n ≤ c) (hc : c ≤ 140737488355328) (w : World) :
    (Instr.makeSlice 41 (.int .i64 n) (.int .i64 c)).run Tryz.prog w = .ok (.slice (some ⟨w.heap.size, 0, none⟩) n c) (w.alloc (bobj (List.replicate c 0))) := by
  obtain ⟨i, hi, hz, h1, h2⟩ := info_of info_u8
  have hr := run_make (P := Tryz.prog) w _ _ i _ Tryz.underlying41 hi hz .i64 .i64 n c (by omega) (by omega) (by rw [h2]; omega) (by omega)
  rw [hr, h1]
  simp only [Int.toNat_natCast, Nat.mul_one]
  unfold bobj
  rw [show (Value.int IntKind.u8 0).cells = #[Value.int .u8 0] from rfl, madeCells_u8]

theorem make_bytes0 (c : Nat) (hc : c ≤ 140737488355328) (w : World) :
    (Instr.makeSlice 41 (.int .i64 0) (.int .i64 c)).run Tryz.prog w = .ok (.slice (some ⟨w.heap.size, 0, none⟩) 0 c) (w.alloc (bobj (List.replicate c 0))) :=
  make_bytes 0 c (Nat.zero_le _) hc w

theorem setRow_alloc (w : World) (c d : Array Value) (t : TypeId) : (w.alloc (.cells c t)).setRow w.heap.size d = w.alloc (.cells d t) := by
  simp only [World.setRow, World.alloc]
  congr 1
  apply Array.ext_getElem?
  intro i
  rw [Array.getElem?_modify]
  by_cases h : w.heap.size = i
  · subst h; simp
  · rw [if_neg h]
    by_cases h2 : i < w.heap.size
    · simp [Array.getElem?_push, Ne.symm h]
    · simp [Array.getElem?_push, Ne.symm h]

set_option maxRecDepth 100000 in
/-- make with just the room, then append: the copy -/
theorem copied_bytes {F : Foot} {w : World} {ty : TypeId} {v : Value} {l : List UInt8} (h : RdB F w v l) (hl : l.length ≤ 140737488355328) :
    (Builtin.append_ #[41, 41] ty #[.slice (some ⟨w.heap.size, 0, none⟩) 0 l.length, v]).run Tryz.prog (w.alloc (bobj (List.replicate l.length 0))) =
      .ok (.slice (some ⟨w.heap.size, 0, none⟩) l.length l.length) (w.alloc (bobj l)) := by
  obtain ⟨i, hi, hz, h1, h2⟩ := info_of info_u8
  have hb : RdB F (w.alloc (bobj (List.replicate l.length 0))) v l := h.below ((Below.refl _ _).alloc (Nat.le_refl _) _)
  rcases Nat.eq_zero_or_pos l.length with h0 | hp
  · obtain rfl : l = [] := List.eq_nil_of_length_eq_zero h0
    have hown : OwnB (w.alloc (bobj [])) w.heap.size 5 (.slice (some ⟨w.heap.size, 0, none⟩) 0 0) [] := bobj_own w [] 0 _ rfl (Nat.zero_le _) (Nat.le_refl _)
    obtain ⟨a, c, rfl, hc1, hc2⟩ := h.form
    have hnil : a = none → c = 0 := by
      obtain ⟨_, a', c', hv, _, _, h3, _⟩ := h
      injection hv with e1 _ e3
      subst e1 e3
      exact h3
    simp only [List.length_nil, List.replicate_zero]
    cases a with
    | none =>
      obtain rfl := hnil rfl
      exact run_append_owned_none (P := Tryz.prog) (w := w.alloc (bobj [])) _ _ ty _ i 1 Tryz.underlying41 hi _ 0 [] hown
    | some ad =>
      have hg : (w.alloc (bobj [])).heap[w.heap.size]? = some (.cells #[] 5 (0, 0)) := heap_alloc_new w _
      have hr := run_append_room (P := Tryz.prog) (w.alloc (bobj [])) 41 ty 5 i Tryz.underlying41 hi w.heap.size 0 0 #[] hg ad 0 c [] (by simp) (by simp) (by simp) (by omega) (by simp)
      rw [hr]
      congr 1
      simp only [Nat.zero_mul, List.take_zero, List.nil_append, List.length_nil, Nat.add_zero, List.drop_zero]
      exact setRow_self _ w.heap.size #[] _ _ hg
  · obtain ⟨g, off, c, rfl, hc1, hc2, hF, hlt, hcell⟩ := hb.at_ hp
    have hg : (w.alloc (bobj (List.replicate l.length 0))).heap[w.heap.size]? = some (.cells (bv (List.replicate l.length 0)).toArray 5 (0, 0)) := heap_alloc_new w _
    have hr := run_append_room (P := Tryz.prog) (w.alloc (bobj (List.replicate l.length 0))) 41 ty 5 i Tryz.underlying41 hi w.heap.size 0 l.length _ hg ⟨g, off, none⟩ l.length c (bv l) (by simp [bv, h1])
      (by
        intro j u hu
        rw [addr_add]
        rw [bv_getElem?] at hu
        have hj : j < l.length := by
          rcases Nat.lt_or_ge j l.length with h | h
          · exact h
          · rw [List.getElem?_eq_none h] at hu; cases hu
        rw [List.getElem?_eq_getElem hj] at hu
        simp only [Option.map_some, Option.some.injEq] at hu
        rw [← hu]
        exact hcell j hj) (bv_oneCell l) (by omega) (by simp [bv])
    rw [hr]
    simp only [Nat.zero_add, Nat.zero_mul, List.take_zero, List.nil_append]
    congr 1
    rw [List.drop_eq_nil_of_le (by simp [bv]), List.append_nil]
    exact setRow_alloc _ _ _ _
/-- a part of what reads -/
theorem RdB.part {F : Foot} {w : World} {a : Option Addr} {n c : Nat} {l : List UInt8} (h : RdB F w (.slice a n c) l) (lo hi : Nat) (h1 : lo ≤ hi) (h2 : hi ≤ l.length) :
    RdB F w (.slice (if c = lo then a else a.map (·.add lo)) (hi - lo) (c - lo)) ((l.drop lo).take (hi - lo)) := by
  obtain ⟨h0, a', c', hv, hc1, hc2, hnil, h4⟩ := h
  injection hv with e1 e2 e3
  subst e1 e2 e3
  have hlen : ((l.drop lo).take (hi - lo)).length = hi - lo := by rw [List.length_take, List.length_drop]; omega
  refine ⟨by rw [hlen, bv_length, hlen]; omega, _, _, by rw [hlen], by omega, by omega, ?_, ?_⟩
  · intro hn
    split at hn
    · have := hnil hn; omega
    · cases a with
      | none => have := hnil rfl; omega
      | some _ => simp at hn
  · intro hp
    rw [hlen] at hp
    obtain ⟨g, off, cur, e, fr, ha, hg, hh, hx⟩ := h4 (by omega)
    subst ha
    refine ⟨g, off + lo, cur, e, fr, ?_, hg, hh, ?_⟩
    · rw [if_neg (by omega)]
      simp only [Option.map_some, addr_add]
    · have e1 : bv ((l.drop lo).take (hi - lo)) = ((bv l).drop lo).take (hi - lo) := by simp [bv, List.map_take, List.map_drop]
      rw [hlen, e1, ← hx, List.drop_take, List.take_take, List.drop_drop]
      congr 1
      omega


/-- the run of a cut -/
theorem slice_bytes {F : Foot} {w : World} {a : Option Addr} {n c : Nat} {l : List UInt8} (h : RdB F w (.slice a n c) l) (lo hi : Nat) (L H : Int) (hL : L = lo) (hH : H = hi) (h1 : lo ≤ hi) (h2 : hi ≤ l.length) :
    ∃ a1 c1, (∀ W, (Instr.sliceAt 41 (.slice a n c) (some (.int .i64 L)) (some (.int .i64 H)) none).run Tryz.prog W = .ok (.slice a1 (hi - lo) c1) W) ∧
      RdB F w (.slice a1 (hi - lo) c1) ((l.drop lo).take (hi - lo)) := by
  subst hL
  subst hH
  have hp := h.part lo hi h1 h2
  obtain ⟨a', c', hv, hc1, hc2⟩ := h.form
  injection hv with e1 e2 e3
  subst e1 e2 e3
  refine ⟨_, _, fun W => ?_, hp⟩
  obtain ⟨i, hi', hz, hs1, hs2⟩ := info_of info_u8
  have he : Tryz.prog.elem 41 = 5 := by kernel_rfl
  have ht : Tryz.prog.underlying 41 = some (.slice (Tryz.prog.elem 41)) := by rw [he]; exact Tryz.underlying41
  rw [run_sliceAt_slice _ _ _ _ _ _ ht, run_slice_lh _ _ _ _ _ ht _ _ _ _ (by omega) (by omega) (by omega), he]
  simp [Go.sizeOf, typeInfo, hi', hs1, sliced]


/-- one byte, as the walk writes it -/
theorem bobj_one (w : World) (b : UInt8) (x : Int) (hx : x = b.toNat) : w.alloc (.cells #[Value.int .u8 x] 5) = w.alloc (bobj [b]) := by
  subst hx; rfl


/-- a block of bytes that the walk has written out reads as them -/
theorem lit_rd {F : Foot} (w : World) (C : Array Value) (fr : Nat × Nat) (l : List UInt8) (hC : C.toList = bv l) (g n c : Nat) (hg : g = w.heap.size) (hn : n = l.length) (hc : c = l.length) (hm : l.length ≤ maxLen) (hF : ¬ F w.heap.size) :
    RdB F (w.alloc (.cells C 5 fr)) (.slice (some ⟨g, 0, none⟩) n c) l := by
  subst hg
  subst hn
  subst hc
  refine ⟨by simp [bv], _, _, rfl, Nat.le_refl _, hm, by simp, fun _ => ⟨_, 0, _, _, _, rfl, hF, heap_alloc_new w _, ?_⟩⟩
  simp only [List.drop_zero]
  rw [hC, List.take_of_length_le (by simp [bv])]


/-- string(b) -/
theorem str_bytes {F : Foot} {w : World} {v : Value} {l : List UInt8} (h : RdB F w v l) : (convert 41 9 v).run Tryz.prog w = .ok (.string (strOf l)) w := by
  obtain ⟨h0, a, c, rfl, hc1, hc2, hnil, h4⟩ := h
  cases a with
  | none =>
    have : c = 0 := hnil rfl
    obtain rfl : l = [] := List.eq_nil_of_length_eq_zero (by omega)
    rw [run_convert_bytes_string w _ _ 5 none _ c Tryz.underlying41 Tryz.underlying5 Tryz.underlying9]
    rfl
  | some ad =>
    refine run_convert_bytes_back w _ _ 5 ad c l Tryz.underlying41 Tryz.underlying5 Tryz.underlying9 (fun j hj => ?_)
    obtain ⟨g, off, cur, e, fr, ha, hg, hh, hx⟩ := h4 (by omega)
    injection ha with ha
    subst ha
    rw [addr_add, cell_of_row w g (off + j) cur e fr hh]
    have := congrArg (fun x => x[j]?) hx
    simp only [bv_getElem?, List.getElem?_eq_getElem hj, Option.map_some] at this
    rw [List.getElem?_take, if_pos (by omega), List.getElem?_drop] at this
    simpa using this

theorem strOf_toList (l : List UInt8) : (strOf l).toList = l := by
  rw [ByteArray.toList_eq]; rfl

theorem strOf_eq (a b : List UInt8) : ((strOf a).toList == (strOf b).toList) = decide (a = b) := by
  rw [strOf_toList, strOf_toList]
  by_cases h : a = b
  · subst h; simp
  · rw [decide_eq_false h]; simpa using h


theorem OwnB.nil (w : World) (base : Nat) (e : TypeId) : OwnB w base e (.slice none 0 0) [] := World.ownsRow_nil w base e 1

/-- append(nil, b...) -/
theorem append_nil_bytes {F : Foot} {w : World} {ty : TypeId} {s : Value} {ys : List UInt8} (hs : RdB F w s ys) (hbytes : ys.length ≤ 140737488355328) (hpos : 0 < ys.length) :
    ∃ g cap w', (Builtin.append_ #[41, 41] ty #[.slice none 0 0, s]).run Tryz.prog w = .ok (.slice (some ⟨g, 0, none⟩) ys.length cap) w' ∧
      OwnB w' w.heap.size 5 (.slice (some ⟨g, 0, none⟩) ys.length cap) ys ∧ Below w.heap.size w w' ∧ w.heap.size ≤ g := by
  obtain ⟨v3, w3, hr, ho, hgr, hob, hnil⟩ := append_bytes (base := w.heap.size) (ty := ty) (OwnB.nil w w.heap.size 5) hs (by simpa using hbytes) (Nat.le_refl _)
  rw [List.nil_append] at ho
  obtain ⟨g, cap, hvv, hg1, _⟩ := ho.at_ hpos
  subst hvv
  exact ⟨g, cap, w3, hr, ho, (Below.refl _ _).grown hgr (Nat.le_refl _) (fun k hk => by simp [Value.ownBlock] at hk), hg1⟩


/-- an append of one byte to a row of the call's own -/
theorem append_byte {w : World} {base : Nat} {ty : TypeId} {v : Value} {xs : List UInt8} (b : UInt8) (x : Int) (hx : x = b.toNat) (hown : OwnB w base 5 v xs)
    (hbytes : xs.length + 1 ≤ 140737488355328) (hbase : base ≤ w.heap.size) :
    ∃ g cap w', (Builtin.append_ #[41, 41] ty #[v, .slice (some ⟨w.heap.size, 0, none⟩) 1 1]).run Tryz.prog (w.alloc (.cells #[.int .u8 x] 5)) = .ok (.slice (some ⟨g, 0, none⟩) (xs.length + 1) cap) w' ∧
      OwnB w' base 5 (.slice (some ⟨g, 0, none⟩) (xs.length + 1) cap) (xs ++ [b]) ∧ (w.alloc (.cells #[.int .u8 x] 5)).grownBy w' v.ownBlock ∧ base ≤ g ∧ xs.length + 1 ≤ cap ∧ (v.ownBlock = some g ∨ w.heap.size < g) := by
  have hx' : RdB (fun _ => False) (w.alloc (.cells #[.int .u8 x] 5)) (.slice (some ⟨w.heap.size, 0, none⟩) 1 1) [b] := lit_rd w _ _ [b] (by rw [hx]; rfl) _ _ _ rfl rfl rfl (by simp [maxLen]) (fun h => h)
  obtain ⟨v', w', hr, h1, h2, h3, h4⟩ := append_bytes (ty := ty) (World.ownsRow.alloc hown _) hx' (by simpa using hbytes) (by simp; omega)
  obtain ⟨g, cap, hv, hg1, hg2, hg3, hg4, _⟩ := h1.at_ (by simp)
  subst hv
  simp only [List.length_append, List.length_cons, List.length_nil, Nat.zero_add] at hr h1 hg3
  refine ⟨g, cap, w', hr, h1, h2, hg1, hg3, ?_⟩
  rcases h3 with h | h
  · exact .inl h.symm
  · simp [Value.ownBlock] at h; exact .inr (by omega)

end Mun
end

section
/- From what a row reads of its arguments to my own words; and back. -/
set_option linter.unusedVariables false
namespace Mun
open Go Go.RowKit Go.ChangeShapes Go.WideShapes Go.ChangeAt

def NoF : Foot := fun _ => False
theorem noF (k : Nat) : ¬ NoF k := fun h => h

theorem cell_block {w : World} {a : Addr} {v : Value} (h : w.cell? a = some v) : a.spot = none ∧ ∃ cur e fr, w.heap[a.block]? = some (.cells cur e fr) ∧ cur[a.off]? = some v := by
  unfold World.cell? at h
  split at h
  · rename_i c e fr hh
    split at h
    · cases h
    · rename_i hs
      exact ⟨by simpa using hs, c, e, fr, hh, h⟩
  · cases h

theorem rd_of_cells {F : Foot} {w : World} {x : Addr} {len cap : Nat} {l : List UInt8} (hl : l.length = len) (hlc : len ≤ cap) (hcm : cap ≤ maxLen) (hF : ¬ F x.block)
    (hc : ∀ i (hi : i < l.length), w.cell? (x.add i) = some (.int .u8 (l[i].toNat : Int))) : RdB F w (.slice (some x) len cap) l := by
  subst hl
  refine ⟨by simp [bv], _, _, rfl, hlc, hcm, by simp, fun hn => ?_⟩
  have h0 := hc 0 hn
  rw [show x.add 0 = x by simp [Addr.add]] at h0
  obtain ⟨hs, cur, e, fr, hh, _⟩ := cell_block h0
  obtain ⟨g, off, spot⟩ := x
  simp only at hs hh hF
  subst hs
  refine ⟨g, off, cur, e, fr, rfl, hF, hh, ?_⟩
  apply List.ext_getElem?
  intro i
  rw [List.getElem?_take, bv_getElem?]
  by_cases hi : i < l.length
  · rw [if_pos (by omega), List.getElem?_drop, List.getElem?_eq_getElem hi]
    have h := hc i hi
    rw [addr_add, cell_of_row w g (off + i) cur e fr hh] at h
    simpa using h
  · rw [if_neg (by omega), List.getElem?_eq_none (by omega)]; rfl

section
variable {H : Type} {enc : TypeId × Value → H} {P : Program}

end

end Mun
end
