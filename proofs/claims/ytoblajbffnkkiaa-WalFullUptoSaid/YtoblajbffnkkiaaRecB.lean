/- Contract of what lays a record's body. -/
import Derived.Test.YtoblajbffnkkiaaRecA
import Derived.Test.YtoblajbffnkkiaaRegU
import Derived.Deep.RegionLaw
set_option maxRecDepth 100000
set_option linter.unusedVariables false
namespace Mun
open Go Go.RowKit
open Go.Proofs

/-- a row of the call's own; what stood below stays -/
structure BSt (B : Nat) (w1 wr : World) (v : Value) (l : List UInt8) : Prop where
  own : OwnB wr B 5 v l
  bl : Below B w1 wr
  hB : B ≤ w1.heap.size

theorem BSt.size {B : Nat} {w1 wr : World} {v : Value} {l : List UInt8} (h : BSt B w1 wr v l) : B ≤ wr.heap.size := by have := h.bl.size; have := h.hB; omega
theorem BSt.form {B : Nat} {w1 wr : World} {v : Value} {l : List UInt8} (h : BSt B w1 wr v l) : ∃ a n c, v = .slice a n c := by
  obtain ⟨a, c, hv, _⟩ := (OwnB.rd (F := NoF) h.own (fun _ _ => noF _)).form
  exact ⟨a, _, c, hv⟩
theorem BSt.step {B : Nat} {w1 wr w' : World} {v : Value} {l l' : List UInt8} {g n c : Nat} (h : BSt B w1 wr v l) (ho : OwnB w' B 5 (.slice (some ⟨g, 0, none⟩) n c) l') (hc : Chg (bf v) (B1 g) wr w') : BSt B w1 w' (.slice (some ⟨g, 0, none⟩) n c) l' :=
  ⟨ho, h.bl.trans (below_of_chg hc (ownB_from h.own) h.size), h.hB⟩
theorem BSt.grow {B : Nat} {w1 wr w' : World} {v : Value} {l : List UInt8} (h : BSt B w1 wr v l) (hb : Below wr.heap.size wr w') : BSt B w1 w' v l :=
  ⟨h.own.below hb, h.bl.trans (hb.mono h.size), h.hB⟩
theorem BSt.drew {B : Nat} {w1 wr : World} {v : Value} {l : List UInt8} (h : BSt B w1 wr v l) : BSt B w1 wr.drew v l := h.grow (below_drewN (Below.refl _ _) 1)

theorem BSt.boxcell {B b : Nat} {w1 wr : World} {v : Value} {l : List UInt8} {cs : Array Value} {ty : TypeId} (h : BSt B w1 wr v l) (hb : w1.heap[b]? = some (.cells cs ty (0, 0))) (hlt : b < B) (i : Nat) : wr.cell? ⟨b, i, none⟩ = cs[i]? :=
  cell_of_row wr b i _ _ _ ((h.bl.block b hlt).trans hb)
theorem RecAt.newer {F : Foot} {w w1 wr : World} {r : PR} {x : RV} {B : Nat} (h : RecAt F w r x) (hb : Below w.heap.size w w1) (hb2 : Below B w1 wr) (hB : w.heap.size ≤ B) : RecAt (NewF B) wr r x :=
  (h.mono (F' := NewF B) (fun k hk hn => by unfold NewF at hn; omega)).below (hb.trans (hb2.mono hB))
/-- a block that is not the row's stays -/
theorem BSt.other {B : Nat} {w1 wr : World} {v : Value} {l : List UInt8} (h : BSt B w1 wr v l) (o : Obj) : v.ownBlock ≠ some wr.heap.size := fun e => by have := (h.own.lt _ e).2; omega

/-- cells of a block that stay -/
theorem cells_chg {F F' : Foot} {w w' : World} {c : Nat} {cs : Array Value} {ty : TypeId} (hb : w.heap[c]? = some (.cells cs ty (0, 0))) (hc : Chg F F' w w') (hF : ¬ F c) : w'.heap[c]? = some (.cells cs ty (0, 0)) ∧ ¬ F' c := by
  have hlt := (Array.getElem?_eq_some_iff.1 hb).1
  refine ⟨(hc.block c hlt hF).trans hb, fun h => ?_⟩
  rcases hc.foot c h with h1 | h1
  · exact hF h1
  · omega

/-- the first bytes of a body -/
def hdK (r : PR) : Nat → List UInt8
  | 0 => [UInt8.ofNat r.kind.toNat]
  | 1 => [UInt8.ofNat r.kind.toNat] ++ vi r.tx
  | 2 => [UInt8.ofNat r.kind.toNat] ++ vi r.tx ++ vi r.prev
  | _ => headR r

theorem hdK_len (r : PR) (x : RV) {F : Foot} {w : World} (h : RecAt F w r x) (k : Nat) : (hdK r k).length ≤ 31 := by
  have h1 := vi_length64 _ h.tx
  have h2 := vi_length64 _ h.prev
  have h3 := vi_length64 _ h.next
  unfold hdK
  split <;> simp only [headR, List.length_append, List.length_cons, List.length_nil] <;> omega

/-- a body as far as k changes -/
def bdK (r : PR) (k : Nat) : List UInt8 := headR r ++ txt r.data ++ vi r.cs.length ++ (r.cs.take k).flatMap chB

theorem bdK_all (r : PR) : bdK r r.cs.length = bodyR r := by simp [bdK, bodyR]
theorem bdK_zero (r : PR) : bdK r 0 = headR r ++ txt r.data ++ vi r.cs.length := by simp [bdK]
theorem bdK_succ (r : PR) (k : Nat) (h : k < r.cs.length) : bdK r (k + 1) = bdK r k ++ (vi r.cs[k].page.toNat ++ vi r.cs[k].at_.toNat ++ [wb r.cs[k]] ++ txt r.cs[k].b) := by
  unfold bdK
  rw [take_snoc r.cs k h, List.flatMap_append]
  simp [chB]

theorem szs_mono (l : List PC) (k : Nat) : ((l.take k).map szC).sum ≤ (l.map szC).sum := by
  induction l generalizing k with
  | nil => simp
  | cons a l ih =>
    cases k with
    | zero => simp
    | succ k => have := ih k; simp only [List.take_succ_cons, List.map_cons, List.sum_cons]; omega

theorem bdK_len (r : PR) (x : RV) {F : Foot} {w : World} (h : RecAt F w r x) (hg : goodR r = true) (hs : szR r ≤ 4194304) (k : Nat) : (bdK r k).length ≤ 4194400 := by
  have hG := ((goodR_iff r).1 hg).2.2
  have h1 := hdK_len r x h 3
  have h2 := vi_length64 r.data.length (by unfold szR at hs; omega)
  have h3 := vi_length64 r.cs.length (by unfold szR at hs; omega)
  have h4 := chs_length (r.cs.take k) (fun c hc => hG c (List.mem_of_mem_take hc))
  have h5 := szs_mono r.cs k
  unfold szR at hs
  have h6 : (hdK r 3) = headR r := rfl
  rw [h6] at h1
  simp only [bdK, txt, List.length_append]
  omega

theorem sz_mem (l : List PC) (c : PC) (h : c ∈ l) : szC c ≤ (l.map szC).sum := by
  induction l with
  | nil => cases h
  | cons a l ih =>
    rcases List.mem_cons.1 h with rfl | h
    · simp
    · have := ih h; simp only [List.map_cons, List.sum_cons]; omega

theorem own_one (w : World) (b : UInt8) (x : Int) (hx : x = b.toNat) : OwnB (w.alloc (.cells #[.int .u8 x] 5)) w.heap.size 5 (.slice (some ⟨w.heap.size, 0, none⟩) 1 1) [b] := by
  rw [bobj_one w b x hx]
  exact bobj_own w [b] 1 _ rfl (by simp [maxLen]) (Nat.le_refl _)

theorem step_append_is {P : Program} {ops : Array Oper} {o : Oper} {a : Act} {w : World} {K : Act → World → Prop} {Q : Exit → Act → World → Prop} {E : Prop} (hgd : o.guard = none) {s x : Operand} {t : TypeId}
    (ho : o.op = .call { callee := .builtin .append, args := #[s, x], argTypes := #[t, t] }) {v sv v' : Value} {w' : World}
    (hr : (Builtin.append_ #[t, t] o.type #[v, sv]).run P w = .ok v' w') (hs : a.eval s = v) (hx : a.eval x = sv) (h : K (a.put o.dst v') w') :
    if Region.wanted o (yielded ops a.tmps) = true then Oper.wp P o a w K Q else E := by
  have hw : Region.wanted o (yielded ops a.tmps) = true := by simp [Region.wanted, hgd]
  rw [if_pos hw]
  unfold Oper.wp
  simp [execOp, ho, resolve, invoke, builtin, hs, hx, hr, Result.andThen]
  exact h
end Mun
