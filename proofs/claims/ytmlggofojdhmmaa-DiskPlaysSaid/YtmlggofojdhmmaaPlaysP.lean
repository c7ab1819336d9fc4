/- DiskPlays: a device and the reference's beside one another; what each step does to both. -/
import Derived.Test.YtmlggofojdhmmaaDeedB
import Derived.Test.YtmlggofojdhmmaaDiskX
import Derived.Test.YtmlggofojdhmmaaRefF
import Derived.Test.YtmlggofojdhmmaaRefD
import Derived.Test.YtmlggofojdhmmaaRefD0
import Derived.Test.YtmlggofojdhmmaaRefD1
import Derived.Test.YtmlggofojdhmmaaRefD2
import Derived.Test.YtmlggofojdhmmaaRefD4
import Derived.Test.YtmlggofojdhmmaaRefD5
import Derived.Test.YtmlggofojdhmmaaRefD6
set_option maxRecDepth 100000
set_option linter.unusedVariables false
set_option linter.unusedSimpArgs false
namespace Mun
open Go Go.RowKit
open Go.Proofs

/-- an operation of the reference -/
theorem r6do_any {F : Foot} (w : World) (m : DM) (r : RV) (h : RRep F w m r) (hF : ∀ k, F k → k < w.heap.size) (ho : m.ops < 4398046511104) (op n : Int) (h0 : 0 ≤ op) (h6 : op ≤ 6) (v : Value) (b : Bytes) (hv : RdB F w v b) (hbl : b.length ≤ 140737488355328) :
    Calls Try.prog 32 #[.agg (rcells m r), .int .i64 op, .int .i64 n, v] w (DoOut F w (m.ask op n b)) := by
  have hc : op = 0 ∨ op = 1 ∨ op = 2 ∨ op = 3 ∨ op = 4 ∨ op = 5 ∨ op = 6 := by omega
  rcases hc with rfl | rfl | rfl | rfl | rfl | rfl | rfl
  · exact r6do_write w m r h hF ho n v b hv hbl
  · exact r6do_sync w m r h hF ho n v b hv hbl
  · exact r6do_append w m r h hF ho n v b hv hbl
  · exact r6do_force w m r h hF ho n v b hv hbl
  · exact r6do_cut w m r h hF ho n v b hv hbl
  · exact r6do_trim w m r h hF ho n v b hv hbl
  · exact r6do_mark w m r h hF ho n v b hv hbl

theorem ask_ops (m : DM) (op n : Int) (b : Bytes) : (m.ask op n b).1.ops ≤ m.ops + 1 := by
  rcases ask_cases m op n b with ⟨_, h⟩ | ⟨_, h | h⟩ | ⟨_, _, _, _, h, _⟩ | ⟨_, _, _, _, h, _⟩
  · rw [h]; exact Nat.le_succ _
  · rw [h]; exact Nat.le_succ _
  · rw [h]; exact Nat.le_succ _
  · rw [h]; exact Nat.le_succ _
  · rw [h]; exact Nat.le_refl _

abbrev UF (F E : Foot) : Foot := fun k => F k ∨ E k
/-- a device at D and the reference's in the box B -/
structure PlAt (W0 w : World) (D B : Nat) (E F : Foot) (md mr : DM) (r : RV) : Prop where
  law : LawAt W0 w D E F md
  eb : E B
  elt : ∀ k, E k → k < w.heap.size
  eo : ∀ k, E k → W0.heap.size ≤ k
  box : BoxAt w B (rcells mr r)
  rep : RRep (UF F E) w mr r

section
variable {W0 w w' : World} {D B : Nat} {E F F' : Foot} {md md' mr mr' : DM} {r r' : RV}
theorem PlAt.fb (h : PlAt W0 w D B E F md mr r) : ¬ F B := h.law.disk.apart B h.eb
theorem PlAt.lt (h : PlAt W0 w D B E F md mr r) : ∀ k, UF F E k → k < w.heap.size := fun k hk => hk.elim (h.law.lt k) (h.elt k)
theorem PlAt.grow (h : PlAt W0 w D B E F md mr r) (hb : Below w.heap.size w w') : PlAt W0 w' D B E F md mr r :=
  ⟨h.law.grow hb, h.eb, fun k hk => Nat.lt_of_lt_of_le (h.elt k hk) hb.size, h.eo, h.box.below hb h.box.lt, h.rep.below hb⟩
theorem PlAt.more (h : PlAt W0 w D B E F md mr r) (o : Obj) : PlAt W0 (w.alloc o) D B E F md mr r := h.grow ((Below.refl _ _).alloc (Nat.le_refl _) o)
theorem PlAt.drewN (h : PlAt W0 w D B E F md mr r) (k : Nat) : PlAt W0 (w.drewN k) D B E F md mr r := h.grow (below_drewN (Below.refl _ _) k)
theorem uf_chg (hc : Chg F F' w w') : Chg (UF F E) (UF F' E) w w' :=
  ⟨hc.os, hc.tape, hc.output, hc.size, fun k hk hn => hc.block k hk (fun h => hn (.inl h)), fun k hk => hk.elim (fun h => (hc.foot k h).imp .inl id) (fun h => .inl (.inr h))⟩
theorem PlAt.ask (h : PlAt W0 w D B E F md mr r) (hd : DiskAt w' D E F' md') (hc : Chg F F' w w') : PlAt W0 w' D B E F' md' mr r :=
  ⟨h.law.chg hd hc, h.eb, fun k hk => Nat.lt_of_lt_of_le (h.elt k hk) hc.size, h.eo, (hc.block B h.box.lt h.fb).trans h.box, h.rep.chg (uf_chg hc)⟩
theorem PlAt.put (h : PlAt W0 w D B E F md mr r) (hr : RRep (UF F E) w mr' r') : PlAt W0 (w.setRow B (rcells mr' r')) D B E F md mr' r' := by
  have hc : Chg E E w (w.setRow B (rcells mr' r')) := chg_setRow _ _ _ h.eb
  have hc2 : Chg (UF F E) (UF F E) w (w.setRow B (rcells mr' r')) := chg_setRow _ _ _ (.inr h.eb)
  exact ⟨h.law.chgE hc h.eo, h.eb, fun k hk => by rw [size_setRow]; exact h.elt k hk, h.eo, h.box.row _, hr.chg hc2⟩
theorem PlAt.crash {D' : Nat} (h : PlAt W0 w D B E F md mr r) (hd : DiskAt w' D' (UF F E) F' md') (hb : Below w.heap.size w w') (hF : ∀ k, F' k → w.heap.size ≤ k) : PlAt W0 w' D' B (UF F E) F' md' mr r := by
  have hg := h.grow hb
  refine ⟨⟨hd, hg.law.below, fun k hk => Nat.le_trans h.law.below.size (hF k hk)⟩, .inr h.eb, hg.lt, fun k hk => hk.elim (h.law.own k) (h.eo k), hg.box, ?_⟩
  exact h.rep.keep (fun k hk _ => hb.block k hk) (fun k hk hu => hu.elim (fun h1 => by have := hF k h1; omega) id)
theorem PlAt.rd (h : PlAt W0 w D B E F md mr r) {v : Value} {b : Bytes} (hv : RdB NoF W0 v b) : RdB (UF F E) w v b :=
  RdV.keep hv (fun k hk _ => h.law.below.block k hk) (fun k hk hu => hu.elim (fun h1 => by have := h.law.own k h1; omega) (fun h1 => by have := h.eo k h1; omega))
theorem PlAt.fuse (h : PlAt W0 w D B E F md mr r) (n : Int) (hn : n ≤ 9223372036854775807) : PlAt W0 (w.setCell ⟨B, 6, none⟩ (.int .i64 (max n (-1)))) D B E F md (mr.setFuse n) r := by
  have hc : Chg E E w (w.setCell ⟨B, 6, none⟩ (.int .i64 (max n (-1)))) := chg_setCell w ⟨B, 6, none⟩ _ h.eb
  have hc2 : Chg (UF F E) (UF F E) w (w.setCell ⟨B, 6, none⟩ (.int .i64 (max n (-1)))) := chg_setCell w ⟨B, 6, none⟩ _ (.inr h.eb)
  refine ⟨h.law.chgE hc h.eo, h.eb, fun k hk => by rw [setCell_size]; exact h.elt k hk, h.eo, ?_, (h.rep.nums (m' := mr.setFuse n) rfl rfl rfl rfl rfl rfl (DM.setFuse_wf h.rep.wf n hn)).chg hc2⟩
  have h9 := h.box.set 6 (.int .i64 (max n (-1)))
  have e : rcells (mr.setFuse n) r = (rcells mr r).setIfInBounds 6 (.int .i64 (max n (-1))) := by
    show _ = #[r.bv, r.wv, .int .i64 mr.room, r.lv, .int .i64 mr.certain, r.mv, .int .i64 (max n (-1)), .int .i64 mr.ops, .bool mr.dead, .int .i64 r.lp, r.lb, r.tv, .bool mr.torn.isSome]
    unfold rcells DM.setFuse
    simp only [Int.max_comm]
  rw [e]
  exact h9
/-- the beginning -/
theorem PlAt.start {w2 w3 w4 : World} {pages room : Nat} (hb : Below W0.heap.size W0 w2) (h1 : pages ≤ 65536) (h2 : room ≤ 16777216) (h3 : Below (newWorld w2 pages room).heap.size (newWorld w2 pages room) w3)
    {a : Option Addr} {c : Nat} {us : List Value} (hN : NewL w3.heap.size w3 w4 (.slice a pages c) us (List.replicate pages page0)) :
    PlAt W0 (w4.alloc (.cells (newC room (.slice a pages c)) 52)) (w2.heap.size + 2) w4.heap.size (fun k => k = w4.heap.size) (newFoot w2) (DM.new pages room) (DM.new pages room) ⟨.slice a pages c, .slice none 0 0, .slice none 0 0, .slice none 0 0, .slice none 0 0, .slice none 0 0, 0, us, []⟩ := by
  have hA : LawAt W0 (newWorld w2 pages room) (w2.heap.size + 2) NoF (newFoot w2) (DM.new pages room) := LawAt.new hb pages room (fun _ h => h.elim) h1 h2
  have hA3 := hA.grow h3
  have hA4 := hA3.grow hN.bl
  have hA5 : LawAt W0 (w4.alloc (.cells (newC room (.slice a pages c)) 52)) (w2.heap.size + 2) (fun k => k = w4.heap.size) (newFoot w2) (DM.new pages room) :=
    hA4.growE ((Below.refl _ _).alloc (Nat.le_refl _) _) (fun k hk => .inr ⟨by omega, by rw [World.size_alloc]; omega⟩)
  have hFlt := hA3.lt
  refine ⟨hA5, rfl, fun k hk => by rw [World.size_alloc]; omega, fun k hk => by have := hA4.below.size; omega, BoxAt.new w4 _, ?_⟩
  refine ⟨?_, RdV.nil _ _ _, rfl, fun p hp => by simp at hp, RdV.nil _ _ _, RdV.nil _ _ _, RdV.nil _ _ _, fun p hp => (by cases hp), ⟨_, _, _, rfl⟩, DM.new_wf pages room h1 h2⟩
  exact hN.lists.keep (fun k hk _ => heap_alloc_old _ _ hk) (fun k hk hu => by
    rcases hu with hu | hu
    · exact hFlt k hu
    · omega)
end
end Mun
