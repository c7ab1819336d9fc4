/- Contract of munimentref6.Do: Force. -/
import Derived.Test.YtmlggofojdhmmaaRefE
set_option maxRecDepth 100000
set_option linter.unusedVariables false
set_option linter.unusedSimpArgs false
namespace Mun
open Go Go.RowKit
open Go.Proofs

def DoOut (F : Foot) (w : World) (x : DM × Int) (e : Ending) (w' : World) : Prop := ∃ r', e = .returned (.tuple #[.agg (rcells x.1 r'), .int .i64 x.2]) ∧ RRep F w' x.1 r' ∧ Below w.heap.size w w'

/-- F, the box and the result -/
def Gf (F : Foot) (w : World) : Foot := fun k => F k ∨ k = w.heap.size ∨ k = w.heap.size + 1
theorem Gf.F {F : Foot} {w : World} {k : Nat} (h : F k) : Gf F w k := .inl h
theorem chg_setRow {F : Foot} (w : World) (b : Nat) (cs : Array Value) (hF : F b) : Chg F F w (w.setRow b cs) :=
  ⟨rfl, rfl, rfl, by rw [size_setRow]; exact Nat.le_refl _, fun k _ hk => setRow_other w b cs k (fun e => hk (e ▸ hF)), fun _ h => .inl h⟩

/-- at work on a box and a result -/
structure DoX (F : Foot) (w wz : World) (cs : Array Value) (L : List (Value × Bytes)) : Prop where
  bl : Below w.heap.size w wz
  bx : BoxAt wz w.heap.size cs
  rs : BoxAt wz (w.heap.size + 1) Z13
  sz : w.heap.size + 2 ≤ wz.heap.size
  rd : ∀ x ∈ L, RdB (Gf F w) wz x.1 x.2
section
variable {F : Foot} {w wz w' : World} {cs : Array Value} {L : List (Value × Bytes)}
theorem DoX.start (F : Foot) (w : World) (cs : Array Value) : DoX F w ((w.alloc (.cells cs 52)).alloc (.cells Z13 52)) cs [] := by
  refine ⟨below_more (below_more (Below.refl _ _) _) _, (heap_alloc_old _ _ (by rw [World.size_alloc]; omega)).trans (BoxAt.new w _), ?_, by rw [World.size_alloc, World.size_alloc]; omega, fun x h => by simp at h⟩
  have := BoxAt.new (w.alloc (.cells cs 52)) Z13
  rw [World.size_alloc] at this
  exact this
theorem DoX.below (h : DoX F w wz cs L) (hb : Below wz.heap.size wz w') : DoX F w w' cs L :=
  ⟨h.bl.trans (hb.mono h.bl.size), h.bx.below hb h.bx.lt, h.rs.below hb h.rs.lt, Nat.le_trans h.sz hb.size, fun x hx => RdB.below (h.rd x hx) hb⟩
theorem DoX.set (h : DoX F w wz cs L) (i : Nat) (v : Value) : DoX F w (wz.setCell ⟨w.heap.size, i, none⟩ v) (cs.setIfInBounds i v) L :=
  ⟨h.bl.setCell (Nat.le_refl _) _, h.bx.set i v, h.rs.setNe i v (by omega), by rw [setCell_size]; exact h.sz, fun x hx => RdB.chg (h.rd x hx) (chg_setCell wz ⟨w.heap.size, i, none⟩ v (.inr (.inl rfl)))⟩
theorem DoX.row (h : DoX F w wz cs L) (cs' : Array Value) : DoX F w (wz.setRow w.heap.size cs') cs' L :=
  ⟨below_setRow h.bl (Nat.le_refl _) _, h.bx.row _, (setRow_other _ _ _ _ (by omega)).trans h.rs, by rw [size_setRow]; exact h.sz, fun x hx => RdB.chg (h.rd x hx) (chg_setRow _ _ _ (.inr (.inl rfl)))⟩
theorem DoX.fin (h : DoX F w wz cs L) (cs' : Array Value) : Below w.heap.size w (wz.setRow (w.heap.size + 1) cs') ∧ BoxAt (wz.setRow (w.heap.size + 1) cs') (w.heap.size + 1) cs' ∧ (∀ x ∈ L, RdB F (wz.setRow (w.heap.size + 1) cs') x.1 x.2) :=
  ⟨below_setRow h.bl (by omega) _, h.rs.row _, fun x hx => RdB.mono (RdB.chg (h.rd x hx) (chg_setRow _ _ _ (.inr (.inr rfl)))) (fun _ _ hk => .inl hk)⟩
theorem DoX.push (h : DoX F w wz cs L) {v : Value} {l : Bytes} (hr : RdB (Gf F w) wz v l) : DoX F w wz cs ((v, l) :: L) :=
  ⟨h.bl, h.bx, h.rs, h.sz, fun x hx => by
    rcases List.mem_cons.1 hx with rfl | hx
    · exact hr
    · exact h.rd x hx⟩
theorem DoX.drew (h : DoX F w wz cs L) : DoX F w wz.drew cs L := ⟨below_drewN h.bl 1, h.bx, h.rs, h.sz, fun x hx => RdB.drewN (h.rd x hx) 1⟩
/-- what a call told anew -/
theorem own_gf (hF : ∀ k, F k → k < w.heap.size) {B : Nat} {v : Value} {l : Bytes} (ho : OwnB wz B 5 v l) (hB : w.heap.size + 2 ≤ B) : RdB (Gf F w) wz v l :=
  OwnB.rd ho (fun k hk hG => by
    rcases hG with h1 | h1 | h1
    · have := hF k h1; omega
    · omega
    · omega)
theorem rd_gf {v : Value} {l : Bytes} (hv : RdB F w v l) (h : DoX F w wz cs L) : RdB (Gf F w) wz v l :=
  RdB.below (RdB.mono hv (fun k hk hG => by
    rcases hG with h1 | h1 | h1
    · exact h1
    · omega
    · omega)) h.bl
theorem gf_lt (hF : ∀ k, F k → k < w.heap.size) (h : DoX F w wz cs L) : ∀ k, Gf F w k → k < wz.heap.size := fun k hk => by
  have hsz := h.sz
  rcases hk with h1 | h1 | h1
  · have := hF k h1; omega
  · omega
  · omega
theorem rep_gf {m : DM} {r : RV} (hv : RRep F w m r) (h : DoX F w wz cs L) : RRep (Gf F w) wz m r :=
  (hv.mono (fun k hk hG => by
    rcases hG with h1 | h1 | h1
    · exact h1
    · omega
    · omega)).below h.bl
end

theorem spend_mark (m : DM) : m.spend.mark = m.mark := by unfold DM.spend; split <;> rfl
theorem spend_torn (m : DM) : m.spend.torn = m.torn := by unfold DM.spend; split <;> rfl

/-- the numbers alone differ -/
theorem RRep.nums {F : Foot} {w : World} {m m' : DM} {r : RV} (h : RRep F w m r) (e1 : m'.base = m.base) (e2 : m'.waiting = m.waiting) (e3 : m'.log = m.log) (e4 : m'.mark = m.mark) (e5 : m'.tail = m.tail) (e6 : m'.torn = m.torn) (hw : m'.Wf) : RRep F w m' r :=
  ⟨by rw [e1]; exact h.base, h.wrow, by rw [e2]; exact h.wws, h.wrd, by rw [e3]; exact h.log, by rw [e4]; exact h.mark, by rw [e5]; exact h.tail, by rw [e6]; exact h.torn, h.lbf, hw⟩

theorem force_wf {m : DM} (h : m.Wf) : ({ m with certain := m.log.length } : DM).Wf :=
  ⟨Nat.le_refl _, h.room, h.room24, h.pages, h.npages, h.waiting, h.nwait, h.mark, h.fuse1, h.fuse2, h.torn, h.alive⟩
theorem RRep.one {F : Foot} {w : World} {m : DM} {r : RV} (h : RRep F w m r) : (rcells m r).all (·.oneCell') = true := by
  obtain ⟨a0, c0, a1, c1, a2, c2, a3, c3, a4, n4, c4, a5, c5, e0, e1, e2, e3, e4, e5⟩ := h.forms
  unfold rcells
  rw [e0, e1, e2, e3, e4, e5]
  simp [Value.oneCell']
theorem log_wf {m : DM} (h : m.Wf) (l : Bytes) (c : Nat) (hc : c ≤ l.length) (hl : l.length + m.tail.length ≤ m.room) : ({ m with log := l, certain := c } : DM).Wf :=
  ⟨hc, hl, h.room24, h.pages, h.npages, h.waiting, h.nwait, h.mark, h.fuse1, h.fuse2, h.torn, h.alive⟩
theorem mark_wf {m : DM} (h : m.Wf) (b : Bytes) (hb : b.length ≤ 64) : ({ m with mark := b } : DM).Wf :=
  ⟨h.certain, h.room, h.room24, h.pages, h.npages, h.waiting, h.nwait, hb, h.fuse1, h.fuse2, h.torn, h.alive⟩
theorem tail_wf {m : DM} (h : m.Wf) (hd : m.dead = true) (b : Bytes) (hb : m.log.length + b.length ≤ m.room) : ({ m with tail := b } : DM).Wf :=
  ⟨h.certain, hb, h.room24, h.pages, h.npages, h.waiting, h.nwait, h.mark, h.fuse1, h.fuse2, h.torn, fun h' => by rw [show ({ m with tail := b } : DM).dead = m.dead from rfl, hd] at h'; cases h'⟩
theorem torn_wf {m : DM} (h : m.Wf) (hd : m.dead = true) (j : Nat) (b : Bytes) (hj : j < m.base.length) (hb : b.length = 512) : ({ m with torn := some (j, b) } : DM).Wf :=
  ⟨h.certain, h.room, h.room24, h.pages, h.npages, h.waiting, h.nwait, h.mark, h.fuse1, h.fuse2, fun p hp => by cases hp; exact ⟨hj, hb⟩, fun h' => by rw [show ({ m with torn := some (j, b) } : DM).dead = m.dead from rfl, hd] at h'; cases h'⟩
theorem write_wf {m : DM} (h : m.Wf) (ho : m.waiting.length + 1 ≤ m.ops) (j : Nat) (b : Bytes) (hj : j < m.base.length) (hb : b.length = 512) : ({ m with waiting := m.waiting ++ [(j, b)] } : DM).Wf :=
  ⟨h.certain, h.room, h.room24, h.pages, h.npages, fun p hp => by
    rcases List.mem_append.1 hp with hp | hp
    · exact h.waiting p hp
    · rw [List.mem_singleton] at hp
      subst hp
      exact ⟨hj, hb⟩, by show (m.waiting ++ [(j, b)]).length ≤ m.ops; rw [List.length_append]; exact ho, h.mark, h.fuse1, h.fuse2, h.torn, h.alive⟩
theorem info_w6 : (Try.prog.info? 50).map (fun i => (i.zero, i.size, i.bytes)) = some (some (.agg #[.int .i64 0, .slice none 0 0]), 2, 32) := by kernel_rfl
/-- a row of writes cut to its length -/
theorem wrow_hm (a : Option Addr) (n c : Nat) (hc : n ≤ c) (W : World) :
    (Instr.sliceAt 48 (.slice a n c) none (some (.int .i64 n)) (some (.int .i64 n))).run Try.prog W = .ok (.slice a n n) W := by
  obtain ⟨i, hi', hz, hs1, hs2⟩ := info_of info_w6
  have he : Try.prog.elem 48 = 50 := by kernel_rfl
  have ht : Try.prog.underlying 48 = some (.slice (Try.prog.elem 48)) := by rw [he]; exact Try.underlying48
  rw [run_sliceAt_slice _ _ _ _ _ _ ht, run_slice_hm _ _ _ _ _ ht _ _ _ _ (by omega) (by omega) (by omega), he]
  cases a with
  | none => simp [Go.sizeOf, typeInfo, hi', hs1, sliced]
  | some x => simp [Go.sizeOf, typeInfo, hi', hs1, sliced, Addr.add]
theorem RdV.full {F : Foot} {w : World} {size n c : Nat} {a : Option Addr} {xs : List Value} (h : RdV F w size (.slice a n c) n xs) (hn : n = 0 → c = 0 ∨ a ≠ none) : RdV F w size (.slice a n n) n xs := by
  obtain ⟨h0, a', c', hv, hc1, hc2, hnil, h4⟩ := h
  injection hv with e1 e2 e3
  subst e1 e3
  exact ⟨h0, a, n, rfl, Nat.le_refl _, by omega, fun ha => by have := hnil ha; omega, h4⟩
theorem wcells_snoc (l : List (Nat × (Bytes × Value))) (p : Nat × (Bytes × Value)) : wcells (l ++ [p]) = wcells l ++ [.int .i64 p.1, p.2.2] := by simp [wcells]
theorem append_wrow {F : Foot} {w : World} {ty : TypeId} {a : Option Addr} {n : Nat} {xs : List Value} {j : Int} {a9 : Option Addr} {n9 c9 : Nat} (hd : RdV F w 2 (.slice a n n) n xs) (hF : ∀ k, F k → k < w.heap.size) (hn : n + 1 ≤ 4398046511104) :
    ∃ c w', (Builtin.append_ #[48, 48] ty #[.slice a n n, .slice (some ⟨w.heap.size, 0, none⟩) 1 1]).run Try.prog (w.alloc (.cells #[.int .i64 j, .slice a9 n9 c9] 50)) = .ok (.slice (some ⟨w.heap.size + 1, 0, none⟩) (n + 1) c) w' ∧
      RdV F w' 2 (.slice (some ⟨w.heap.size + 1, 0, none⟩) (n + 1) c) (n + 1) (xs ++ [.int .i64 j, .slice a9 n9 c9]) ∧ Below w.heap.size w w' := by
  obtain ⟨i, hi, hz, h1, h2⟩ := info_of info_w6
  have hd2 : RdV F (w.alloc (.cells #[.int .i64 j, .slice a9 n9 c9] 50)) 2 (.slice a n n) n xs := hd.alloc _
  have hs : RdV F (w.alloc (.cells #[.int .i64 j, .slice a9 n9 c9] 50)) 2 (.slice (some ⟨w.heap.size, 0, none⟩) 1 1) 1 [.int .i64 j, .slice a9 n9 c9] :=
    ⟨rfl, _, _, rfl, Nat.le_refl _, by decide, by simp, fun _ => ⟨_, 0, _, _, _, rfl, fun h => by have := hF _ h; omega, heap_alloc_new w _, rfl⟩⟩
  obtain ⟨c, w', hr, h3, h4⟩ := append_full (ty := ty) Try.underlying48 hi hz h1 h2 (by rfl) (by omega) (by omega) hd2 hs (by intro u hu; simp at hu; rcases hu with rfl | rfl <;> rfl) (by omega) (fun h => by have := hF _ h; rw [World.size_alloc] at this; omega) (by omega)
  rw [World.size_alloc] at hr h3
  exact ⟨c, w', hr, h3, below_more (Below.refl _ _) _ |>.trans (h4.mono (by rw [World.size_alloc]; omega))⟩
end Mun
