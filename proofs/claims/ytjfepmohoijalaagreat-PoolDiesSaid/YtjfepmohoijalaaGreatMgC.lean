/- Texts of mine, one behind the other: PoolM, PoolA, PoolB, RegU, PoolC, PoolE, PoolF. -/
import Derived.Test.YtjfepmohoijalaaGreatMgA
import Derived.Test.YtjfepmohoijalaaGreatMgB
import Derived.Deep.RegionHeldLaw
import Derived.Deep.QuietTactic
import Derived.BigQuiet
import Derived.Deep.DeepCutAuto
import Derived.WalkMore
section
/- How a pool lies in memory: its own block, its frames, the map of its pages, the map of its dirty pages. -/
set_option maxRecDepth 100000
set_option linter.unusedVariables false
set_option linter.unusedSimpArgs false
namespace Mun
open Go Go.RowKit
open Go.Proofs

/-- a frame: its page (-1: none), its bytes, how often it is pinned, its touch, whether it was changed -/
structure FM where
  pg : Int
  b : Bytes
  pins : Nat
  touch : Bool
  chg : Bool

def FM.none : FM := ⟨-1, [], 0, false, false⟩

/-- a pool: frames, dirty pages, the hand -/
structure PM where
  fr : List FM
  dt : List (Int × (Nat × Bool))
  hand : Nat

abbrev FV := FM × Value

def f5 (x : FV) : List Value := [.int .i64 x.1.pg, x.2, .int .i64 (x.1.pins : Int), .bool x.1.touch, .bool x.1.chg]
def fcells (fs : List FV) : List Value := fs.flatMap f5
def dlook (dt : List (Int × (Nat × Bool))) (n : Int) : Option (Nat × Bool) := (dt.find? (·.1 == n)).map (·.2)
def dval (x : Nat × Bool) : Value := .agg #[.int .u64 (x.1 : Int), .bool x.2]

structure PLV where
  G : Nat
  Mw : Nat
  Md : Nat
  fs : List FV
  es : List (Int × Value)
  ds : List (Int × Value)

def pfoot (Pb : Nat) (v : PLV) : Foot := fun k => k = Pb ∨ k = v.G ∨ k = v.Mw ∨ k = v.Md
def pcells (D L : Nat) (v : PLV) (hand : Nat) : Array Value := #[.pointer (some ⟨D, 0, none⟩), .pointer (some ⟨L, 0, none⟩), .slice (some ⟨v.G, 0, none⟩) v.fs.length v.fs.length, .map (some v.Mw), .map (some v.Md), .int .i64 (hand : Int)]

/-- the map of the pages tells the frames -/
structure MapOk (fs : List FV) (es : List (Int × Value)) : Prop where
  here : ∀ (i : Nat) (x : FV), fs[i]? = some x → 0 ≤ x.1.pg → alook es x.1.pg = some (.int .i64 (i : Int))
  there : ∀ n u, alook es n = some u → 0 ≤ n ∧ ∃ (i : Nat) (x : FV), u = .int .i64 (i : Int) ∧ fs[i]? = some x ∧ x.1.pg = n

structure PRep (w : World) (Pb D L : Nat) (F : Foot) (p : PM) (v : PLV) : Prop where
  blk : w.heap[Pb]? = some (.cells (pcells D L v p.hand) 100 (0, 0))
  fbl : w.heap[v.G]? = some (.cells (fcells v.fs).toArray 105 (0, 0))
  frs : p.fr = v.fs.map (·.1)
  rd : ∀ x ∈ v.fs, RdB F w x.2 x.1.b
  mp : IMap w v.Mw v.es
  mok : MapOk v.fs v.es
  dm : IMap w v.Md v.ds
  dlk : ∀ n, alook v.ds n = (dlook p.dt n).map dval
  ne : v.Mw ≠ v.Md
  hand : p.hand < v.fs.length
  big : v.fs.length ≤ 1024

theorem f5_len (x : FV) : (f5 x).length = 5 := rfl
theorem fcells_len (fs : List FV) : (fcells fs).length = 5 * fs.length := by
  induction fs with
  | nil => rfl
  | cons x fs ih => simp only [fcells, List.flatMap_cons, List.length_append, f5_len] at ih ⊢; rw [ih, List.length_cons]; omega
theorem fcells_get (fs : List FV) : ∀ (i k : Nat) (x : FV), fs[i]? = some x → k < 5 → (fcells fs)[5 * i + k]? = (f5 x)[k]? := by
  induction fs with
  | nil => intro i k x h; simp at h
  | cons y fs ih =>
    intro i k x h hk
    cases i with
    | zero =>
      simp only [List.getElem?_cons_zero, Option.some.injEq] at h
      subst h
      rw [show 5 * 0 + k = k by omega]
      simp only [fcells, List.flatMap_cons]
      rw [List.getElem?_append_left (by rw [f5_len]; exact hk)]
    | succ i =>
      simp only [List.getElem?_cons_succ] at h
      simp only [fcells, List.flatMap_cons]
      rw [List.getElem?_append_right (by rw [f5_len]; omega), f5_len, show 5 * (i + 1) + k - 5 = 5 * i + k by omega]
      exact ih i k x h hk
theorem fcells_set (fs : List FV) : ∀ (i k : Nat) (x y : FV) (u : Value), fs[i]? = some x → k < 5 → f5 y = (f5 x).set k u → (fcells fs).set (5 * i + k) u = fcells (fs.set i y) := by
  induction fs with
  | nil => intro i k x y u h; simp at h
  | cons z fs ih =>
    intro i k x y u h hk hy
    cases i with
    | zero =>
      simp only [List.getElem?_cons_zero, Option.some.injEq] at h
      subst h
      rw [show 5 * 0 + k = k by omega]
      simp only [fcells, List.flatMap_cons, List.set_cons_zero, hy]
      rw [List.set_append_left _ _ (by rw [f5_len]; exact hk)]
    | succ i =>
      simp only [List.getElem?_cons_succ] at h
      simp only [fcells, List.flatMap_cons, List.set_cons_succ]
      rw [List.set_append_right _ _ (by rw [f5_len]; omega), f5_len, show 5 * (i + 1) + k - 5 = 5 * i + k by omega]
      rw [show (List.flatMap f5 fs).set (5 * i + k) u = List.flatMap f5 (fs.set i y) from ih i k x y u h hk hy]
theorem fcells_set1 (fs : List FV) (i k : Nat) (x y : FV) (u : Value) (h : fs[i]? = some x) (hk : k < 5) (hy : f5 y = (f5 x).set k u) : (fcells fs).toArray.setIfInBounds (5 * i + k) u = (fcells (fs.set i y)).toArray := by
  rw [← fcells_set fs i k x y u h hk hy]
  simp

section
variable {w w' : World} {Pb D L : Nat} {F F' : Foot} {p p' : PM} {v v' : PLV}

theorem PRep.neG (h : PRep w Pb D L F p v) : Pb ≠ v.G := blk_ne h.blk h.fbl (by decide)
theorem PRep.neMw (h : PRep w Pb D L F p v) : Pb ≠ v.Mw := blk_ne_map h.blk h.mp
theorem PRep.neMd (h : PRep w Pb D L F p v) : Pb ≠ v.Md := blk_ne_map h.blk h.dm
theorem PRep.neGMw (h : PRep w Pb D L F p v) : v.G ≠ v.Mw := blk_ne_map h.fbl h.mp
theorem PRep.neGMd (h : PRep w Pb D L F p v) : v.G ≠ v.Md := blk_ne_map h.fbl h.dm
theorem PRep.lt (h : PRep w Pb D L F p v) (k : Nat) (hk : pfoot Pb v k) : k < w.heap.size := by
  rcases hk with rfl | rfl | rfl | rfl
  · exact (Array.getElem?_eq_some_iff.1 h.blk).1
  · exact (Array.getElem?_eq_some_iff.1 h.fbl).1
  · exact h.mp.lt
  · exact h.dm.lt
theorem PRep.cell (h : PRep w Pb D L F p v) (i : Nat) : w.cell? ⟨Pb, i, none⟩ = (pcells D L v p.hand)[i]? := cell_of_row w Pb i _ _ _ h.blk
theorem PRep.free (h : PRep w Pb D L F p v) (i : Nat) : w.frozen? ⟨Pb, i, none⟩ = false := by simp [World.frozen?, h.blk]
theorem PRep.fcell (h : PRep w Pb D L F p v) (i k : Nat) (x : FV) (hx : v.fs[i]? = some x) (hk : k < 5) : w.cell? ⟨v.G, 5 * i + k, none⟩ = (f5 x)[k]? := by
  rw [cell_of_row w v.G _ _ _ _ h.fbl]
  simp only [List.getElem?_toArray]
  exact fcells_get v.fs i k x hx hk
theorem PRep.ffree (h : PRep w Pb D L F p v) (i : Nat) : w.frozen? ⟨v.G, i, none⟩ = false := by simp [World.frozen?, h.fbl]

/-- a pool stays, where nothing of it is turned -/
theorem PRep.keep (h : PRep w Pb D L F p v) (hk : ∀ k, k < w.heap.size → (pfoot Pb v k ∨ ¬ F k) → w'.heap[k]? = w.heap[k]?) (hF : ∀ k, k < w.heap.size → F' k → F k) : PRep w' Pb D L F' p v := by
  have kp : ∀ k, pfoot Pb v k → w'.heap[k]? = w.heap[k]? := fun k h' => hk k (h.lt k h') (.inl h')
  exact ⟨(kp Pb (.inl rfl)).trans h.blk, (kp _ (.inr (.inl rfl))).trans h.fbl, h.frs, fun x hx => RdV.keep (h.rd x hx) (fun k h1 h2 => hk k h1 (.inr h2)) hF, h.mp.keep (kp _ (.inr (.inr (.inl rfl)))), h.mok, h.dm.keep (kp _ (.inr (.inr (.inr rfl)))), h.dlk, h.ne, h.hand, h.big⟩
theorem PRep.below (h : PRep w Pb D L F p v) (hb : Below w.heap.size w w') : PRep w' Pb D L F p v := h.keep (fun k hk _ => hb.block k hk) (fun _ _ h => h)

/-- a pool whose frames, pages and hand have turned -/
theorem PRep.upd (h : PRep w Pb D L F p v) (hk : ∀ k, k < w.heap.size → ¬ F k → w'.heap[k]? = w.heap[k]?) (fs : List FV) (es : List (Int × Value)) (hand : Nat)
    (hb : w'.heap[Pb]? = some (.cells (pcells D L { v with fs := fs, es := es } hand) 100 (0, 0))) (hG : w'.heap[v.G]? = some (.cells (fcells fs).toArray 105 (0, 0)))
    (hl : fs.length = v.fs.length) (hr : ∀ x ∈ fs, x ∈ v.fs ∨ RdB F w' x.2 x.1.b) (hM : IMap w' v.Mw es) (hmo : MapOk fs es) (hd : w'.heap[v.Md]? = w.heap[v.Md]?) (hh : hand < v.fs.length) :
    PRep w' Pb D L F { p with fr := fs.map (·.1), hand := hand } { v with fs := fs, es := es } :=
  ⟨hb, hG, rfl, fun x hx => (hr x hx).elim (fun h1 => RdV.keep (h.rd x h1) hk (fun _ _ h => h)) id, hM, hmo, h.dm.keep hd, h.dlk, h.ne, by rw [← hl] at hh; exact hh, by show fs.length ≤ 1024; rw [hl]; exact h.big⟩

/-- frames turned, the pages as they were -/
theorem MapOk.frames {fs fs' : List FV} {es : List (Int × Value)} (h : MapOk fs es) (hg : ∀ i : Nat, (fs'[i]?).map (fun x : FV => x.1.pg) = (fs[i]?).map (fun x : FV => x.1.pg)) : MapOk fs' es := by
  refine ⟨fun i x hx h0 => ?_, fun n u hu => ?_⟩
  · have h1 := hg i
    rw [hx] at h1
    cases hf : fs[i]? with
    | none => rw [hf] at h1; simp at h1
    | some y =>
      rw [hf] at h1
      simp only [Option.map_some, Option.some.injEq] at h1
      rw [h1] at h0 ⊢
      exact h.here i y hf h0
  · obtain ⟨h0, i, x, rfl, hx, hp⟩ := h.there n u hu
    have h1 := hg i
    rw [hx] at h1
    cases hf : fs'[i]? with
    | none => rw [hf] at h1; simp at h1
    | some y =>
      rw [hf] at h1
      simp only [Option.map_some, Option.some.injEq] at h1
      exact ⟨h0, i, y, rfl, hf, by rw [h1]; exact hp⟩
/-- two frames hold no page both -/
theorem MapOk.one {fs : List FV} {es : List (Int × Value)} (h : MapOk fs es) {i j : Nat} {x y : FV} (hx : fs[i]? = some x) (hy : fs[j]? = some y) (he : x.1.pg = y.1.pg) (h0 : 0 ≤ x.1.pg) : i = j := by
  have h1 := h.here i x hx h0
  rw [he, h.here j y hy (he ▸ h0)] at h1
  injection h1 with h1
  injection h1 with _ h1
  omega
end
end Mun
end

section
/- Contracts of a pool: clone; New. -/
set_option maxRecDepth 100000
set_option linter.unusedVariables false
set_option linter.unusedSimpArgs false
namespace Mun
open Go Go.RowKit
open Go.Proofs

theorem pclone {F : Foot} (w : World) (v : Value) (l : List UInt8) (hv : RdB F w v l) (hl : l.length ≤ 140737488355328) :
    Calls Tryz.prog 42 #[v] w fun e w' => e = .returned (.slice (some ⟨w.heap.size, 0, none⟩) l.length l.length) ∧ w.alloc (bobj l) = w' := by
  obtain ⟨a, n, c, rfl, HN, hlc, hcm⟩ := hv.formN
  have hmk := make_bytes0 l.length hl
  have hcp := copied_bytes (ty := 41) hv hl
  rw [← HN.out] at hmk hcp ⊢
  have HR := Lib.hid hcp
  clear hcp hv
  go_enter Tryz.func42, Tryz.ntmps42
  go_wp2_with (at_builtin; refine wpList_append_eq rfl rfl HR.out rfl rfl ?_; clear HR)
  go_ret
  exact ⟨rfl, rfl⟩

def fv0 : FV := (⟨0, [], 0, false, false⟩, .slice none 0 0)
def fv1 : FV := (FM.none, .slice none 0 0)
def PM.new (n : Nat) : PM := ⟨List.replicate n FM.none, [], 0⟩

theorem info_fr : (Tryz.prog.info? 105).map (fun i => (i.zero, i.size, i.bytes)) = some (some (.agg #[.int .i64 0, .slice none 0 0, .int .i64 0, .bool false, .bool false]), 5, 48) := by kernel_rfl

theorem madeCells_fr (n : Nat) : madeCells (Value.agg #[.int .i64 0, .slice none 0 0, .int .i64 0, .bool false, .bool false]).cells (n * 5) = (fcells (List.replicate n fv0)).toArray := by
  have hc : (Value.agg #[.int .i64 0, .slice none 0 0, .int .i64 0, .bool false, .bool false]).cells = (f5 fv0).toArray := rfl
  rw [hc]
  apply Array.ext
  · rw [size_madeCells]; simp only [List.size_toArray, fcells_len, List.length_replicate]; omega
  · intro i h1 h2
    rw [size_madeCells] at h1
    have hq : i = 5 * (i / 5) + i % 5 := by omega
    have h5 : i % 5 < 5 := by omega
    have hg := fcells_get (List.replicate n fv0) (i / 5) (i % 5) fv0 (by rw [List.getElem?_replicate, if_pos (by omega)]) h5
    rw [← hq] at hg
    have hL : (fcells (List.replicate n fv0)).toArray[i]? = (f5 fv0)[i % 5]? := by rw [List.getElem?_toArray]; exact hg
    rw [Array.getElem?_eq_getElem h2, List.getElem?_eq_getElem (by rw [f5_len]; exact h5)] at hL
    injection hL with hL
    rw [hL]
    simp only [madeCells, Array.getElem_map, Array.getElem_range, List.size_toArray, f5_len]
    rw [getElem!_pos _ _ (by simp only [List.size_toArray, f5_len]; exact h5)]
    simp

theorem make_frames (n : Nat) (hn : n ≤ 1024) (w : World) :
    (Instr.makeSlice 96 (.int .i64 n) (.int .i64 n)).run Tryz.prog w = .ok (.slice (some ⟨w.heap.size, 0, none⟩) n n) (w.alloc (.cells (fcells (List.replicate n fv0)).toArray 105)) := by
  obtain ⟨i, hi, hz, h1, h2⟩ := info_of info_fr
  have hr := run_make (P := Tryz.prog) w _ _ i _ Tryz.underlying96 hi hz .i64 .i64 n n (by omega) (by omega) (by rw [h2]; omega) (by omega)
  rw [hr, h1]
  simp only [Int.toNat_natCast]
  rw [madeCells_fr]

theorem rep_set (n k : Nat) (h : k < n) : (List.replicate k fv1 ++ List.replicate (n - k) fv0).set k fv1 = List.replicate (k + 1) fv1 ++ List.replicate (n - (k + 1)) fv0 := by
  obtain ⟨m, rfl⟩ : ∃ m, n = k + 1 + m := ⟨n - k - 1, by omega⟩
  rw [show k + 1 + m - k = m + 1 by omega, show k + 1 + m - (k + 1) = m by omega]
  rw [List.set_append_right _ _ (by simp), List.length_replicate, Nat.sub_self, List.replicate_succ, List.set_cons_zero, List.replicate_succ']
  simp

def newPLV (g n : Nat) : PLV := ⟨g, g + 1, g + 2, List.replicate n fv1, [], []⟩
def NewOut (w : World) (D L n : Nat) (e : Ending) (w' : World) : Prop :=
  e = .returned (.tuple #[.pointer (some ⟨w.heap.size + 3, 0, none⟩), .int .i64 0]) ∧ (∀ F, PRep w' (w.heap.size + 3) D L F (PM.new n) (newPLV w.heap.size n)) ∧ Below w.heap.size w w' ∧ w'.heap.size = w.heap.size + 4

theorem p_new (w : World) (D L n : Nat) (h1 : 1 ≤ n) (h2 : n ≤ 1024) : Calls Tryz.prog 32 #[.pointer (some ⟨D, 0, none⟩), .pointer (some ⟨L, 0, none⟩), .int .i64 n] w (NewOut w D L n) := by
  have hmm := @run_makeMap Tryz.prog
  have hms := make_frames n h2 w
  have t1 : ¬ (n : Int) < 1 := by omega
  have t2 : ¬ (1024 : Int) < (n : Int) := by omega
  obtain ⟨w1, hw1⟩ : ∃ w1, w.alloc (.cells (fcells (List.replicate n fv0)).toArray 105) = w1 := ⟨_, rfl⟩
  obtain ⟨w2, hw2⟩ : ∃ w2, ((w1.alloc (.map #[] 0)).alloc (.map #[] 0)).alloc (.cells #[.pointer (some ⟨D, 0, none⟩), .pointer (some ⟨L, 0, none⟩), .slice (some ⟨w.heap.size, 0, none⟩) n n, .map (some w1.heap.size), .map (some (w1.heap.size + 1)), .int .i64 0] 100) = w2 := ⟨_, rfl⟩
  have hs1 : w1.heap.size = w.heap.size + 1 := by rw [← hw1]; simp
  have hs2 : w2.heap.size = w.heap.size + 4 := by rw [← hw2]; simp [hs1]
  have hb1 : Below w.heap.size w w1 := by rw [← hw1]; exact below_more (Below.refl _ _) _
  have hb2 : Below w.heap.size w w2 := by rw [← hw2]; exact below_more (below_more (below_more hb1 _) _) _
  have hb12 : Below w1.heap.size w1 w2 := by rw [← hw2]; exact below_more (below_more (below_more (Below.refl _ _) _) _) _
  have k2 : w2.heap[w1.heap.size + 1 + 1]? = some (.cells (pcells D L (newPLV w.heap.size n) 0) 100 (0, 0)) := by
    have h9 := heap_alloc_new ((w1.alloc (.map #[] 0)).alloc (.map #[] 0)) (.cells #[.pointer (some ⟨D, 0, none⟩), .pointer (some ⟨L, 0, none⟩), .slice (some ⟨w.heap.size, 0, none⟩) n n, .map (some w1.heap.size), .map (some (w1.heap.size + 1)), .int .i64 0] 100)
    rw [hw2] at h9
    have h8 : ((w1.alloc (.map #[] 0)).alloc (.map #[] 0)).heap.size = w1.heap.size + 1 + 1 := by simp
    rw [h8] at h9
    rw [h9, hs1]
    simp [pcells, newPLV]
  have c2 : w2.cell? ⟨w1.heap.size + 1 + 1, 2, none⟩ = some (.slice (some ⟨w.heap.size, 0, none⟩) n n) := by
    rw [cell_of_row w2 _ 2 _ _ _ k2]; simp [pcells, newPLV]
  have g2 : w2.heap[w.heap.size]? = some (.cells (fcells (List.replicate 0 fv1 ++ List.replicate (n - 0) fv0)).toArray 105 (0, 0)) := by
    rw [hb12.block _ (by omega), ← hw1]
    exact heap_alloc_new w _
  have m1 : IMap w2 w1.heap.size [] := by
    have h9 : (w1.alloc (.map #[] 0)).heap[w1.heap.size]? = some (.map #[] 0) := heap_alloc_new w1 _
    refine (imap_new w1).keep ?_
    rw [← hw2, heap_alloc_old _ _ (by simp; omega), heap_alloc_old _ _ (by simp)]
  have m2 : IMap w2 (w1.heap.size + 1) [] := by
    have h9 := imap_new (w1.alloc (.map #[] 0))
    have h8 : (w1.alloc (.map #[] 0)).heap.size = w1.heap.size + 1 := by simp
    rw [h8] at h9
    refine h9.keep ?_
    rw [← hw2, heap_alloc_old _ _ (by simp)]
  have HX := Lib.hid (And.intro hs1 (And.intro hs2 (And.intro hb2 (And.intro k2 (And.intro m1 m2)))))
  have G2 := Lib.hid g2
  have hn0 : (0 : Int) ≤ (n : Int) := by omega
  have HN := Lib.hid (And.intro h1 h2)
  clear h1 h2 hb1 hb2 hb12 k2 m1 m2 hs1 hs2 g2
  go_enter Tryz.func32, Tryz.ntmps32
  go_wp2
  clear hw1 hw2 hms hmm
  go_loopw [9, 29] (fun a j wr => ∃ k : Nat, k ≤ n ∧ j = .int .i64 (k : Int) ∧ wr.heap.size = w2.heap.size ∧ Below w.heap.size w wr ∧ (∀ b, b ≠ w.heap.size → wr.heap[b]? = w2.heap[b]?) ∧ wr.heap[w.heap.size]? = some (.cells (fcells (List.replicate k fv1 ++ List.replicate (n - k) fv0)).toArray 105 (0, 0))) (fun _ j _ => n - (intOf j).toNat)
  case atStart => exact ⟨0, by omega, rfl, rfl, HX.out.2.2.1, fun _ _ => rfl, G2.out⟩
  case round =>
    obtain ⟨k, hk, rfl, hsz, hbr, hoth, hG⟩ := hrel
    rcases Nat.lt_or_eq_of_le hk with hlt | rfl
    · have hki : (k : Int) < (n : Int) := by omega
      have hk0 : (0 : Int) ≤ (k : Int) := by omega
      have hne : w1.heap.size + 1 + 1 ≠ w.heap.size := by have := HX.out.1; omega
      have c2r : wr.cell? ⟨w1.heap.size + 1 + 1, 2, none⟩ = some (.slice (some ⟨w.heap.size, 0, none⟩) n n) := (World.cell?_of_block (hoth _ hne)).trans c2
      have hgk : (List.replicate k fv1 ++ List.replicate (n - k) fv0)[k]? = some fv0 := by
        rw [List.getElem?_append_right (by simp), List.length_replicate, Nat.sub_self, List.getElem?_replicate, if_pos (by omega)]
      have hcel : wr.cell? ⟨w.heap.size, 5 * k, none⟩ = some (.int .i64 0) := by
        rw [cell_of_row wr _ _ _ _ _ hG, List.getElem?_toArray]
        exact fcells_get _ k 0 fv0 hgk (by omega)
      have hfro : wr.frozen? ⟨w.heap.size, 5 * k, none⟩ = false := by simp [World.frozen?, hG]
      rw [Nat.mul_comm] at hcel hfro
      obtain ⟨w3, hw3⟩ : ∃ w3, wr.setCell ⟨w.heap.size, k * 5, none⟩ (.int .i64 (-1)) = w3 := ⟨_, rfl⟩
      have HWJ : Hid (wrap64 ((k : Int) + 1) = (k : Int) + 1) := by show _ = _; have h9 := HN.out; unfold wrap64; omega
      have H3 := Lib.hid (And.intro hsz (And.intro hbr (And.intro hoth (And.intro hG (And.intro hgk (And.intro hlt (And.intro hw3 hne)))))))
      clear hsz hbr hoth hG hgk hlt hk c2
      go_wp2
      obtain ⟨hsz, hbr, hoth, hG, hgk, hlt, hw3, hne⟩ := H3.out
      refine ⟨⟨k + 1, by omega, rfl, ?_, ?_, fun b hb => ?_, ?_⟩, by simp [intOf]; omega⟩
      · rw [← hw3, setCell_size]; exact hsz
      · rw [← hw3]; exact hbr.setCell (Nat.le_refl _) _
      · rw [← hw3, setCell_heap _ _ _ _ hb]; exact hoth b hb
      · rw [← hw3, setCell_blk hG, ← rep_set n k hlt, Nat.mul_comm k 5]
        congr 2
        have h9 := fcells_set1 _ k 0 fv0 fv1 (.int .i64 (-1)) hgk (by omega) rfl
        rw [rep_set n k hlt] at h9 ⊢
        exact h9
    · obtain ⟨hs1, hs2, hb2, k2, m1, m2⟩ := HX.out
      have hG' : wr.heap[w.heap.size]? = some (.cells (fcells (newPLV w.heap.size k).fs).toArray 105 (0, 0)) := by
        rw [hG]; simp [newPLV]
      have hrep : ∀ F, PRep wr (w.heap.size + 3) D L F (PM.new k) (newPLV w.heap.size k) := fun F =>
        ⟨by rw [hoth _ (by omega)]; rw [hs1] at k2; exact k2, hG', by simp [PM.new, newPLV, fv1],
          fun x hx => by
            have := List.eq_of_mem_replicate hx
            subst this
            exact RdB.nil _ _,
          by rw [hs1] at m1; exact m1.keep (hoth _ (by omega)), ⟨fun i x hx h0 => by
            have := List.eq_of_mem_replicate (List.mem_of_getElem? hx)
            subst this
            simp [fv1, FM.none] at h0, fun n u hu => by simp [newPLV, alook] at hu⟩,
          by rw [hs1] at m2; exact m2.keep (hoth _ (by omega)), fun n => by simp [newPLV, alook, PM.new, dlook], by simp [newPLV], by
            have := HN.out
            simp [newPLV, PM.new]; omega, by have := HN.out; simp [newPLV]; omega⟩
      have HR := Lib.hid (And.intro hrep (And.intro hbr (hsz.trans hs2)))
      have hA : w1.heap.size + 1 + 1 = w.heap.size + 3 := by omega
      have HA := Lib.hid hA
      clear hsz hbr hoth hG hG' hrep hs1 hs2 hb2 k2 m1 m2 hA
      go_wp2
      go_ret2
      exact ⟨by rw [HA.out]; rfl, HR.out.1, HR.out.2.1, HR.out.2.2⟩

end Mun
end

section
/- Which frame is found: the clock, plainly; slices.ContainsFunc over the frames. -/
set_option maxRecDepth 100000
set_option linter.unusedVariables false
set_option linter.unusedSimpArgs false
namespace Mun
open Go Go.RowKit
open Go.Proofs

/-- the clock: so many frames are passed over until one is found -/
inductive ClockN : Nat → List FV → Nat → List FV → Nat → Nat → Prop
  | stop {fs : List FV} {h : Nat} {x : FV} : fs[h]? = some x → x.1.pins = 0 → x.1.touch = false → ClockN 0 fs h fs ((h + 1) % fs.length) h
  | pin {k : Nat} {fs : List FV} {h : Nat} {x : FV} {fs' : List FV} {h' i : Nat} : fs[h]? = some x → 0 < x.1.pins → ClockN k fs ((h + 1) % fs.length) fs' h' i → ClockN (k + 1) fs h fs' h' i
  | tch {k : Nat} {fs : List FV} {h : Nat} {x : FV} {fs' : List FV} {h' i : Nat} : fs[h]? = some x → x.1.pins = 0 → x.1.touch = true → ClockN k (fs.set h ({ x.1 with touch := false }, x.2)) ((h + 1) % fs.length) fs' h' i → ClockN (k + 1) fs h fs' h' i

theorem clock_ex (t : Nat) : ∀ (d : Nat) (fs : List FV) (h : Nat), fs.countP (·.1.touch) ≤ t → h < fs.length → (∃ x, fs[(h + d) % fs.length]? = some x ∧ x.1.pins = 0) → ∃ k fs' h' i, ClockN k fs h fs' h' i := by
  induction t with
  | zero =>
    intro d
    induction d with
    | zero =>
      intro fs h hc hl ⟨x, hx, hp⟩
      rw [Nat.add_zero, Nat.mod_eq_of_lt hl] at hx
      have ht : x.1.touch = false := by
        have h1 : fs.countP (·.1.touch) = 0 := by omega
        rw [List.countP_eq_zero] at h1
        have h2 := h1 x (List.mem_of_getElem? hx)
        simpa using h2
      exact ⟨0, _, _, _, .stop hx hp ht⟩
    | succ d ih =>
      intro fs h hc hl ⟨x, hx, hp⟩
      obtain ⟨y, hy⟩ : ∃ y, fs[h]? = some y := ⟨_, List.getElem?_eq_getElem hl⟩
      have ht : y.1.touch = false := by
        have h1 : fs.countP (·.1.touch) = 0 := by omega
        rw [List.countP_eq_zero] at h1
        have h2 := h1 y (List.mem_of_getElem? hy)
        simpa using h2
      by_cases hq : y.1.pins = 0
      · exact ⟨0, _, _, _, .stop hy hq ht⟩
      · have hpos : 0 < fs.length := by omega
        have hm : ((h + 1) % fs.length + d) % fs.length = (h + (d + 1)) % fs.length := by
          rw [Nat.mod_add_mod]; congr 1; omega
        obtain ⟨k, fs', h', i, hk⟩ := ih fs ((h + 1) % fs.length) hc (Nat.mod_lt _ hpos) ⟨x, by rw [hm]; exact hx, hp⟩
        exact ⟨k + 1, _, _, _, .pin hy (by omega) hk⟩
  | succ t iht =>
    intro d
    induction d with
    | zero =>
      intro fs h hc hl ⟨x, hx, hp⟩
      rw [Nat.add_zero, Nat.mod_eq_of_lt hl] at hx
      by_cases ht : x.1.touch = true
      · have hpos : 0 < fs.length := by omega
        have hset : (fs.set h ({ x.1 with touch := false }, x.2)).countP (·.1.touch) ≤ t := by
          have hxe : fs[h] = x := by rw [List.getElem?_eq_getElem hl] at hx; injection hx
          rw [List.countP_set hl]
          have h1 : 0 < fs.countP (·.1.touch) := List.countP_pos_iff.2 ⟨x, List.mem_of_getElem? hx, ht⟩
          simp only [hxe, ht]
          simp
          omega
        have hx' : (fs.set h ({ x.1 with touch := false }, x.2))[h]? = some ({ x.1 with touch := false }, x.2) := by simp [hl]
        have hlen : (fs.set h ({ x.1 with touch := false }, x.2)).length = fs.length := by simp
        obtain ⟨k, fs', h', i, hk⟩ := iht (fs.length - 1) (fs.set h ({ x.1 with touch := false }, x.2)) ((h + 1) % fs.length) hset (by rw [hlen]; exact Nat.mod_lt _ hpos) ⟨({ x.1 with touch := false }, x.2), by
          rw [hlen, Nat.mod_add_mod, show h + 1 + (fs.length - 1) = h + fs.length by omega, Nat.add_mod_right, Nat.mod_eq_of_lt hl]
          exact hx', hp⟩
        exact ⟨k + 1, _, _, _, .tch hx hp ht hk⟩
      · exact ⟨0, _, _, _, .stop hx hp (by simpa using ht)⟩
    | succ d ih =>
      intro fs h hc hl ⟨x, hx, hp⟩
      obtain ⟨y, hy⟩ : ∃ y, fs[h]? = some y := ⟨_, List.getElem?_eq_getElem hl⟩
      have hpos : 0 < fs.length := by omega
      by_cases hq : y.1.pins = 0
      · by_cases ht : y.1.touch = true
        · have hset : (fs.set h ({ y.1 with touch := false }, y.2)).countP (·.1.touch) ≤ t := by
            have hxe : fs[h] = y := by rw [List.getElem?_eq_getElem hl] at hy; injection hy
            rw [List.countP_set hl]
            have h1 : 0 < fs.countP (·.1.touch) := List.countP_pos_iff.2 ⟨y, List.mem_of_getElem? hy, ht⟩
            simp only [hxe, ht]
            simp
            omega
          have hx' : (fs.set h ({ y.1 with touch := false }, y.2))[h]? = some ({ y.1 with touch := false }, y.2) := by simp [hl]
          have hlen : (fs.set h ({ y.1 with touch := false }, y.2)).length = fs.length := by simp
          obtain ⟨k, fs', h', i, hk⟩ := iht (fs.length - 1) (fs.set h ({ y.1 with touch := false }, y.2)) ((h + 1) % fs.length) hset (by rw [hlen]; exact Nat.mod_lt _ hpos) ⟨({ y.1 with touch := false }, y.2), by
            rw [hlen, Nat.mod_add_mod, show h + 1 + (fs.length - 1) = h + fs.length by omega, Nat.add_mod_right, Nat.mod_eq_of_lt hl]
            exact hx', hq⟩
          exact ⟨k + 1, _, _, _, .tch hy hq ht hk⟩
        · exact ⟨0, _, _, _, .stop hy hq (by simpa using ht)⟩
      · have hm : ((h + 1) % fs.length + d) % fs.length = (h + (d + 1)) % fs.length := by
          rw [Nat.mod_add_mod]; congr 1; omega
        obtain ⟨k, fs', h', i, hk⟩ := ih fs ((h + 1) % fs.length) hc (Nat.mod_lt _ hpos) ⟨x, by rw [hm]; exact hx, hp⟩
        exact ⟨k + 1, _, _, _, .pin hy (by omega) hk⟩

/-- a frame that is not pinned is found -/
theorem clock_any (fs : List FV) (h : Nat) (hl : h < fs.length) (x : FV) (hx : x ∈ fs) (hp : x.1.pins = 0) : ∃ k fs' h' i, ClockN k fs h fs' h' i := by
  obtain ⟨j, hj, rfl⟩ := List.getElem_of_mem hx
  refine clock_ex _ (j + fs.length - h) fs h (Nat.le_refl _) hl ⟨fs[j], ?_, hp⟩
  rw [show h + (j + fs.length - h) = j + fs.length by omega, Nat.add_mod_right, Nat.mod_eq_of_lt hj, List.getElem?_eq_getElem hj]

/-- touches apart, the frames are the same -/
def SameF (x y : FV) : Prop := y.1.pg = x.1.pg ∧ y.1.b = x.1.b ∧ y.1.pins = x.1.pins ∧ y.1.chg = x.1.chg ∧ y.2 = x.2
def SameFs (fs fs' : List FV) : Prop := fs'.length = fs.length ∧ ∀ (i : Nat) (x : FV), fs[i]? = some x → ∃ y : FV, fs'[i]? = some y ∧ SameF x y
theorem SameFs.refl (fs : List FV) : SameFs fs fs := ⟨rfl, fun i x hx => ⟨x, hx, rfl, rfl, rfl, rfl, rfl⟩⟩
theorem SameFs.trans {a b c : List FV} (h : SameFs a b) (k : SameFs b c) : SameFs a c := ⟨k.1.trans h.1, fun i x hx => by
  obtain ⟨y, hy, e1, e2, e3, e4, e5⟩ := h.2 i x hx
  obtain ⟨z, hz, f1, f2, f3, f4, f5⟩ := k.2 i y hy
  exact ⟨z, hz, f1.trans e1, f2.trans e2, f3.trans e3, f4.trans e4, f5.trans e5⟩⟩
theorem sameFs_touch {fs : List FV} {h : Nat} {x : FV} (hx : fs[h]? = some x) (t : Bool) : SameFs fs (fs.set h ({ x.1 with touch := t }, x.2)) := by
  refine ⟨by simp, fun i y hy => ?_⟩
  by_cases hi : h = i
  · subst hi
    rw [hx] at hy
    injection hy with hy
    subst hy
    exact ⟨({ x.1 with touch := t }, x.2), by simp [(List.getElem?_eq_some_iff.1 hx).1], rfl, rfl, rfl, rfl, rfl⟩
  · exact ⟨y, by rw [List.getElem?_set_ne hi]; exact hy, rfl, rfl, rfl, rfl, rfl⟩

theorem ClockN.facts {k : Nat} {fs : List FV} {h : Nat} {fs' : List FV} {h' i : Nat} (hc : ClockN k fs h fs' h' i) : SameFs fs fs' ∧ h' < fs.length ∧ ∃ x, fs'[i]? = some x ∧ x.1.pins = 0 ∧ x.1.touch = false := by
  induction hc with
  | stop hx hp ht =>
    have := (List.getElem?_eq_some_iff.1 hx).1
    exact ⟨SameFs.refl _, Nat.mod_lt _ (by omega), _, hx, hp, ht⟩
  | pin hx hp hc ih => exact ih
  | tch hx hp ht hc ih =>
    refine ⟨(sameFs_touch hx false).trans ih.1, ?_, ih.2.2⟩
    have := ih.2.1
    simpa using this

/-- the least number of which a thing holds -/
theorem least_ex (p : Nat → Prop) (h : ∃ k, p k) : ∃ k, p k ∧ ∀ j, p j → k ≤ j := by
  obtain ⟨k, hk⟩ := h
  induction k using Nat.strongRecOn with
  | ind k ih =>
    by_cases h1 : ∃ j, j < k ∧ p j
    · obtain ⟨j, hj, hp⟩ := h1
      exact ih j hj hp
    · exact ⟨k, hk, fun j hj => Nat.le_of_not_lt fun hlt => h1 ⟨j, hlt, hj⟩⟩
open Classical in
noncomputable def leastK (p : Nat → Prop) : Nat := if h : ∃ k, p k then Classical.choose (least_ex p h) else 0
theorem leastK_spec (p : Nat → Prop) (h : ∃ k, p k) : p (leastK p) := by
  unfold leastK
  rw [dif_pos h]
  exact (Classical.choose_spec (least_ex p h)).1
theorem leastK_le (p : Nat → Prop) (k : Nat) (hk : p k) : leastK p ≤ k := by
  have h : ∃ k, p k := ⟨k, hk⟩
  unfold leastK
  rw [dif_pos h]
  exact (Classical.choose_spec (least_ex p h)).2 k hk

theorem fc5 {w : World} {G : Nat} {fs : List FV} {ty : TypeId} (hG : w.heap[G]? = some (.cells (fcells fs).toArray ty (0, 0))) {k : Nat} {x : FV} (hx : fs[k]? = some x) :
    w.cell? ⟨G, k * 5, none⟩ = some (.int .i64 x.1.pg) ∧ w.cell? ⟨G, k * 5 + 1, none⟩ = some x.2 ∧ w.cell? ⟨G, k * 5 + 2, none⟩ = some (.int .i64 (x.1.pins : Int)) ∧ w.cell? ⟨G, k * 5 + 3, none⟩ = some (.bool x.1.touch) ∧ w.cell? ⟨G, k * 5 + 4, none⟩ = some (.bool x.1.chg) := by
  have h : ∀ j, j < 5 → w.cell? ⟨G, k * 5 + j, none⟩ = (f5 x)[j]? := fun j hj => by
    rw [cell_of_row w G _ _ _ _ hG, List.getElem?_toArray, Nat.mul_comm]
    exact fcells_get fs k j x hx hj
  exact ⟨h 0 (by omega), h 1 (by omega), h 2 (by omega), h 3 (by omega), h 4 (by omega)⟩

theorem found1 (w : World) (a0 : Int) (b : Value) (n : Nat) (t c : Bool) : Calls Tryz.prog 79 #[.agg #[.int .i64 a0, b, .int .i64 (n : Int), .bool t, .bool c]] w fun e w' => e = .returned (.bool (decide (n = 0))) ∧ Below w.heap.size w w' := by
  have hd : decide (n = 0) = decide ((n : Int) = 0) := by by_cases h : n = 0 <;> simp [h]
  rw [hd]
  have hb : Below w.heap.size w (w.alloc (.cells #[.int .i64 a0, b, .int .i64 (n : Int), .bool t, .bool c] 105)) := (Below.refl _ _).alloc (Nat.le_refl _) _
  have HB := Lib.hid hb
  clear hb hd
  go_enter Tryz.func79, Tryz.ntmps79
  go_wp2
  go_ret
  exact ⟨rfl, HB.out⟩

def anyFree (fs : List FV) : Bool := fs.any fun x => decide (x.1.pins = 0)

theorem indexFree (w : World) (G : Nat) (fs : List FV) (hG : w.heap[G]? = some (.cells (fcells fs).toArray 105 (0, 0))) (hn : fs.length ≤ 1024) :
    Calls Tryz.prog 101 #[.slice (some ⟨G, 0, none⟩) fs.length fs.length, .func (.func 79) #[] #[]] w fun e w' => ∃ r : Int, e = .returned (.int .i64 r) ∧ decide (0 ≤ r) = anyFree fs ∧ Below w.heap.size w w' := by
  obtain ⟨qn, hqn⟩ : ∃ qn, fs.length = qn := ⟨_, rfl⟩
  have hGl : G < w.heap.size := (Array.getElem?_eq_some_iff.1 hG).1
  rw [hqn]
  have HQ := Lib.hid (And.intro hG (And.intro hqn (And.intro hGl hn)))
  clear hG hqn hGl hn
  go_enter Tryz.func101, Tryz.ntmps101
  go_wp2
  go_loopw [5, 8] (fun a i wr => ∃ k : Nat, k ≤ qn ∧ i = .int .i64 (k : Int) ∧ Below w.heap.size w wr ∧ ∀ (i : Nat) (x : FV), fs[i]? = some x → i < k → 0 < x.1.pins) (fun _ i _ => qn - (intOf i).toNat)
  case atStart => exact ⟨0, by omega, rfl, Below.refl _ _, fun i _ _ hi => absurd hi (by omega)⟩
  case round =>
    obtain ⟨k, hk, rfl, hbr, hno⟩ := hrel
    rcases Nat.lt_or_eq_of_le hk with hlt | heq
    · have hkl : k < fs.length := by rw [HQ.out.2.1]; exact hlt
      obtain ⟨x, hx⟩ : ∃ x, fs[k]? = some x := ⟨_, List.getElem?_eq_getElem hkl⟩
      have hGr : wr.heap[G]? = some (.cells (fcells fs).toArray 105 (0, 0)) := (hbr.block G HQ.out.2.2.1).trans HQ.out.1
      obtain ⟨k0, k1, k2, k3, k4⟩ := fc5 hGr hx
      have hcl := found1 wr x.1.pg x.2 x.1.pins x.1.touch x.1.chg
      have hki : (k : Int) < (qn : Int) := by omega
      have hk0 : (0 : Int) ≤ (k : Int) := by omega
      have HWJ : Hid (wrap64 ((k : Int) + 1) = (k : Int) + 1) := by show _ = _; have h9 := HQ.out.2.2.2; have h8 := HQ.out.2.1; unfold wrap64; omega
      have HBR := Lib.hid (And.intro hbr (And.intro hlt (And.intro hno hx)))
      obtain ⟨f1, f2, f3, f4, f5'⟩ : ∃ a b c d e, x.1.pg = a ∧ x.2 = b ∧ x.1.pins = c ∧ x.1.touch = d ∧ x.1.chg = e := ⟨_, _, _, _, _, rfl, rfl, rfl, rfl, rfl⟩
      obtain ⟨f6, e1, e2, e3, e4, e5⟩ := f5'
      rw [e1] at k0 hcl
      rw [e2] at k1 hcl
      rw [e3] at k2 hcl
      rw [e4] at k3 hcl
      rw [e5] at k4 hcl
      have E3 := Lib.hid e3
      have HCL := Lib.hid hcl
      clear hcl hbr hlt hk hno hx hGr e1 e2 e3 e4 e5 hkl
      by_cases hp : f3 = 0
      · subst hp
        have hany : anyFree fs = true := List.any_eq_true.2 ⟨x, List.mem_of_getElem? HBR.out.2.2.2, by rw [E3.out]; rfl⟩
        have HA := Lib.hid hany
        clear hany
        go_wp2_with fail
        refine HCL.out.mono ?_
        rintro e w5 ⟨rfl, hb5⟩
        go_wp2
        go_ret
        exact ⟨k, rfl, by rw [HA.out]; simp, HBR.out.1.trans (hb5.mono HBR.out.1.size)⟩
      · have hdp : decide (f3 = 0) = false := decide_eq_false hp
        have HP := Lib.hid hp
        rw [hdp] at HCL
        clear hdp hp
        go_wp2_with fail
        refine HCL.out.mono ?_
        rintro e w5 ⟨rfl, hb5⟩
        go_wp2
        go_roundw
        case rel => exact ⟨k + 1, by have := HBR.out.2.1; omega, by rw [HWJ.out]; rfl, HBR.out.1.trans (hb5.mono HBR.out.1.size), fun i y hi hik => by
          rcases Nat.lt_or_eq_of_le (Nat.le_of_lt_succ hik) with h9 | h9
          · exact HBR.out.2.2.1 i y hi h9
          · subst h9
            rw [HBR.out.2.2.2] at hi
            injection hi with hi
            subst hi
            rw [E3.out]
            have := HP.out
            omega⟩
        case measure => have := HBR.out.2.1; rw [HWJ.out]; simp [intOf]; omega
    · subst heq
      have hany : anyFree fs = false := by
        rw [anyFree, List.any_eq_false]
        intro x hx
        obtain ⟨i, hi, rfl⟩ := List.getElem_of_mem hx
        have := hno i _ (List.getElem?_eq_getElem hi) (by rw [← HQ.out.2.1]; exact hi)
        simp only [decide_eq_true_eq]
        omega
      have HI := Lib.hid hany
      clear hany hno
      go_wp2
      go_ret
      exact ⟨-1, rfl, by rw [HI.out]; rfl, hbr⟩

theorem containsFree (w : World) (G : Nat) (fs : List FV) (hG : w.heap[G]? = some (.cells (fcells fs).toArray 105 (0, 0))) (hn : fs.length ≤ 1024) :
    Calls Tryz.prog 78 #[.slice (some ⟨G, 0, none⟩) fs.length fs.length, .func (.func 79) #[] #[]] w fun e w' => e = .returned (.bool (anyFree fs)) ∧ Below w.heap.size w w' := by
  have hi := indexFree w G fs hG hn
  obtain ⟨qn, hqn⟩ : ∃ qn, fs.length = qn := ⟨_, rfl⟩
  rw [hqn] at hi ⊢
  have HI := Lib.hid hi
  clear hi hG hn hqn
  go_enter Tryz.func78, Tryz.ntmps78
  go_wp2_with fail
  refine HI.out.mono ?_
  rintro e w5 ⟨r, rfl, hr, hb5⟩
  have HR := Lib.hid hr
  clear hr
  go_wp2
  go_ret
  exact ⟨by rw [← HR.out]; rfl, hb5⟩
end Mun
end

section
/- A region that draws its order and whose last operation writes what its loads read: S is asked behind each operation but the exempt ones (X), which wait for all loads. -/
set_option maxRecDepth 100000
namespace Mun
open Go

section
variable {P : Program} {ops : Array Oper} {Q : Exit → Act → World → Prop} {md : Region.Mode} {S : World → Prop} {X : List Nat}

/-- in whatever order; S holds behind each operation that is not exempt -/
def wpAnyU (P : Program) (md : Region.Mode) (ops : Array Oper) (Q : Exit → Act → World → Prop) (S : World → Prop) (X : List Nat) : Nat → Array Bool → Act → World → Prop
  | 0, l, a, w => Region.ready md ops l = [] ∧ Q .normal a w
  | n + 1, l, a, w => (Region.ready md ops l = [] → Q .normal a w) ∧
    ∀ i ∈ Region.ready md ops l, wpOp P ops Q i (fun a' w' => (X.contains i = false → S w') ∧ wpAnyU P md ops Q S X n (l.setIfInBounds i true) a' w') a w

theorem wpAnyU_any : ∀ (n : Nat) (l : Array Bool) (a : Act) (w : World), wpAnyU P md ops Q S X n l a w → wpAny P md ops Q n l a w
  | 0, _, _, _, h => h
  | n + 1, _, _, _, h => ⟨h.1, fun i hi => wpOp_mono (fun a' w' h' => wpAnyU_any n _ a' w' h'.2) (h.2 i hi)⟩

/-- all of D wait for i, directly or through D -/
def waits (md : Region.Mode) (ops : Array Oper) (i : Nat) (D : List Nat) : Bool :=
  D.all fun d => match ops[d]? with | some o => o.after.any (fun e => Region.binds md e && (e.on == i || D.contains e.on)) | none => false
def unlisted (l : Array Bool) (D : List Nat) : Bool := D.all fun d => l.getD d true == false

theorem waits_spec {i : Nat} {D : List Nat} (h : waits md ops i D = true) (d : Nat) (hd : d ∈ D) : ∃ o, ops[d]? = some o ∧ ∃ e ∈ o.after, Region.binds md e = true ∧ (e.on = i ∨ e.on ∈ D) := by
  unfold waits at h
  have h1 := List.all_eq_true.1 h d hd
  cases ho : ops[d]? with
  | none => rw [ho] at h1; cases h1
  | some o =>
    rw [ho] at h1
    simp only [Bool.and_eq_true, Bool.or_eq_true, beq_iff_eq, List.contains_iff_mem, Array.any_eq_true'] at h1
    obtain ⟨e, he, h2, h3⟩ := h1
    exact ⟨o, rfl, e, he, h2, h3⟩

theorem getD_flip {l : Array Bool} {k : Nat} (h : l.getD k false = true) : l.getD k true = true := by
  rw [Array.getD_eq_getD_getElem?] at h ⊢
  cases hl : l[k]? with
  | none => rw [hl] at h; cases h
  | some z => rw [hl] at h; exact h

theorem not_ready_of_waits {i j : Nat} {D : List Nat} {l : Array Bool} (h : waits md ops i D = true) (hun : ∀ d ∈ D, l.getD d true = false) (hi : l.getD i true = false) (hj : j ∈ Region.ready md ops l) : j ∉ D := by
  intro hD
  obtain ⟨o, ho, e, he, hb, h1⟩ := waits_spec h j hD
  obtain ⟨_, oj, hoj, hall⟩ := mem_ready.1 hj
  rw [ho] at hoj
  injection hoj with hoj
  subst hoj
  have h2 := getD_flip (hall e he hb)
  rcases h1 with h1 | h1
  · rw [h1, hi] at h2; cases h2
  · rw [hun _ h1] at h2; cases h2

theorem wpAnyU_first {i : Nat} {oi : Oper} {v : Value} (D : List Nat) (hi : ops[i]? = some oi) (hsel : ∀ (j : Nat) (o : Oper) cs b, ops[j]? = some o → o.op ≠ .select cs b)
    (hw : waits md ops i D = true) (hX : ∀ x ∈ X, x ∈ D)
    (hQ : ∀ c a w, Q (.panic c) (a.put oi.dst v) w → Q (.panic c) a w) (n : Nat) :
    ∀ (l : Array Bool) (a : Act) (w : World), (∀ d ∈ D, l.getD d true = false) →
      (∀ j oj, ops[j]? = some oj → j ≠ i → l.getD j true = false → (∀ e ∈ oj.after, Region.binds md e = true → e.on ≠ i) → oi.apart ops oj = true) →
      i ∈ Region.ready md ops l → YieldsIf P ops S oi v a → S w →
      wpAnyU P md ops Q S X n (l.setIfInBounds i true) (a.put oi.dst v) w → wpAnyU P md ops Q S X (n + 1) l a w := by
  induction n with
  | zero =>
    intro l a w _ _ hr hy hS H
    refine ⟨fun h => absurd hr (by rw [h]; simp), fun j hj => ?_⟩
    by_cases hji : j = i
    · subst hji; exact hy.wpOp hi hS ⟨fun _ => hS, H⟩
    · have h1 := ready_mono hj hji
      rw [H.1] at h1
      cases h1
  | succ n ih =>
    intro l a w hun hfree hr hy hS H
    refine ⟨fun h => absurd hr (by rw [h]; simp), fun j hj => ?_⟩
    by_cases hji : j = i
    · subst hji; exact hy.wpOp hi hS ⟨fun _ => hS, H⟩
    · obtain ⟨hjun, oj, hoj, hall⟩ := mem_ready.1 hj
      have hiun : l.getD i true = false := (mem_ready.1 hr).1
      have hjD : j ∉ D := not_ready_of_waits hw hun hiun hj
      have hjX : X.contains j = false := by
        rw [Bool.eq_false_iff]
        intro h
        exact hjD (hX j (List.contains_iff_mem.1 h))
      have hnot : ∀ e ∈ oj.after, Region.binds md e = true → e.on ≠ i := fun e he hb heq => by
        have h1 := getD_flip (hall e he hb)
        rw [heq, hiun] at h1
        cases h1
      have h2 := wpOp_putIf hoj (hfree j oj hoj hji hjun hnot) (fun cs b => hsel i oi cs b hi) (fun cs b => hsel j oj cs b hoj) hQ hy (H.2 j (ready_mono hj hji))
      refine wpOp_mono (fun a' w' h3 => ⟨fun _ => h3.2.1 hjX, ih (l.setIfInBounds j true) a' w' (fun d hd => ?_) (fun k ok hk hki hun2 hno => ?_) (ready_mono hr (Ne.symm hji)) h3.1 (h3.2.1 hjX) ?_⟩) h2
      · rw [getD_set_ne true (fun e => hjD (by rw [e]; exact hd))]; exact hun d hd
      · refine hfree k ok hk hki ?_ hno
        by_cases hjk : j = k
        · subst hjk; exact hjun
        · rw [getD_set_ne true hjk] at hun2; exact hun2
      · rw [Array.setIfInBounds_comm _ _ hji]; exact h3.2.2

theorem wpAnyU_take {i : Nat} (D : List Nat) {oi : Oper} {v : Value} {n : Nat} {l : Array Bool} {a : Act} {w : World} (hi : ops[i]? = some oi)
    (hs : Region.noSelect ops = true) (hf : Region.free md ops l i = true) (hr : (Region.ready md ops l).contains i = true)
    (hw : waits md ops i D = true) (hu : unlisted l D = true) (hX : (X.all fun x => D.contains x) = true)
    (hQ : ∀ c a w, Q (.panic c) (a.put oi.dst v) w → Q (.panic c) a w) (hy : YieldsIf P ops S oi v a) (hS : S w)
    (h : wpAnyU P md ops Q S X n (l.setIfInBounds i true) (a.put oi.dst v) w) : wpAnyU P md ops Q S X (n + 1) l a w :=
  wpAnyU_first D hi (Region.noSelect_spec hs) hw (fun x hx => List.contains_iff_mem.1 (List.all_eq_true.1 hX x hx)) hQ n l a w
    (fun d hd => by have h1 := List.all_eq_true.1 hu d hd; simpa using h1) (Region.free_spec hi hf) (by simpa using hr) hy hS h

/-- one operation alone may come up -/
theorem wpAnyU_one {i : Nat} {o : Oper} {n : Nat} {l : Array Bool} {a : Act} {w : World} (hr : Region.ready md ops l = [i]) (ho : ops[i]? = some o)
    (h : ∀ K' : Act → World → Prop, Shut (∀ a w, (X.contains i = false → S w) → ((X.contains i = false → S w) → wpAnyU P md ops Q S X n (l.setIfInBounds i true) a w) → K' a w) → if Region.wanted o (yielded ops a.tmps) = true then Oper.wp P o a w K' Q else K' (a.put o.dst undef) w) : wpAnyU P md ops Q S X (n + 1) l a w :=
  ⟨fun h0 => absurd h0 (by rw [hr]; simp), fun j hj => by
    rw [hr, List.mem_singleton] at hj
    subst hj
    exact wpOp_step ho (fun K' hK => h K' (fun a w hS hW => hK a w ⟨hS, hW hS⟩))⟩

theorem wpAnyU_done {l : Array Bool} {a : Act} {w : World} (hr : Region.ready md ops l = []) (h : Q .normal a w) : ∀ n, wpAnyU P md ops Q S X n l a w
  | 0 => ⟨hr, h⟩
  | _ + 1 => ⟨fun _ => h, by rw [hr]; simp⟩

theorem wp_region_U (S : World → Prop) (X : List Nat) {id : Nat} {a : Act} {w : World} (hm : P.follows .mixedOrders = true)
    (h : wpAnyU P .any ops Q S X ops.size (Array.replicate ops.size false) a w.drew) : (Code.region id ops true).wp P Q a w :=
  wp_region_any hm (wpAnyU_any _ _ _ _ h)
end
end Mun
end

section
/- Contract of a pool's found. -/
set_option maxRecDepth 100000
set_option linter.unusedVariables false
set_option linter.unusedSimpArgs false
namespace Mun
open Go Go.RowKit
open Go.Proofs

/-- a pool's frames and hand turned: F is what it turns and reads nothing of -/
theorem PRep.touch {w w' : World} {Pb D L : Nat} {F : Foot} {p : PM} {v : PLV} (h : PRep w Pb D L F p v) (hF : ∀ k, pfoot Pb v k → F k) (hk : ∀ k, k < w.heap.size → ¬ F k → w'.heap[k]? = w.heap[k]?) {fs : List FV} {hand : Nat}
    (hb : w'.heap[Pb]? = some (.cells (pcells D L { v with fs := fs } hand) 100 (0, 0))) (hG : w'.heap[v.G]? = some (.cells (fcells fs).toArray 105 (0, 0)))
    (hs : SameFs v.fs fs) (hMw : w'.heap[v.Mw]? = w.heap[v.Mw]?) (hMd : w'.heap[v.Md]? = w.heap[v.Md]?) (hh : hand < v.fs.length) :
    PRep w' Pb D L F { p with fr := fs.map (·.1), hand := hand } { v with fs := fs } := by
  refine ⟨hb, hG, rfl, fun x hx => ?_, h.mp.keep hMw, h.mok.frames fun i => ?_, h.dm.keep hMd, h.dlk, h.ne, by show hand < fs.length; rw [hs.1]; exact hh, by show fs.length ≤ 1024; rw [hs.1]; exact h.big⟩
  · obtain ⟨i, hi, rfl⟩ := List.getElem_of_mem hx
    have hi' : i < v.fs.length := by rw [← hs.1]; exact hi
    obtain ⟨y, hy, e1, e2, e3, e4, e5⟩ := hs.2 i v.fs[i] (List.getElem?_eq_getElem hi')
    rw [List.getElem?_eq_getElem hi] at hy
    injection hy with hy
    rw [hy, e5, e2]
    exact RdV.keep (h.rd _ (List.getElem_mem hi')) hk (fun _ _ h => h)
  · cases hf : v.fs[i]? with
    | none =>
      rw [List.getElem?_eq_none_iff] at hf
      rw [List.getElem?_eq_none (by rw [hs.1]; exact hf)]
    | some x =>
      obtain ⟨y, hy, e1, e2, e3, e4, e5⟩ := hs.2 i x hf
      rw [hy]
      simp [e1]

/-- what found comes to -/
inductive FoundIs (p : PM) (v : PLV) : Int → PM → PLV → Prop
  | free {i : Nat} {x : FV} : v.fs[i]? = some x → x.1.pg < 0 → (∀ (j : Nat) (y : FV), v.fs[j]? = some y → j < i → 0 ≤ y.1.pg) → FoundIs p v i p v
  | full : (∀ x ∈ v.fs, 0 ≤ x.1.pg) → (∀ x ∈ v.fs, 0 < x.1.pins) → FoundIs p v (-1) p v
  | clock {k : Nat} {fs : List FV} {h i : Nat} : (∀ x ∈ v.fs, 0 ≤ x.1.pg) → ClockN k v.fs p.hand fs h i → FoundIs p v i { p with fr := fs.map (·.1), hand := h } { v with fs := fs }

def FoundOut (w : World) (Pb D L : Nat) (F : Foot) (p : PM) (v : PLV) (e : Ending) (w' : World) : Prop :=
  ∃ r p' v', FoundIs p v r p' v' ∧ e = .returned (.int .i64 r) ∧ PRep w' Pb D L F p' v' ∧ Chg (pfoot Pb v) (pfoot Pb v) w w'

theorem chg_drew {F : Foot} (w : World) : Chg F F w w.drew := ⟨rfl, rfl, rfl, Nat.le_refl _, fun _ _ _ => rfl, fun _ h => .inl h⟩
theorem ClockN.inv {m : Nat} {fs : List FV} {h : Nat} {fs' : List FV} {h' i : Nat} (hc : ClockN m fs h fs' h' i) {x : FV} (hx : fs[h]? = some x) :
    (0 < x.1.pins → ∃ k, m = k + 1 ∧ ClockN k fs ((h + 1) % fs.length) fs' h' i) ∧
    (x.1.pins = 0 → x.1.touch = true → ∃ k, m = k + 1 ∧ ClockN k (fs.set h ({ x.1 with touch := false }, x.2)) ((h + 1) % fs.length) fs' h' i) ∧
    (x.1.pins = 0 → x.1.touch = false → fs' = fs ∧ h' = (h + 1) % fs.length ∧ i = h) := by
  cases hc with
  | stop hy hp ht =>
    rw [hx] at hy; injection hy with hy; subst hy
    exact ⟨fun h => by omega, fun _ h => (by rw [ht] at h; cases h), fun _ _ => ⟨rfl, rfl, rfl⟩⟩
  | pin hy hp hc =>
    rw [hx] at hy; injection hy with hy; subst hy
    exact ⟨fun _ => ⟨_, rfl, hc⟩, fun h => by omega, fun h => by omega⟩
  | tch hy hp ht hc =>
    rw [hx] at hy; injection hy with hy; subst hy
    exact ⟨fun h => by omega, fun _ _ => ⟨_, rfl, hc⟩, fun _ h => (by rw [ht] at h; cases h)⟩

/-- where the clock stands -/
def ClkR (w : World) (Pb D L : Nat) (F : Foot) (p : PM) (v : PLV) (fs' : List FV) (h' i' : Nat) (wr : World) (k : Nat) : Prop :=
  ∃ fsc hc, PRep wr Pb D L F { p with fr := fsc.map (·.1), hand := hc } { v with fs := fsc } ∧ SameFs v.fs fsc ∧ ClockN k fsc hc fs' h' i' ∧ Chg (pfoot Pb v) (pfoot Pb v) w wr

set_option maxHeartbeats 1000000 in
theorem p_found (w : World) (Pb D L : Nat) (F : Foot) (p : PM) (v : PLV) (h : PRep w Pb D L F p v) (hF : ∀ k, pfoot Pb v k → F k) : Calls Tryz.prog 43 #[.pointer (some ⟨Pb, 0, none⟩)] w (FoundOut w Pb D L F p v) := by
  obtain ⟨n, hn⟩ : ∃ n, v.fs.length = n := ⟨_, rfl⟩
  have c2 : w.cell? ⟨Pb, 2, none⟩ = some (.slice (some ⟨v.G, 0, none⟩) n n) := by rw [h.cell 2]; simp [pcells, hn]
  have hbig : n ≤ 1024 := by rw [← hn]; exact h.big
  have hn0 : (0 : Int) ≤ (n : Int) := by omega
  have HX := Lib.hid (And.intro h (And.intro hF hn))
  have HBIG := Lib.hid hbig
  have hcf := containsFree w v.G v.fs h.fbl h.big
  rw [hn] at hcf
  have HCF := Lib.hid hcf
  clear h hF hn hbig hcf
  go_enter Tryz.func43, Tryz.ntmps43
  go_wp2
  go_step3
  go_wp2
  go_loopw [3, 11] (fun a j wr => ∃ k : Nat, k ≤ n ∧ j = .int .i64 (k : Int) ∧ wr = w ∧ ∀ (i : Nat) (x : FV), v.fs[i]? = some x → i < k → 0 ≤ x.1.pg) (fun _ i _ => n - (intOf i).toNat)
  case atStart => exact ⟨0, by omega, rfl, rfl, fun i _ _ hi => absurd hi (by omega)⟩
  case round =>
    obtain ⟨k, hk, rfl, rfl, hno⟩ := hrel
    rcases Nat.lt_or_eq_of_le hk with hlt | rfl
    · obtain ⟨x, hx⟩ : ∃ x, v.fs[k]? = some x := ⟨_, List.getElem?_eq_getElem (by rw [HX.out.2.2]; exact hlt)⟩
      obtain ⟨k0, -⟩ := fc5 HX.out.1.fbl hx
      have hki : (k : Int) < (n : Int) := by omega
      have hk0 : (0 : Int) ≤ (k : Int) := by omega
      have HWJ : Hid (wrap64 ((k : Int) + 1) = (k : Int) + 1) := by show _ = _; have h9 := HBIG.out; unfold wrap64; omega
      obtain ⟨q, hq⟩ : ∃ q, x.1.pg = q := ⟨_, rfl⟩
      rw [hq] at k0
      have HR := Lib.hid (And.intro hlt (And.intro hno (And.intro hx hq)))
      clear hlt hno hx hq hk
      by_cases hneg : q < 0
      · go_wp2
        (try rw [Exit.noGoto_ret])
        go_ret
        obtain ⟨hlt, hno, hx, hq⟩ := HR.out
        exact ⟨k, p, v, .free hx (by rw [hq]; exact hneg) hno, rfl, HX.out.1, Chg.refl _ _⟩
      · have hnn : 0 ≤ q := by omega
        go_wp2
        go_roundw
        case rel => exact ⟨k + 1, by have := HR.out.1; omega, by rw [HWJ.out]; rfl, by trivial, fun i y hi hik => by
          obtain ⟨hlt, hno, hx, hq⟩ := HR.out
          rcases Nat.lt_or_eq_of_le (Nat.le_of_lt_succ hik) with h9 | h9
          · exact hno i y hi h9
          · subst h9
            rw [hx] at hi
            injection hi with hi
            subst hi
            omega⟩
        case measure => have := HR.out.1; rw [HWJ.out]; simp [intOf]; omega
    · have hall : ∀ x ∈ v.fs, 0 ≤ x.1.pg := fun x hx => by
        obtain ⟨i, hi, rfl⟩ := List.getElem_of_mem hx
        exact hno i _ (List.getElem?_eq_getElem hi) (by rw [← HX.out.2.2]; exact hi)
      have HALL := Lib.hid hall
      clear hall hno hk
      cases hany : anyFree v.fs with
      | false =>
        rw [hany] at HCF
        have hpin : ∀ x ∈ v.fs, 0 < x.1.pins := fun x hx => by
          rw [anyFree, List.any_eq_false] at hany
          have := hany x hx
          simp only [decide_eq_true_eq] at this
          omega
        have HP := Lib.hid hpin
        clear hany hpin
        go_wp2_with fail
        refine HCF.out.mono ?_
        rintro e w5 ⟨rfl, hb5⟩
        go_wp2
        (try rw [Exit.noGoto_ret])
        go_ret
        exact ⟨-1, p, v, .full HALL.out HP.out, rfl, HX.out.1.below hb5, Chg.of_below hb5 _⟩
      | true =>
        rw [hany] at HCF
        obtain ⟨x, hx, hx0⟩ := List.any_eq_true.1 hany
        obtain ⟨K, fs', h', i', hclk⟩ := clock_any v.fs p.hand HX.out.1.hand x hx (by simpa using hx0)
        have HCL := Lib.hid hclk
        clear hany hx hx0 hclk
        go_wp2_with fail
        refine HCF.out.mono ?_
        rintro e w5 ⟨rfl, hb5⟩
        have HB5 := Lib.hid hb5
        clear hb5
        go_wp2
        go_step3
        go_wp2
        have h0 : ClkR wr Pb D L F p v fs' h' i' w5 K := ⟨v.fs, p.hand, by
          have h9 := HX.out.1.below HB5.out
          have e9 : ({ p with fr := v.fs.map (·.1), hand := p.hand } : PM) = p := by rw [← HX.out.1.frs]
          rw [e9]
          exact h9, SameFs.refl _, HCL.out, Chg.of_below HB5.out _⟩
        have H0 := Lib.hid h0
        obtain ⟨wz, hwz⟩ : ∃ wz, wz = wr := ⟨_, rfl⟩
        subst hwz
        have HN := Lib.hid HX.out.2.2
        clear h0 HCF HB5 c2
        go_loopw [4, 5, 56, 62] (fun _ _ _ _ wq => ∃ k, ClkR wz Pb D L F p v fs' h' i' wq k) (fun _ _ _ _ wq => leastK (ClkR wz Pb D L F p v fs' h' i' wq))
        case atStart => exact ⟨K, H0.out⟩
        case round =>
          have hk := leastK_spec _ hrel
          obtain ⟨m, hm⟩ : ∃ m, leastK (ClkR wz Pb D L F p v fs' h' i' wr) = m := ⟨_, rfl⟩
          rw [hm] at hk
          obtain ⟨fsc, hc, hrep, hsame, hclk, hchg⟩ := hk
          obtain ⟨nn, hnn⟩ : ∃ nn, fsc.length = nn := ⟨_, rfl⟩
          have hhc : hc < nn := by rw [← hnn]; exact hrep.hand
          have hnb : nn ≤ 1024 := by rw [← hnn]; exact hrep.big
          obtain ⟨x, hx⟩ : ∃ x, fsc[hc]? = some x := ⟨_, List.getElem?_eq_getElem (by rw [hnn]; exact hhc)⟩
          obtain ⟨k0, k1, k2, k3, k4⟩ := fc5 hrep.fbl hx
          have c2 : wr.cell? ⟨Pb, 2, none⟩ = some (.slice (some ⟨v.G, 0, none⟩) nn nn) := by rw [hrep.cell 2]; simp [pcells, hnn]
          have c5 : wr.cell? ⟨Pb, 5, none⟩ = some (.int .i64 (hc : Int)) := by rw [hrep.cell 5]; simp [pcells]
          have z5 : wr.frozen? ⟨Pb, 5, none⟩ = false := hrep.free 5
          have hneG := hrep.neG
          have q0 : (0 : Int) ≤ (hc : Int) := by omega
          have q1 : (hc : Int) < (nn : Int) := by omega
          have q2 : (nn : Int) ≠ 0 := by omega
          have HW : Hid (wrap64 ((hc : Int) + 1) = (hc : Int) + 1) := by show _ = _; unfold wrap64; omega
          have hmod : ((hc : Int) + 1) % (nn : Int) = (((hc + 1) % nn : Nat) : Int) := by rw [Int.natCast_emod]; rfl
          have HY := Lib.hid (And.intro hrep (And.intro hsame (And.intro hclk (And.intro hchg (And.intro hnn (And.intro hx (And.intro hm hmod)))))))
          clear hrep hsame hclk hchg hnn hx hm hmod k0 k1 k2 k3 k4
          go_upto_region 11 with (fail)
          go_region
          obtain ⟨w6, hw6⟩ : ∃ w6, (wr.setCell ⟨Pb, 5, none⟩ (.int .i64 (((hc : Int) + 1) % (nn : Int)))).drew = w6 := ⟨_, rfl⟩
          rw [hw6]
          have ho6 : ∀ k, k ≠ Pb → w6.heap[k]? = wr.heap[k]? := fun k hk => by rw [← hw6]; exact setCell_heap wr ⟨Pb, 5, none⟩ _ k hk
          have hs6 : w6.heap.size = wr.heap.size := by rw [← hw6]; exact setCell_size wr _ _
          have hg6 : Chg (pfoot Pb v) (pfoot Pb v) wr w6 := by
            rw [← hw6]
            exact (chg_setCell wr ⟨Pb, 5, none⟩ _ (.inl rfl)).trans (chg_drew _)
          obtain ⟨hrep, hsame, hclk, hchg, hnn, hx, hm, hmod⟩ := HY.out
          have hb6 : w6.heap[Pb]? = some (.cells (pcells D L { v with fs := fsc } ((hc + 1) % nn)) 100 (0, 0)) := by
            rw [← hw6]
            refine (setCell_blk hrep.blk _).trans ?_
            rw [hmod]
            rfl
          have hrep6 : PRep w6 Pb D L F { p with fr := fsc.map (·.1), hand := (hc + 1) % nn } { v with fs := fsc } :=
            hrep.touch (fun k hk => HX.out.2.1 k hk) (fun k _ hk => ho6 k (fun e => hk (HX.out.2.1 k (.inl e)))) hb6 ((ho6 _ (Ne.symm hneG)).trans hrep.fbl) (SameFs.refl _) (ho6 _ (Ne.symm hrep.neMw)) (ho6 _ (Ne.symm hrep.neMd)) (by show _ < fsc.length; rw [hnn]; exact Nat.mod_lt _ (by omega))
          have hg6' := hchg.trans hg6
          obtain ⟨v1, v2, v3⟩ := hclk.inv hx
          rw [hnn] at v1 v2 v3
          have kk : ∀ j, j < 5 → w6.cell? ⟨v.G, hc * 5 + j, none⟩ = (f5 x)[j]? := fun j hj => by
            have h9 := hrep6.fcell hc j x hx hj
            rw [Nat.mul_comm] at h9
            exact h9
          have k2 : w6.cell? ⟨v.G, hc * 5 + 2, none⟩ = some (.int .i64 (x.1.pins : Int)) := kk 2 (by omega)
          have k3 : w6.cell? ⟨v.G, hc * 5 + 3, none⟩ = some (.bool x.1.touch) := kk 3 (by omega)
          have fr3 : w6.frozen? ⟨v.G, hc * 5 + 3, none⟩ = false := hrep6.ffree _
          obtain ⟨pn, hpn⟩ : ∃ pn, x.1.pins = pn := ⟨_, rfl⟩
          obtain ⟨tc, htc⟩ : ∃ tc, x.1.touch = tc := ⟨_, rfl⟩
          rw [hpn] at k2 v1 v2 v3
          rw [htc] at k3 v2 v3
          have HZ := Lib.hid (And.intro hrep6 (And.intro hsame (And.intro hg6' (And.intro hnn (And.intro hx (And.intro hm (And.intro v1 (And.intro v2 v3))))))))
          clear hrep hsame hclk hchg hnn hx hm hmod HY kk v1 v2 v3 hrep6 hg6' ho6 hs6 hg6 hb6 c2 c5 z5 hw6 hneG
          by_cases hp : 0 < pn
          · have hp' : (0 : Int) < (pn : Int) := by omega
            go_wp2
            go_roundw
            case rel =>
              obtain ⟨hrep6, hsame, hg6, hnn, hx, hm, v1, v2, v3⟩ := HZ.out
              obtain ⟨k, rfl, hk⟩ := v1 hp
              exact ⟨k, fsc, _, hrep6, hsame, hk, hg6⟩
            case measure =>
              obtain ⟨hrep6, hsame, hg6, hnn, hx, hm, v1, v2, v3⟩ := HZ.out
              obtain ⟨k, rfl, hk⟩ := v1 hp
              rw [hm]
              exact Nat.lt_succ_of_le (leastK_le _ k ⟨fsc, _, hrep6, hsame, hk, hg6⟩)
          · have hp0 : pn = 0 := by omega
            subst hp0
            cases tc with
            | true =>
              obtain ⟨w7, hw7⟩ : ∃ w7, w6.setCell ⟨v.G, hc * 5 + 3, none⟩ (.bool false) = w7 := ⟨_, rfl⟩
              clear hp
              go_wp2
              have hZ : ∃ k, m = k + 1 ∧ ClkR wz Pb D L F p v fs' h' i' w7 k := by
                obtain ⟨hrep6, hsame, hg6, hnn, hx, hm, v1, v2, v3⟩ := HZ.out
                obtain ⟨k, rfl, hk⟩ := v2 rfl rfl
                have ho7 : ∀ k, k ≠ v.G → w7.heap[k]? = w6.heap[k]? := fun k hk => by rw [← hw7]; exact setCell_heap w6 ⟨v.G, hc * 5 + 3, none⟩ _ k hk
                have hb7 : w7.heap[v.G]? = some (.cells (fcells (fsc.set hc ({ x.1 with touch := false }, x.2))).toArray 105 (0, 0)) := by
                  rw [← hw7]
                  refine (setCell_blk hrep6.fbl _).trans ?_
                  rw [Nat.mul_comm, fcells_set1 fsc hc 3 x ({ x.1 with touch := false }, x.2) (.bool false) hx (by omega) rfl]
                have hrep7 : PRep w7 Pb D L F { p with fr := (fsc.set hc ({ x.1 with touch := false }, x.2)).map (·.1), hand := (hc + 1) % nn } { v with fs := fsc.set hc ({ x.1 with touch := false }, x.2) } :=
                  hrep6.touch (fun k hk => HX.out.2.1 k hk) (fun k _ hk => ho7 k (fun e => hk (HX.out.2.1 k (.inr (.inl e))))) (by
                    rw [ho7 _ hrep6.neG]
                    refine hrep6.blk.trans ?_
                    simp [pcells]) hb7 (sameFs_touch hx false) (ho7 _ (Ne.symm hrep6.neGMw)) (ho7 _ (Ne.symm hrep6.neGMd)) (by show _ < fsc.length; rw [hnn]; exact Nat.mod_lt _ (by omega))
                exact ⟨k, rfl, _, _, hrep7, hsame.trans (sameFs_touch hx false), by
                  exact hk, hg6.trans (by rw [← hw7]; exact chg_setCell w6 ⟨v.G, hc * 5 + 3, none⟩ _ (.inr (.inl rfl)))⟩
              go_roundw
              case rel =>
                obtain ⟨k, rfl, hk⟩ := hZ
                exact ⟨k, hk⟩
              case measure =>
                have hm := HZ.out.2.2.2.2.2.1
                obtain ⟨k, rfl, hk⟩ := hZ
                rw [hm]
                exact Nat.lt_succ_of_le (leastK_le _ k hk)
            | false =>
              clear hp
              go_wp2
              (try rw [Exit.noGoto_ret])
              go_ret
              obtain ⟨hrep6, hsame, hg6, hnn, hx, hm, v1, v2, v3⟩ := HZ.out
              obtain ⟨rfl, rfl, rfl⟩ := v3 (by trivial) (by trivial)
              exact ⟨_, _, _, .clock HALL.out HCL.out, rfl, hrep6, hg6⟩
end Mun
end

section
/- Contracts of a pool: out (nothing changed), held, Unpin, Pins, Frames. -/
set_option maxRecDepth 100000
set_option linter.unusedVariables false
set_option linter.unusedSimpArgs false
namespace Mun
open Go Go.RowKit
open Go.Proofs

theorem zero_int : ∀ w, (zeroValue 3).run Tryz.prog w = .ok (.int .i64 0) w := fun w => by kernel_rfl
theorem infoI : (Tryz.prog.info? 3).map (fun i => (i.zero, i.size, i.bytes)) = some (some (.int .i64 0), 1, 8) := by kernel_rfl
def zv (l : List Int) : List Value := l.map fun n => Value.int .i64 n
theorem zv_append (a b : List Int) : zv (a ++ b) = zv a ++ zv b := by simp [zv]

/-- a number laid behind a row of numbers -/
theorem push_z {w : World} {B : Nat} {ty : TypeId} {v : Value} {n : Nat} {xs : List Int} (x : Int) (h : w.ownsRow B 3 1 v n (zv xs)) (hB : B ≤ w.heap.size) (hl : n < 16777216) :
    ∃ R cp w', (Builtin.append_ #[80, 80] ty #[v, .slice (some ⟨w.heap.size, 0, none⟩) 1 1]).run Tryz.prog (w.alloc (.cells #[.int .i64 x] 3)) = .ok (.slice (some ⟨R, 0, none⟩) (n + 1) cp) w' ∧
      w'.ownsRow B 3 1 (.slice (some ⟨R, 0, none⟩) (n + 1) cp) (n + 1) (zv (xs ++ [x])) ∧
      (w.alloc (.cells #[.int .i64 x] 3)).grownBy w' v.ownBlock ∧ (v.ownBlock = some R ∨ w.heap.size < R) ∧ R < w'.heap.size := by
  obtain ⟨i, hi, hz, h1, h2⟩ := info_of infoI
  have hsrc : RdV (fun _ => False) (w.alloc (.cells #[.int .i64 x] 3)) 1 (.slice (some ⟨w.heap.size, 0, none⟩) 1 1) 1 (zv [x]) :=
    ⟨rfl, _, _, rfl, Nat.le_refl _, by unfold maxLen; omega, by simp, fun _ => ⟨w.heap.size, 0, _, _, (0, 0), rfl, fun h => h, heap_alloc_new w _, rfl⟩⟩
  obtain ⟨v', w', hr, ho, hg, hob, hnil⟩ := run_append_rd (P := Tryz.prog) (base := B) (ty := ty) Tryz.underlying80 hi hz h1 h2 rfl (by decide) (World.ownsRow.alloc h _) hsrc
    (by intro u hu; simp only [zv, List.map_cons, List.map_nil, List.mem_cons, List.not_mem_nil, or_false] at hu; subst hu; rfl) (by omega) (by omega) (by simp; omega)
  rcases ho.2 with ⟨rfl, h0⟩ | ⟨R, cp, cur, rfl, hb, hR, hrest⟩
  · exact absurd (hnil.1 rfl).2 (by omega)
  · refine ⟨R, cp, w', hr, by rw [zv_append]; exact ho, hg, ?_, (Array.getElem?_eq_some_iff.1 hR).1⟩
    rcases hob with h3 | h3
    · exact .inl h3.symm
    · simp [Value.ownBlock] at h3; exact .inr (by omega)

theorem make_z (n : Nat) (hn : n ≤ 16777216) (w : World) : (Instr.makeSlice 80 (.int .i64 0) (.int .i64 n)).run Tryz.prog w = .ok (.slice (some ⟨w.heap.size, 0, none⟩) 0 n) (w.alloc (.cells (madeCells #[Value.int .i64 0] n) 3)) := by
  obtain ⟨i, hi, hz, h1, h2⟩ := info_of infoI
  have hr := run_make (P := Tryz.prog) w _ _ i _ Tryz.underlying80 hi hz .i64 .i64 0 n (by omega) (by omega) (by rw [h2]; omega) (by omega)
  rw [hr, h1]
  simp only [Int.toNat_natCast, Nat.mul_one]
  rfl

section
variable (w : World) (Pb D L : Nat) (F : Foot) (p : PM) (v : PLV)

/-- what the map tells -/
theorem PRep.ask {w : World} {Pb D L : Nat} {F : Foot} {p : PM} {v : PLV} (h : PRep w Pb D L F p v) (n : Int) :
    (Instr.lookup 97 (.map (some v.Mw)) (.int .i64 n) true).run Tryz.prog w = .ok (.tuple #[(alook v.es n).getD (.int .i64 0), .bool (alook v.es n).isSome]) w :=
  imap_lookup (P := Tryz.prog) Tryz.underlying97 Tryz.underlying3 (zero_int w) h.mp n

theorem out_no (h : PRep w Pb D L F p v) (i : Nat) (x : FV) (hx : v.fs[i]? = some x) (hq : x.1.pg < 0 ∨ x.1.chg = false) :
    Calls Tryz.prog 44 #[.pointer (some ⟨Pb, 0, none⟩), .pointer (some ⟨v.G, i * 5, none⟩)] w fun e w' => e = .returned (.int .i64 0) ∧ w = w' := by
  obtain ⟨k0, k1, k2, k3, k4⟩ := fc5 h.fbl hx
  obtain ⟨q, hq1⟩ : ∃ q, x.1.pg = q := ⟨_, rfl⟩
  obtain ⟨c, hc1⟩ : ∃ c, x.1.chg = c := ⟨_, rfl⟩
  rw [hq1] at k0 hq
  rw [hc1] at k4 hq
  clear h hx hq1 hc1 k1 k2 k3
  by_cases hn : q < 0
  · clear hq
    go_enter Tryz.func44, Tryz.ntmps44
    go_wp2
    go_ret
    exact ⟨rfl, rfl⟩
  · obtain rfl : c = false := hq.resolve_left hn
    have hn' : 0 ≤ q := by omega
    clear hq hn
    go_enter Tryz.func44, Tryz.ntmps44
    go_wp2
    go_ret
    exact ⟨rfl, rfl⟩

/-- a page that is in no frame, or in one that is not pinned -/
def NotHeld (v : PLV) (n : Int) : Prop := alook v.es n = none ∨ ∃ (i : Nat) (x : FV), v.fs[i]? = some x ∧ x.1.pg = n ∧ 0 ≤ n ∧ x.1.pins = 0

theorem held_no (h : PRep w Pb D L F p v) (n : Int) (hn : NotHeld v n) : Calls Tryz.prog 58 #[.pointer (some ⟨Pb, 0, none⟩), .int .i64 n] w fun e w' => e = .returned (.tuple #[.pointer none, .int .i64 18]) ∧ w = w' := by
  have c3 : w.cell? ⟨Pb, 3, none⟩ = some (.map (some v.Mw)) := by rw [h.cell 3]; simp [pcells]
  have hlk := h.ask n
  rcases hn with hn | ⟨i, x, hx, hp, h0, hpin⟩
  · rw [hn] at hlk
    simp only [Option.getD_none, Option.isSome_none] at hlk
    clear h hn
    go_enter Tryz.func58, Tryz.ntmps58
    go_wp2
    go_ret2
    exact ⟨rfl, rfl⟩
  · rw [← hp, h.mok.here i x hx (hp ▸ h0), hp] at hlk
    simp only [Option.getD_some, Option.isSome_some] at hlk
    obtain ⟨k0, k1, k2, k3, k4⟩ := fc5 h.fbl hx
    rw [hpin] at k2
    obtain ⟨m, hm⟩ : ∃ m, v.fs.length = m := ⟨_, rfl⟩
    have c2 : w.cell? ⟨Pb, 2, none⟩ = some (.slice (some ⟨v.G, 0, none⟩) m m) := by rw [h.cell 2]; simp [pcells, hm]
    have him : (i : Int) < (m : Int) := by have := (List.getElem?_eq_some_iff.1 hx).1; omega
    have hi0 : (0 : Int) ≤ (i : Int) := by omega
    clear h hx hp h0 hpin k0 k1 k3 k4 hm
    go_enter Tryz.func58, Tryz.ntmps58
    go_wp2
    go_ret2
    exact ⟨rfl, rfl⟩

theorem held_yes (h : PRep w Pb D L F p v) (n : Int) (i : Nat) (x : FV) (hx : v.fs[i]? = some x) (hp : x.1.pg = n) (h0 : 0 ≤ n) (hpin : 0 < x.1.pins) :
    Calls Tryz.prog 58 #[.pointer (some ⟨Pb, 0, none⟩), .int .i64 n] w fun e w' => e = .returned (.tuple #[.pointer (some ⟨v.G, i * 5, none⟩), .int .i64 0]) ∧ w = w' := by
  have c3 : w.cell? ⟨Pb, 3, none⟩ = some (.map (some v.Mw)) := by rw [h.cell 3]; simp [pcells]
  have hlk := h.ask n
  rw [← hp, h.mok.here i x hx (hp ▸ h0), hp] at hlk
  simp only [Option.getD_some, Option.isSome_some] at hlk
  obtain ⟨k0, k1, k2, k3, k4⟩ := fc5 h.fbl hx
  obtain ⟨m, hm⟩ : ∃ m, v.fs.length = m := ⟨_, rfl⟩
  have c2 : w.cell? ⟨Pb, 2, none⟩ = some (.slice (some ⟨v.G, 0, none⟩) m m) := by rw [h.cell 2]; simp [pcells, hm]
  have him : (i : Int) < (m : Int) := by have := (List.getElem?_eq_some_iff.1 hx).1; omega
  have hi0 : (0 : Int) ≤ (i : Int) := by omega
  obtain ⟨pn, hpn⟩ : ∃ pn, x.1.pins = pn := ⟨_, rfl⟩
  rw [hpn] at k2 hpin
  have hp1 : (pn : Int) ≠ 0 := by omega
  clear h hx hp h0 hpin k0 k1 k3 k4 hm hpn
  go_enter Tryz.func58, Tryz.ntmps58
  go_wp2
  go_ret2
  exact ⟨rfl, rfl⟩

theorem unpin_no (h : PRep w Pb D L F p v) (n : Int) (hn : NotHeld v n) : Calls Tryz.prog 23 #[.pointer (some ⟨Pb, 0, none⟩), .int .i64 n] w fun e w' => e = .returned (.int .i64 18) ∧ w = w' := by
  have hh := held_no w Pb D L F p v h n hn
  clear h hn
  go_enter Tryz.func23, Tryz.ntmps23
  go_wp2_with fail
  refine hh.mono ?_
  rintro e w' ⟨rfl, rfl⟩
  go_wp2
  go_ret
  exact ⟨rfl, rfl⟩

theorem pins_no (h : PRep w Pb D L F p v) (n : Int) (hn : alook v.es n = none) : Calls Tryz.prog 29 #[.pointer (some ⟨Pb, 0, none⟩), .int .i64 n] w fun e w' => e = .returned (.int .i64 0) ∧ w = w' := by
  have c3 : w.cell? ⟨Pb, 3, none⟩ = some (.map (some v.Mw)) := by rw [h.cell 3]; simp [pcells]
  have hlk := h.ask n
  rw [hn] at hlk
  simp only [Option.getD_none, Option.isSome_none] at hlk
  clear h hn
  go_enter Tryz.func29, Tryz.ntmps29
  go_wp2
  go_ret
  exact ⟨rfl, rfl⟩

theorem pins_yes (h : PRep w Pb D L F p v) (n : Int) (i : Nat) (x : FV) (hx : v.fs[i]? = some x) (hp : x.1.pg = n) (h0 : 0 ≤ n) :
    Calls Tryz.prog 29 #[.pointer (some ⟨Pb, 0, none⟩), .int .i64 n] w fun e w' => e = .returned (.int .i64 (x.1.pins : Int)) ∧ w = w' := by
  have c3 : w.cell? ⟨Pb, 3, none⟩ = some (.map (some v.Mw)) := by rw [h.cell 3]; simp [pcells]
  have hlk := h.ask n
  rw [← hp, h.mok.here i x hx (hp ▸ h0), hp] at hlk
  simp only [Option.getD_some, Option.isSome_some] at hlk
  obtain ⟨k0, k1, k2, k3, k4⟩ := fc5 h.fbl hx
  obtain ⟨m, hm⟩ : ∃ m, v.fs.length = m := ⟨_, rfl⟩
  have c2 : w.cell? ⟨Pb, 2, none⟩ = some (.slice (some ⟨v.G, 0, none⟩) m m) := by rw [h.cell 2]; simp [pcells, hm]
  have him : (i : Int) < (m : Int) := by have := (List.getElem?_eq_some_iff.1 hx).1; omega
  have hi0 : (0 : Int) ≤ (i : Int) := by omega
  obtain ⟨pn, hpn⟩ : ∃ pn, x.1.pins = pn := ⟨_, rfl⟩
  rw [hpn] at k2 ⊢
  clear h hx hp h0 k0 k1 k3 k4 hm hpn
  go_enter Tryz.func29, Tryz.ntmps29
  go_wp2
  go_ret
  exact ⟨rfl, rfl⟩
end
end Mun
end

section
/- Contracts of a pool: Unpin, Frames. -/
set_option maxRecDepth 100000
set_option linter.unusedVariables false
set_option linter.unusedSimpArgs false
namespace Mun
open Go Go.RowKit
open Go.Proofs

/-- one frame turned, its page as it was -/
theorem PRep.setF {w w' : World} {Pb D L : Nat} {F : Foot} {p : PM} {v : PLV} (h : PRep w Pb D L F p v) (hF : ∀ k, pfoot Pb v k → F k) {i : Nat} {x y : FV} (hx : v.fs[i]? = some x) (hpg : y.1.pg = x.1.pg)
    (hrd : RdB F w' y.2 y.1.b) (ho : ∀ k, k ≠ v.G → w'.heap[k]? = w.heap[k]?) (hG : w'.heap[v.G]? = some (.cells (fcells (v.fs.set i y)).toArray 105 (0, 0))) :
    PRep w' Pb D L F { p with fr := (v.fs.set i y).map (·.1) } { v with fs := v.fs.set i y } := by
  have hb : w'.heap[Pb]? = some (.cells (pcells D L { v with fs := v.fs.set i y, es := v.es } p.hand) 100 (0, 0)) := by
    rw [ho _ h.neG]
    refine h.blk.trans ?_
    simp [pcells]
  refine h.upd (fun k _ hk => ho k (fun e => hk (hF k (.inr (.inl e))))) (v.fs.set i y) v.es p.hand hb hG (by simp) (fun z hz => ?_) (h.mp.keep (ho _ (Ne.symm h.neGMw))) (h.mok.frames fun j => ?_) (ho _ (Ne.symm h.neGMd)) h.hand
  · rcases List.mem_or_eq_of_mem_set hz with h1 | h1
    · exact .inl h1
    · subst h1; exact .inr hrd
  · rw [List.getElem?_set]
    by_cases hij : i = j
    · subst hij
      have hl := (List.getElem?_eq_some_iff.1 hx).1
      simp [hl, hx, hpg]
      rw [List.getElem?_eq_getElem hl] at hx
      injection hx with hx
      rw [hx]
    · simp [hij]

theorem unpin_yes (w : World) (Pb D L : Nat) (F : Foot) (p : PM) (v : PLV) (h : PRep w Pb D L F p v) (hF : ∀ k, pfoot Pb v k → F k) (n : Int) (i : Nat) (x : FV) (hx : v.fs[i]? = some x) (hp : x.1.pg = n) (h0 : 0 ≤ n) (hpin : 0 < x.1.pins) (hsm : x.1.pins < 4611686018427387904) :
    Calls Tryz.prog 23 #[.pointer (some ⟨Pb, 0, none⟩), .int .i64 n] w fun e w' => e = .returned (.int .i64 0) ∧
      PRep w' Pb D L F { p with fr := (v.fs.set i ({ x.1 with pins := x.1.pins - 1 }, x.2)).map (·.1) } { v with fs := v.fs.set i ({ x.1 with pins := x.1.pins - 1 }, x.2) } ∧ Chg (pfoot Pb v) (pfoot Pb v) w w' := by
  have hh := held_yes w Pb D L F p v h n i x hx hp h0 hpin
  obtain ⟨k0, k1, k2, k3, k4⟩ := fc5 h.fbl hx
  have z2 : w.frozen? ⟨v.G, i * 5 + 2, none⟩ = false := h.ffree _
  have HX := Lib.hid (And.intro h (And.intro hF (And.intro hx hpin)))
  obtain ⟨pn, hpn⟩ : ∃ pn, x.1.pins = pn := ⟨_, rfl⟩
  rw [hpn] at k2 hsm
  have HPN := Lib.hid hpn
  have q1 : -9223372036854775808 ≤ (pn : Int) - 1 := by omega
  have q2 : (pn : Int) - 1 ≤ 9223372036854775807 := by omega
  obtain ⟨w7, hw7⟩ : ∃ w7, w.setCell ⟨v.G, i * 5 + 2, none⟩ (.int .i64 ((pn : Int) - 1)) = w7 := ⟨_, rfl⟩
  clear h hF hx hp h0 hpin k0 k1 k3 k4 hpn hsm
  go_enter Tryz.func23, Tryz.ntmps23
  go_wp2_with fail
  refine hh.mono ?_
  rintro e w' ⟨rfl, rfl⟩
  go_wp2
  go_ret
  obtain ⟨h, hF, hx, hpin⟩ := HX.out
  have ho7 : ∀ k, k ≠ v.G → w7.heap[k]? = w.heap[k]? := fun k hk => by rw [← hw7]; exact setCell_heap w ⟨v.G, i * 5 + 2, none⟩ _ k hk
  have hg7 : Chg (pfoot Pb v) (pfoot Pb v) w w7 := by rw [← hw7]; exact chg_setCell w ⟨v.G, i * 5 + 2, none⟩ _ (.inr (.inl rfl))
  have hc : ((x.1.pins - 1 : Nat) : Int) = (pn : Int) - 1 := by have := HPN.out; omega
  have hG7 : w7.heap[v.G]? = some (.cells (fcells (v.fs.set i ({ x.1 with pins := x.1.pins - 1 }, x.2))).toArray 105 (0, 0)) := by
    rw [← hw7]
    refine (setCell_blk h.fbl _).trans ?_
    rw [Nat.mul_comm i 5, fcells_set1 v.fs i 2 x ({ x.1 with pins := x.1.pins - 1 }, x.2) (.int .i64 ((pn : Int) - 1)) hx (by omega) (by rw [← hc]; rfl)]
  exact ⟨rfl, h.setF hF hx rfl (RdV.keep (h.rd x (List.mem_of_getElem? hx)) (fun k _ hk => ho7 k (fun e => hk (hF k (.inr (.inl e))))) (fun _ _ h => h)) ho7 hG7, hg7⟩

def pgsOf (v : PLV) : List Int := v.fs.map fun x => x.1.pg

def FramesOut (w : World) (v : PLV) (e : Ending) (w' : World) : Prop :=
  ∃ g c, e = .returned (.slice (some ⟨g, 0, none⟩) v.fs.length c) ∧ w'.ownsRow w.heap.size 3 1 (.slice (some ⟨g, 0, none⟩) v.fs.length c) v.fs.length (zv (pgsOf v)) ∧ Below w.heap.size w w'

theorem frames_any (w : World) (Pb D L : Nat) (F : Foot) (p : PM) (v : PLV) (h : PRep w Pb D L F p v) : Calls Tryz.prog 39 #[.pointer (some ⟨Pb, 0, none⟩)] w (FramesOut w v) := by
  obtain ⟨n, hn⟩ : ∃ n, v.fs.length = n := ⟨_, rfl⟩
  have c2 : w.cell? ⟨Pb, 2, none⟩ = some (.slice (some ⟨v.G, 0, none⟩) n n) := by rw [h.cell 2]; simp [pcells, hn]
  have hbig : n ≤ 1024 := by rw [← hn]; exact h.big
  have hmk := make_z n (by omega) w
  obtain ⟨w1, hw1⟩ : ∃ w1, w.alloc (.cells (madeCells #[Value.int .i64 0] n) 3) = w1 := ⟨_, rfl⟩
  have hb1 : Below w.heap.size w w1 := by rw [← hw1]; exact (Below.refl _ _).alloc (Nat.le_refl _) _
  have own1 : w1.ownsRow w.heap.size 3 1 (.slice (some ⟨w.heap.size, 0, none⟩) 0 n) 0 (zv ((pgsOf v).take 0)) := by
    refine ⟨by simp [zv], .inr ⟨w.heap.size, n, madeCells #[Value.int .i64 0] n, rfl, Nat.le_refl _, by rw [← hw1]; exact heap_alloc_new w _, Nat.zero_le _, by unfold maxLen; omega, by rw [size_madeCells]; omega, by simp [zv]⟩⟩
  have c2' : w1.cell? ⟨Pb, 2, none⟩ = some (.slice (some ⟨v.G, 0, none⟩) n n) := (World.cell?_of_block (hb1.block Pb (h.lt Pb (.inl rfl)))).trans c2
  have HX := Lib.hid (And.intro h (And.intro hn hbig))
  have H1 := Lib.hid (And.intro hb1 own1)
  have hn0 : (0 : Int) ≤ (n : Int) := by omega
  clear h hb1 own1 hbig
  unfold FramesOut
  rw [hn]
  clear hn
  go_enter Tryz.func39, Tryz.ntmps39
  go_wp2
  clear hmk hw1 c2 c2'
  go_loopw [3, 5, 17] (fun o _ j wr => ∃ (k : Nat) (g c : Nat), k ≤ n ∧ j = .int .i64 (k : Int) ∧ o = .slice (some ⟨g, 0, none⟩) k c ∧ wr.ownsRow w.heap.size 3 1 (.slice (some ⟨g, 0, none⟩) k c) k (zv ((pgsOf v).take k)) ∧ Below w.heap.size w wr) (fun _ _ j _ => n - (intOf j).toNat)
  case atStart => exact ⟨0, w.heap.size, n, by omega, rfl, rfl, H1.out.2, H1.out.1⟩
  case round =>
    obtain ⟨k, g, c, hk, rfl, rfl, hown, hbr⟩ := hrel
    rcases Nat.lt_or_eq_of_le hk with hlt | rfl
    · obtain ⟨x, hx⟩ : ∃ x, v.fs[k]? = some x := ⟨_, List.getElem?_eq_getElem (by rw [HX.out.2.1]; exact hlt)⟩
      have hGr : wr.heap[v.G]? = some (.cells (fcells v.fs).toArray 105 (0, 0)) := (hbr.block v.G (HX.out.1.lt _ (.inr (.inl rfl)))).trans HX.out.1.fbl
      obtain ⟨k0, k1, k2, k3, k4⟩ := fc5 hGr hx
      obtain ⟨f1, f3, f4, f6, e1, e3, e4, e5⟩ : ∃ a c d e, x.1.pg = a ∧ x.1.pins = c ∧ x.1.touch = d ∧ x.1.chg = e := ⟨_, _, _, _, rfl, rfl, rfl, rfl⟩
      obtain ⟨sa, sn, sc, e2, -⟩ := (HX.out.1.rd x (List.mem_of_getElem? hx)).formN
      rw [e1] at k0
      rw [e2] at k1
      rw [e3] at k2
      rw [e4] at k3
      rw [e5] at k4
      have q1 : (k : Int) < (n : Int) := by omega
      have q0 : (0 : Int) ≤ (k : Int) := by omega
      obtain ⟨w2, hw2⟩ : ∃ w2, wr.alloc (.cells #[.int .i64 f1, .slice sa sn sc, .int .i64 (f3 : Int), .bool f4, .bool f6] 105) = w2 := ⟨_, rfl⟩
      have hown2 : w2.ownsRow w.heap.size 3 1 (.slice (some ⟨g, 0, none⟩) k c) k (zv ((pgsOf v).take k)) := by rw [← hw2]; exact World.ownsRow.alloc hown _
      have hb2 : Below w.heap.size w w2 := by rw [← hw2]; exact hbr.alloc hbr.size _
      have cn : w2.cell? ⟨wr.heap.size, 0, none⟩ = some (.int .i64 f1) := by
        have h9 : w2.heap[wr.heap.size]? = some (.cells #[.int .i64 f1, .slice sa sn sc, .int .i64 (f3 : Int), .bool f4, .bool f6] 105 (0, 0)) := by rw [← hw2]; exact heap_alloc_new wr _
        exact cell_of_row w2 _ 0 _ _ _ h9
      obtain ⟨R, cp, w9, hr9, ho9, hg9, hor9, -⟩ := push_z (w := w2) (ty := 80) f1 hown2 hb2.size (by have := HX.out.2.2; omega)
      have h9 : Hid (w9.ownsRow w.heap.size 3 1 (.slice (some ⟨R, 0, none⟩) (k + 1) cp) (k + 1) (zv ((pgsOf v).take (k + 1))) ∧ Below w.heap.size w w9) := by
        refine ⟨?_, (hb2.alloc hb2.size _).grown hg9 (by have := hb2.size; simp; omega) (fun k hk => (hown2.lt k hk).1)⟩
        have ht : (pgsOf v).take (k + 1) = (pgsOf v).take k ++ [f1] := by
          rw [List.take_add_one]
          congr 1
          unfold pgsOf
          rw [List.getElem?_map, hx, ← e1]
          rfl
        rw [ht]
        exact ho9
      have HR9 := Lib.hid hr9
      have HJ := Lib.hid hlt
      have HWJ : Hid (wrap64 ((k : Int) + 1) = (k : Int) + 1) := by show _ = _; have h9 := HX.out.2.2; unfold wrap64; omega
      clear hx hGr e1 e2 e3 e4 e5 hown hown2 hbr hb2 hr9 ho9 hg9 hor9 hlt hk
      go_wp2_with (first | (at_builtin; refine wpList_append_eq rfl rfl HR9.out rfl rfl ?_) | rw [hw2])
      go_roundw
      case rel => exact ⟨k + 1, _, _, by have := HJ.out; omega, by rw [HWJ.out]; rfl, rfl, h9.out.1, h9.out.2⟩
      case measure => have := HJ.out; rw [HWJ.out]; simp [intOf]; omega
    · have hfin : Hid (wr.ownsRow w.heap.size 3 1 (.slice (some ⟨g, 0, none⟩) k c) k (zv (pgsOf v)) ∧ Below w.heap.size w wr) := by
        rw [List.take_of_length_le (by unfold pgsOf; rw [List.length_map, HX.out.2.1]; exact Nat.le_refl _)] at hown
        exact ⟨hown, hbr⟩
      clear hown hbr hk
      go_wp2
      go_ret
      exact ⟨g, c, rfl, hfin.out.1, hfin.out.2⟩
end Mun
end
