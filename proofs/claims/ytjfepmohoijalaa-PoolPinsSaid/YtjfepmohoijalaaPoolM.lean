/- How a pool lies in memory: its own block, its frames, the map of its pages, the map of its dirty pages. -/
import Derived.Test.YtjfepmohoijalaaMapJ
import Derived.Test.YtjfepmohoijalaaDiskB
set_option maxRecDepth 100000
set_option linter.unusedVariables false
set_option linter.unusedSimpArgs false
namespace Mun
open Go Go.RowKit
open Go.Proofs

/-- a frame: its page (-1: none), its bytes, how often it is pinned, its touch, whether it was changed -/
structure FM where
  pg : Int
  b : Bytes
  pins : Nat
  touch : Bool
  chg : Bool

def FM.none : FM := ⟨-1, [], 0, false, false⟩

/-- a pool: frames, dirty pages, the hand -/
structure PM where
  fr : List FM
  dt : List (Int × (Nat × Bool))
  hand : Nat

abbrev FV := FM × Value

def f5 (x : FV) : List Value := [.int .i64 x.1.pg, x.2, .int .i64 (x.1.pins : Int), .bool x.1.touch, .bool x.1.chg]
def fcells (fs : List FV) : List Value := fs.flatMap f5
def dlook (dt : List (Int × (Nat × Bool))) (n : Int) : Option (Nat × Bool) := (dt.find? (·.1 == n)).map (·.2)
def dval (x : Nat × Bool) : Value := .agg #[.int .u64 (x.1 : Int), .bool x.2]

structure PLV where
  G : Nat
  Mw : Nat
  Md : Nat
  fs : List FV
  es : List (Int × Value)
  ds : List (Int × Value)

def pfoot (Pb : Nat) (v : PLV) : Foot := fun k => k = Pb ∨ k = v.G ∨ k = v.Mw ∨ k = v.Md
def pcells (D L : Nat) (v : PLV) (hand : Nat) : Array Value := #[.pointer (some ⟨D, 0, none⟩), .pointer (some ⟨L, 0, none⟩), .slice (some ⟨v.G, 0, none⟩) v.fs.length v.fs.length, .map (some v.Mw), .map (some v.Md), .int .i64 (hand : Int)]

/-- the map of the pages tells the frames -/
structure MapOk (fs : List FV) (es : List (Int × Value)) : Prop where
  here : ∀ (i : Nat) (x : FV), fs[i]? = some x → 0 ≤ x.1.pg → alook es x.1.pg = some (.int .i64 (i : Int))
  there : ∀ n u, alook es n = some u → 0 ≤ n ∧ ∃ (i : Nat) (x : FV), u = .int .i64 (i : Int) ∧ fs[i]? = some x ∧ x.1.pg = n

structure PRep (w : World) (Pb D L : Nat) (F : Foot) (p : PM) (v : PLV) : Prop where
  blk : w.heap[Pb]? = some (.cells (pcells D L v p.hand) 53 (0, 0))
  fbl : w.heap[v.G]? = some (.cells (fcells v.fs).toArray 58 (0, 0))
  frs : p.fr = v.fs.map (·.1)
  rd : ∀ x ∈ v.fs, RdB F w x.2 x.1.b
  mp : IMap w v.Mw v.es
  mok : MapOk v.fs v.es
  dm : IMap w v.Md v.ds
  dlk : ∀ n, alook v.ds n = (dlook p.dt n).map dval
  ne : v.Mw ≠ v.Md
  hand : p.hand < v.fs.length
  big : v.fs.length ≤ 1024

theorem f5_len (x : FV) : (f5 x).length = 5 := rfl
theorem fcells_len (fs : List FV) : (fcells fs).length = 5 * fs.length := by
  induction fs with
  | nil => rfl
  | cons x fs ih => simp only [fcells, List.flatMap_cons, List.length_append, f5_len] at ih ⊢; rw [ih, List.length_cons]; omega
theorem fcells_get (fs : List FV) : ∀ (i k : Nat) (x : FV), fs[i]? = some x → k < 5 → (fcells fs)[5 * i + k]? = (f5 x)[k]? := by
  induction fs with
  | nil => intro i k x h; simp at h
  | cons y fs ih =>
    intro i k x h hk
    cases i with
    | zero =>
      simp only [List.getElem?_cons_zero, Option.some.injEq] at h
      subst h
      rw [show 5 * 0 + k = k by omega]
      simp only [fcells, List.flatMap_cons]
      rw [List.getElem?_append_left (by rw [f5_len]; exact hk)]
    | succ i =>
      simp only [List.getElem?_cons_succ] at h
      simp only [fcells, List.flatMap_cons]
      rw [List.getElem?_append_right (by rw [f5_len]; omega), f5_len, show 5 * (i + 1) + k - 5 = 5 * i + k by omega]
      exact ih i k x h hk
theorem fcells_set (fs : List FV) : ∀ (i k : Nat) (x y : FV) (u : Value), fs[i]? = some x → k < 5 → f5 y = (f5 x).set k u → (fcells fs).set (5 * i + k) u = fcells (fs.set i y) := by
  induction fs with
  | nil => intro i k x y u h; simp at h
  | cons z fs ih =>
    intro i k x y u h hk hy
    cases i with
    | zero =>
      simp only [List.getElem?_cons_zero, Option.some.injEq] at h
      subst h
      rw [show 5 * 0 + k = k by omega]
      simp only [fcells, List.flatMap_cons, List.set_cons_zero, hy]
      rw [List.set_append_left _ _ (by rw [f5_len]; exact hk)]
    | succ i =>
      simp only [List.getElem?_cons_succ] at h
      simp only [fcells, List.flatMap_cons, List.set_cons_succ]
      rw [List.set_append_right _ _ (by rw [f5_len]; omega), f5_len, show 5 * (i + 1) + k - 5 = 5 * i + k by omega]
      rw [show (List.flatMap f5 fs).set (5 * i + k) u = List.flatMap f5 (fs.set i y) from ih i k x y u h hk hy]
theorem fcells_set1 (fs : List FV) (i k : Nat) (x y : FV) (u : Value) (h : fs[i]? = some x) (hk : k < 5) (hy : f5 y = (f5 x).set k u) : (fcells fs).toArray.setIfInBounds (5 * i + k) u = (fcells (fs.set i y)).toArray := by
  rw [← fcells_set fs i k x y u h hk hy]
  simp

section
variable {w w' : World} {Pb D L : Nat} {F F' : Foot} {p p' : PM} {v v' : PLV}

theorem PRep.neG (h : PRep w Pb D L F p v) : Pb ≠ v.G := blk_ne h.blk h.fbl (by decide)
theorem PRep.neMw (h : PRep w Pb D L F p v) : Pb ≠ v.Mw := blk_ne_map h.blk h.mp
theorem PRep.neMd (h : PRep w Pb D L F p v) : Pb ≠ v.Md := blk_ne_map h.blk h.dm
theorem PRep.neGMw (h : PRep w Pb D L F p v) : v.G ≠ v.Mw := blk_ne_map h.fbl h.mp
theorem PRep.neGMd (h : PRep w Pb D L F p v) : v.G ≠ v.Md := blk_ne_map h.fbl h.dm
theorem PRep.lt (h : PRep w Pb D L F p v) (k : Nat) (hk : pfoot Pb v k) : k < w.heap.size := by
  rcases hk with rfl | rfl | rfl | rfl
  · exact (Array.getElem?_eq_some_iff.1 h.blk).1
  · exact (Array.getElem?_eq_some_iff.1 h.fbl).1
  · exact h.mp.lt
  · exact h.dm.lt
theorem PRep.cell (h : PRep w Pb D L F p v) (i : Nat) : w.cell? ⟨Pb, i, none⟩ = (pcells D L v p.hand)[i]? := cell_of_row w Pb i _ _ _ h.blk
theorem PRep.free (h : PRep w Pb D L F p v) (i : Nat) : w.frozen? ⟨Pb, i, none⟩ = false := by simp [World.frozen?, h.blk]
theorem PRep.fcell (h : PRep w Pb D L F p v) (i k : Nat) (x : FV) (hx : v.fs[i]? = some x) (hk : k < 5) : w.cell? ⟨v.G, 5 * i + k, none⟩ = (f5 x)[k]? := by
  rw [cell_of_row w v.G _ _ _ _ h.fbl]
  simp only [List.getElem?_toArray]
  exact fcells_get v.fs i k x hx hk
theorem PRep.ffree (h : PRep w Pb D L F p v) (i : Nat) : w.frozen? ⟨v.G, i, none⟩ = false := by simp [World.frozen?, h.fbl]

/-- a pool stays, where nothing of it is turned -/
theorem PRep.keep (h : PRep w Pb D L F p v) (hk : ∀ k, k < w.heap.size → (pfoot Pb v k ∨ ¬ F k) → w'.heap[k]? = w.heap[k]?) (hF : ∀ k, k < w.heap.size → F' k → F k) : PRep w' Pb D L F' p v := by
  have kp : ∀ k, pfoot Pb v k → w'.heap[k]? = w.heap[k]? := fun k h' => hk k (h.lt k h') (.inl h')
  exact ⟨(kp Pb (.inl rfl)).trans h.blk, (kp _ (.inr (.inl rfl))).trans h.fbl, h.frs, fun x hx => RdV.keep (h.rd x hx) (fun k h1 h2 => hk k h1 (.inr h2)) hF, h.mp.keep (kp _ (.inr (.inr (.inl rfl)))), h.mok, h.dm.keep (kp _ (.inr (.inr (.inr rfl)))), h.dlk, h.ne, h.hand, h.big⟩
theorem PRep.below (h : PRep w Pb D L F p v) (hb : Below w.heap.size w w') : PRep w' Pb D L F p v := h.keep (fun k hk _ => hb.block k hk) (fun _ _ h => h)

/-- a pool whose frames, pages and hand have turned -/
theorem PRep.upd (h : PRep w Pb D L F p v) (hk : ∀ k, k < w.heap.size → ¬ F k → w'.heap[k]? = w.heap[k]?) (fs : List FV) (es : List (Int × Value)) (hand : Nat)
    (hb : w'.heap[Pb]? = some (.cells (pcells D L { v with fs := fs, es := es } hand) 53 (0, 0))) (hG : w'.heap[v.G]? = some (.cells (fcells fs).toArray 58 (0, 0)))
    (hl : fs.length = v.fs.length) (hr : ∀ x ∈ fs, x ∈ v.fs ∨ RdB F w' x.2 x.1.b) (hM : IMap w' v.Mw es) (hmo : MapOk fs es) (hd : w'.heap[v.Md]? = w.heap[v.Md]?) (hh : hand < v.fs.length) :
    PRep w' Pb D L F { p with fr := fs.map (·.1), hand := hand } { v with fs := fs, es := es } :=
  ⟨hb, hG, rfl, fun x hx => (hr x hx).elim (fun h1 => RdV.keep (h.rd x h1) hk (fun _ _ h => h)) id, hM, hmo, h.dm.keep hd, h.dlk, h.ne, by rw [← hl] at hh; exact hh, by show fs.length ≤ 1024; rw [hl]; exact h.big⟩

/-- frames turned, the pages as they were -/
theorem MapOk.frames {fs fs' : List FV} {es : List (Int × Value)} (h : MapOk fs es) (hg : ∀ i : Nat, (fs'[i]?).map (fun x : FV => x.1.pg) = (fs[i]?).map (fun x : FV => x.1.pg)) : MapOk fs' es := by
  refine ⟨fun i x hx h0 => ?_, fun n u hu => ?_⟩
  · have h1 := hg i
    rw [hx] at h1
    cases hf : fs[i]? with
    | none => rw [hf] at h1; simp at h1
    | some y =>
      rw [hf] at h1
      simp only [Option.map_some, Option.some.injEq] at h1
      rw [h1] at h0 ⊢
      exact h.here i y hf h0
  · obtain ⟨h0, i, x, rfl, hx, hp⟩ := h.there n u hu
    have h1 := hg i
    rw [hx] at h1
    cases hf : fs'[i]? with
    | none => rw [hf] at h1; simp at h1
    | some y =>
      rw [hf] at h1
      simp only [Option.map_some, Option.some.injEq] at h1
      exact ⟨h0, i, y, rfl, hf, by rw [h1]; exact hp⟩
/-- two frames hold no page both -/
theorem MapOk.one {fs : List FV} {es : List (Int × Value)} (h : MapOk fs es) {i j : Nat} {x y : FV} (hx : fs[i]? = some x) (hy : fs[j]? = some y) (he : x.1.pg = y.1.pg) (h0 : 0 ≤ x.1.pg) : i = j := by
  have h1 := h.here i x hx h0
  rw [he, h.here j y hy (he ▸ h0)] at h1
  injection h1 with h1
  injection h1 with _ h1
  omega
end
end Mun
