/- Texts of mine, one behind the other: LockT, LockU, TbA, LockV, LockW, TbB. -/
import Derived.Test.YtbdkhegfmnladaaMgC
import Derived.Test.YtbdkhegfmnladaaMgA
section
/- How a whole table of locks lies; what a step does to it. -/
set_option maxRecDepth 100000
set_option linter.unusedVariables false
set_option linter.unusedSimpArgs false
namespace Mun
open Go Go.RowKit
open Go.Proofs

/-- a place: its block, its holders' map, its queue; who holds what; who waits, for what -/
structure PV where
  p : Nat
  H : Nat
  q : Value
  hs : List (Int × Int)
  qs : List (Int × Int)
/-- a table: its blocks; the places by names; who waits where; what names an owner holds -/
structure TV where
  T : Nat
  P : Nat
  W : Nat
  N : Nat
  pl : List (ByteArray × PV)
  ws : List (Int × (ByteArray × Int))
  nm : List (Int × (Nat × List ByteArray))

def hsV (l : List (Int × Int)) : UL := l.map fun a => (a.1, .int .i64 a.2)
def wsV (l : List (Int × (ByteArray × Int))) : UL := l.map fun a => (a.1, .agg #[.string a.2.1, .int .i64 a.2.2])
def plV (l : List (ByteArray × PV)) : BL := l.map fun a => (a.1, .pointer (some ⟨a.2.p, 0, none⟩))
def nmV (l : List (Int × (Nat × List ByteArray))) : UL := l.map fun a => (a.1, .map (some a.2.1))
def setV (l : List ByteArray) : BL := l.map fun s => (s, .agg #[])
def acells (l : List (Int × Int)) : List Value := l.flatMap fun a => [.int .u64 a.1, .int .i64 a.2]
theorem acells_length (l : List (Int × Int)) : (acells l).length = l.length * 2 := by
  induction l with
  | nil => rfl
  | cons a l ih => simp only [acells, List.flatMap_cons, List.length_append, List.length_cons, List.length_nil] at ih ⊢; omega

/-- the block of a slice -/
def qblk : Value → Option Nat
  | .slice (some a) _ _ => some a.block
  | _ => none
/-- a queue: a slice of asks, in a block of asks, its spare room in that block too -/
def QAt (w : World) (q : Value) (l : List (Int × Int)) : Prop :=
  (q = .slice none 0 0 ∧ l = []) ∨ ∃ g off c cur, q = .slice (some ⟨g, off, none⟩) l.length c ∧ w.heap[g]? = some (.cells cur 77 (0, 0)) ∧ l.length ≤ c ∧ c ≤ maxLen ∧ off + c * 2 ≤ cur.size ∧ (cur.toList.drop off).take (l.length * 2) = acells l
theorem QAt.keep {w w' : World} {q : Value} {l : List (Int × Int)} (h : QAt w q l) (hk : ∀ g, qblk q = some g → w'.heap[g]? = w.heap[g]?) : QAt w' q l := by
  rcases h with h | ⟨g, off, c, cur, rfl, h1, rest⟩
  · exact .inl h
  · exact .inr ⟨g, off, c, cur, rfl, (hk g rfl).trans h1, rest⟩
theorem QAt.blk {w : World} {q : Value} {l : List (Int × Int)} (h : QAt w q l) {g : Nat} (hg : qblk q = some g) : ∃ cur, w.heap[g]? = some (.cells cur 77 (0, 0)) := by
  rcases h with ⟨rfl, _⟩ | ⟨g', off, c, cur, rfl, h1, rest⟩
  · simp [qblk] at hg
  · simp only [qblk, Option.some.injEq] at hg
    subst hg
    exact ⟨cur, h1⟩

structure TabR (w : World) (t : TV) : Prop where
  tab : TabAt w t.T t.P t.W t.N (plV t.pl) (wsV t.ws) (nmV t.nm)
  pls : ∀ (i : Nat) (x : ByteArray × PV), t.pl[i]? = some x → PlAt w x.2.p x.2.H x.2.q (hsV x.2.hs) ∧ QAt w x.2.q x.2.qs
  nms : ∀ (i : Nat) (y : Int × (Nat × List ByteArray)), t.nm[i]? = some y → GMap w y.2.1 (setV y.2.2)
  d0 : t.P ≠ t.W ∧ t.P ≠ t.N ∧ t.W ≠ t.N
  dH : ∀ (i : Nat) (x : ByteArray × PV), t.pl[i]? = some x → x.2.H ≠ t.P ∧ x.2.H ≠ t.W ∧ x.2.H ≠ t.N
  dM : ∀ (i : Nat) (y : Int × (Nat × List ByteArray)), t.nm[i]? = some y → y.2.1 ≠ t.P ∧ y.2.1 ≠ t.W ∧ y.2.1 ≠ t.N
  dHH : ∀ (i j : Nat) (x y : ByteArray × PV), i ≠ j → t.pl[i]? = some x → t.pl[j]? = some y → x.2.H ≠ y.2.H ∧ x.2.p ≠ y.2.p ∧ ∀ g, qblk x.2.q = some g → qblk y.2.q ≠ some g
  dMM : ∀ (i j : Nat) (x y : Int × (Nat × List ByteArray)), i ≠ j → t.nm[i]? = some x → t.nm[j]? = some y → x.2.1 ≠ y.2.1
  dHM : ∀ (i j : Nat) (x : ByteArray × PV) (y : Int × (Nat × List ByteArray)), t.pl[i]? = some x → t.nm[j]? = some y → x.2.H ≠ y.2.1

section
variable {w w' : World} {t : TV}
theorem TabR.keep (h : TabR w t) (hk : ∀ k, k < w.heap.size → w'.heap[k]? = w.heap[k]?) : TabR w' t :=
  ⟨h.tab.keep hk, fun i x hx => ⟨(h.pls i x hx).1.keep hk, (h.pls i x hx).2.keep (fun g hg => by obtain ⟨cur, hc⟩ := (h.pls i x hx).2.blk hg; exact hk g (Array.getElem?_eq_some_iff.1 hc).1)⟩,
    fun i y hy => (h.nms i y hy).keep (hk _ (h.nms i y hy).lt), h.d0, h.dH, h.dM, h.dHH, h.dMM, h.dHM⟩
theorem cells_ne_map {α : Type} [DecidableEq α] [KeyT α] {M y : Nat} {es : List (α × Value)} {cs : Array Value} {ty : TypeId} {fr : Nat × Nat} (h : GMap w M es) (hy : w.heap[y]? = some (.cells cs ty fr)) : y ≠ M := by
  rintro rfl
  obtain ⟨l, c, h, -⟩ := h
  rw [h.2.2.2] at hy
  cases hy
theorem cells_ty_ne {y z : Nat} {cs cs' : Array Value} {ty ty' : TypeId} {fr fr' : Nat × Nat} (h1 : w.heap[y]? = some (.cells cs ty fr)) (h2 : w.heap[z]? = some (.cells cs' ty' fr')) (hne : ty ≠ ty') : y ≠ z := by
  rintro rfl
  rw [h1] at h2
  injection h2 with h2
  injection h2 with _ h2 _
  exact hne h2
theorem set_cases {β : Type} {l : List β} {i j : Nat} {a b : β} (h : (l.set i a)[j]? = some b) : (i = j ∧ b = a ∧ i < l.length) ∨ (i ≠ j ∧ l[j]? = some b) := by
  by_cases hij : i = j
  · subst hij
    rw [List.getElem?_set] at h
    simp only [if_true] at h
    split at h
    · rename_i hi
      injection h with h
      exact .inl ⟨rfl, h.symm, hi⟩
    · cases h
  · rw [List.getElem?_set_ne hij] at h
    exact .inr ⟨hij, h⟩
theorem map_set_same {β γ : Type} (f : β → γ) {l : List β} {i : Nat} {a b : β} (hb : l[i]? = some b) (h : f a = f b) : (l.set i a).map f = l.map f := by
  apply List.ext_getElem?
  intro j
  rw [List.getElem?_map, List.getElem?_map, List.getElem?_set]
  by_cases hij : i = j
  · subst hij
    obtain ⟨hi, rfl⟩ := List.getElem?_eq_some_iff.1 hb
    simp [hi, h]
  · simp [hij]

/-- the map of a place's holders turned -/
theorem TabR.held (h : TabR w t) {i : Nat} {x : ByteArray × PV} (hx : t.pl[i]? = some x) {hs : List (Int × Int)} (hg : GMap w' x.2.H (hsV hs)) (hk : ∀ k, k < w.heap.size → k ≠ x.2.H → w'.heap[k]? = w.heap[k]?) :
    TabR w' { t with pl := t.pl.set i (x.1, { x.2 with hs := hs }) } := by
  obtain ⟨⟨hb, hH⟩, hQ⟩ := h.pls i x hx
  obtain ⟨e1, e2, e3⟩ := h.dH i x hx
  have hpv : plV (t.pl.set i (x.1, { x.2 with hs := hs })) = plV t.pl := map_set_same _ hx rfl
  have hne : ∀ {y : Nat} {cs : Array Value} {ty : TypeId} {fr : Nat × Nat}, w.heap[y]? = some (.cells cs ty fr) → w'.heap[y]? = w.heap[y]? := fun hy => hk _ (Array.getElem?_eq_some_iff.1 hy).1 (cells_ne_map hH hy)
  have hidx : ∀ (j : Nat) (y : ByteArray × PV), (t.pl.set i (x.1, { x.2 with hs := hs }))[j]? = some y → ∃ z, t.pl[j]? = some z ∧ y.1 = z.1 ∧ y.2.p = z.2.p ∧ y.2.H = z.2.H ∧ y.2.q = z.2.q := fun j y hy => by
    rcases set_cases hy with ⟨rfl, rfl, -⟩ | ⟨-, h1⟩
    · exact ⟨x, hx, rfl, rfl, rfl, rfl⟩
    · exact ⟨y, h1, rfl, rfl, rfl, rfl⟩
  refine ⟨⟨(hne h.tab.blk).trans h.tab.blk, ?_, h.tab.wt.keep (hk _ h.tab.wt.lt (Ne.symm e2)), h.tab.nm.keep (hk _ h.tab.nm.lt (Ne.symm e3))⟩, fun j y hy => ?_, fun j y hy => (h.nms j y hy).keep (hk _ (h.nms j y hy).lt (Ne.symm (h.dHM i j x y hx hy))), h.d0, fun j y hy => ?_, h.dM, fun j k y z hjk hy hz => ?_, h.dMM, fun j k y z hy hz => ?_⟩
  · show GMap w' t.P (plV (t.pl.set i _))
    rw [hpv]
    exact h.tab.pl.keep (hk _ h.tab.pl.lt (Ne.symm e1))
  · rcases set_cases hy with ⟨rfl, rfl, -⟩ | ⟨hij, h1⟩
    · exact ⟨⟨(hne hb).trans hb, hg⟩, hQ.keep (fun g hg2 => by obtain ⟨cur, hc⟩ := hQ.blk hg2; exact hne hc)⟩
    · obtain ⟨⟨hb2, hH2⟩, hQ2⟩ := h.pls j y h1
      exact ⟨⟨(hne hb2).trans hb2, hH2.keep (hk _ hH2.lt (h.dHH i j x y hij hx h1).1.symm)⟩, hQ2.keep (fun g hg2 => by obtain ⟨cur, hc⟩ := hQ2.blk hg2; exact hne hc)⟩
  · obtain ⟨z, h1, -, -, h2, -⟩ := hidx j y hy
    rw [h2]
    exact h.dH j z h1
  · obtain ⟨y', h1, -, h2, h3, h4⟩ := hidx j y hy
    obtain ⟨z', g1, -, g2, g3, g4⟩ := hidx k z hz
    rw [h2, h3, h4, g2, g3, g4]
    exact h.dHH j k y' z' hjk h1 g1
  · obtain ⟨y', h1, -, -, h3, -⟩ := hidx j y hy
    rw [h3]
    exact h.dHM j k y' z h1 hz

/-- a place's queue turned -/
theorem TabR.queue (h : TabR w t) {i : Nat} {x : ByteArray × PV} (hx : t.pl[i]? = some x) {q : Value} {qs : List (Int × Int)} (hp : w'.heap[x.2.p]? = some (.cells #[.map (some x.2.H), q] 71 (0, 0))) (hq : QAt w' q qs)
    (hqb : ∀ g, qblk q = some g → qblk x.2.q = some g ∨ w.heap.size ≤ g) (hk : ∀ k, k < w.heap.size → k ≠ x.2.p → (∀ g, qblk x.2.q = some g → k ≠ g) → w'.heap[k]? = w.heap[k]?) :
    TabR w' { t with pl := t.pl.set i (x.1, { x.2 with q := q, qs := qs }) } := by
  obtain ⟨⟨hb, hH⟩, hQ⟩ := h.pls i x hx
  have hpv : plV (t.pl.set i (x.1, { x.2 with q := q, qs := qs })) = plV t.pl := map_set_same _ hx rfl
  have hmap : ∀ {α : Type} [DecidableEq α] [KeyT α] {M : Nat} {es : List (α × Value)}, GMap w M es → GMap w' M es := fun hM => hM.keep (hk _ hM.lt (Ne.symm (cells_ne_map hM hb)) (fun g hg => by obtain ⟨cur, hc⟩ := hQ.blk hg; exact (Ne.symm (cells_ne_map hM hc))))
  have hoth : ∀ (j : Nat) (y : ByteArray × PV), i ≠ j → t.pl[j]? = some y → PlAt w' y.2.p y.2.H y.2.q (hsV y.2.hs) ∧ QAt w' y.2.q y.2.qs := fun j y hij hy => by
    obtain ⟨⟨hb2, hH2⟩, hQ2⟩ := h.pls j y hy
    obtain ⟨d1, d2, d3⟩ := h.dHH i j x y hij hx hy
    refine ⟨⟨(hk _ (Array.getElem?_eq_some_iff.1 hb2).1 d2.symm (fun g hg => by obtain ⟨cur, hc⟩ := hQ.blk hg; exact cells_ty_ne hb2 hc (by decide))).trans hb2, hmap hH2⟩, hQ2.keep (fun g hg => ?_)⟩
    obtain ⟨cur, hc⟩ := hQ2.blk hg
    exact hk _ (Array.getElem?_eq_some_iff.1 hc).1 (cells_ty_ne hc hb (by decide)) (fun g2 hg2 e => d3 g2 hg2 (by rw [hg, e]))
  have hlt : ∀ (j : Nat) (y : ByteArray × PV), t.pl[j]? = some y → ∀ g, qblk y.2.q = some g → g < w.heap.size := fun j y hy g hg => by
    obtain ⟨cur, hc⟩ := (h.pls j y hy).2.blk hg
    exact (Array.getElem?_eq_some_iff.1 hc).1
  have hidx : ∀ (j : Nat) (y : ByteArray × PV), (t.pl.set i (x.1, { x.2 with q := q, qs := qs }))[j]? = some y → ∃ z, t.pl[j]? = some z ∧ y.2.p = z.2.p ∧ y.2.H = z.2.H := fun j y hy => by
    rcases set_cases hy with ⟨rfl, rfl, -⟩ | ⟨-, h1⟩
    · exact ⟨x, hx, rfl, rfl⟩
    · exact ⟨y, h1, rfl, rfl⟩
  refine ⟨⟨?_, ?_, hmap h.tab.wt, hmap h.tab.nm⟩, fun j y hy => ?_, fun j y hy => hmap (h.nms j y hy), h.d0, fun j y hy => ?_, h.dM, fun j k y z hjk hy hz => ?_, h.dMM, fun j k y z hy hz => ?_⟩
  · exact (hk _ (Array.getElem?_eq_some_iff.1 h.tab.blk).1 (cells_ty_ne h.tab.blk hb (by decide)) (fun g hg => by obtain ⟨cur, hc⟩ := hQ.blk hg; exact cells_ty_ne h.tab.blk hc (by decide))).trans h.tab.blk
  · show GMap w' t.P (plV (t.pl.set i _))
    rw [hpv]
    exact hmap h.tab.pl
  · rcases set_cases hy with ⟨rfl, rfl, -⟩ | ⟨hij, h1⟩
    · exact ⟨⟨hp, hmap hH⟩, hq⟩
    · exact hoth j y hij h1
  · obtain ⟨z, h1, -, h2⟩ := hidx j y hy
    rw [h2]
    exact h.dH j z h1
  · obtain ⟨y', h1, h2, h3⟩ := hidx j y hy
    obtain ⟨z', g1, g2, g3⟩ := hidx k z hz
    obtain ⟨d1, d2, d3⟩ := h.dHH j k y' z' hjk h1 g1
    refine ⟨by rw [h3, g3]; exact d1, by rw [h2, g2]; exact d2, fun g hg hg2 => ?_⟩
    rcases set_cases hy with ⟨rfl, rfl, -⟩ | ⟨hij, h4⟩
    · rcases set_cases hz with ⟨e, -, -⟩ | ⟨hik, h5⟩
      · exact hjk e
      · rcases hqb g hg with h6 | h6
        · exact (h.dHH i k x z hik hx h5).2.2 g h6 hg2
        · have := hlt k z h5 g hg2; omega
    · rcases set_cases hz with ⟨rfl, rfl, -⟩ | ⟨hik, h5⟩
      · rcases hqb g hg2 with h6 | h6
        · exact (h.dHH i j x y hij hx h4).2.2 g h6 hg
        · have := hlt j y h4 g hg; omega
      · exact (h.dHH j k y z hjk h4 h5).2.2 g hg hg2
  · obtain ⟨y', h1, -, h3⟩ := hidx j y hy
    rw [h3]
    exact h.dHM j k y' z h1 hz

/-- the map of the waiting ones turned -/
theorem TabR.waits (h : TabR w t) {ws : List (Int × (ByteArray × Int))} (hg : GMap w' t.W (wsV ws)) (hk : ∀ k, k < w.heap.size → k ≠ t.W → w'.heap[k]? = w.heap[k]?) : TabR w' { t with ws := ws } := by
  have hne : ∀ {y : Nat} {cs : Array Value} {ty : TypeId} {fr : Nat × Nat}, w.heap[y]? = some (.cells cs ty fr) → w'.heap[y]? = w.heap[y]? := fun hy => hk _ (Array.getElem?_eq_some_iff.1 hy).1 (cells_ne_map h.tab.wt hy)
  exact ⟨⟨(hne h.tab.blk).trans h.tab.blk, h.tab.pl.keep (hk _ h.tab.pl.lt h.d0.1), hg, h.tab.nm.keep (hk _ h.tab.nm.lt h.d0.2.2.symm)⟩,
    fun j y hy => by
      obtain ⟨⟨hb2, hH2⟩, hQ2⟩ := h.pls j y hy
      exact ⟨⟨(hne hb2).trans hb2, hH2.keep (hk _ hH2.lt (h.dH j y hy).2.1)⟩, hQ2.keep (fun g hg2 => by obtain ⟨cur, hc⟩ := hQ2.blk hg2; exact hne hc)⟩,
    fun j y hy => (h.nms j y hy).keep (hk _ (h.nms j y hy).lt (h.dM j y hy).2.1), h.d0, h.dH, h.dM, h.dHH, h.dMM, h.dHM⟩

/-- the names of an owner turned -/
theorem TabR.names (h : TabR w t) {i : Nat} {x : Int × (Nat × List ByteArray)} (hx : t.nm[i]? = some x) {es : List ByteArray} (hg : GMap w' x.2.1 (setV es)) (hk : ∀ k, k < w.heap.size → k ≠ x.2.1 → w'.heap[k]? = w.heap[k]?) :
    TabR w' { t with nm := t.nm.set i (x.1, (x.2.1, es)) } := by
  have hM := h.nms i x hx
  obtain ⟨e1, e2, e3⟩ := h.dM i x hx
  have hpv : nmV (t.nm.set i (x.1, (x.2.1, es))) = nmV t.nm := map_set_same _ hx rfl
  have hne : ∀ {y : Nat} {cs : Array Value} {ty : TypeId} {fr : Nat × Nat}, w.heap[y]? = some (.cells cs ty fr) → w'.heap[y]? = w.heap[y]? := fun hy => hk _ (Array.getElem?_eq_some_iff.1 hy).1 (cells_ne_map hM hy)
  have hidx : ∀ (j : Nat) (y : Int × (Nat × List ByteArray)), (t.nm.set i (x.1, (x.2.1, es)))[j]? = some y → ∃ z, t.nm[j]? = some z ∧ y.2.1 = z.2.1 := fun j y hy => by
    rcases set_cases hy with ⟨rfl, rfl, -⟩ | ⟨-, h1⟩
    · exact ⟨x, hx, rfl⟩
    · exact ⟨y, h1, rfl⟩
  refine ⟨⟨(hne h.tab.blk).trans h.tab.blk, h.tab.pl.keep (hk _ h.tab.pl.lt (Ne.symm e1)), h.tab.wt.keep (hk _ h.tab.wt.lt (Ne.symm e2)), ?_⟩, fun j y hy => ?_, fun j y hy => ?_, h.d0, h.dH, fun j y hy => ?_, h.dHH, fun j k y z hjk hy hz => ?_, fun j k y z hy hz => ?_⟩
  · show GMap w' t.N (nmV (t.nm.set i _))
    rw [hpv]
    exact h.tab.nm.keep (hk _ h.tab.nm.lt (Ne.symm e3))
  · obtain ⟨⟨hb2, hH2⟩, hQ2⟩ := h.pls j y hy
    exact ⟨⟨(hne hb2).trans hb2, hH2.keep (hk _ hH2.lt (h.dHM j i y x hy hx))⟩, hQ2.keep (fun g hg2 => by obtain ⟨cur, hc⟩ := hQ2.blk hg2; exact hne hc)⟩
  · rcases set_cases hy with ⟨rfl, rfl, -⟩ | ⟨hij, h1⟩
    · exact hg
    · exact (h.nms j y h1).keep (hk _ (h.nms j y h1).lt (Ne.symm (h.dMM i j x y hij hx h1)))
  · obtain ⟨z, h1, h2⟩ := hidx j y hy
    rw [h2]
    exact h.dM j z h1
  · obtain ⟨y', h1, h2⟩ := hidx j y hy
    obtain ⟨z', g1, g2⟩ := hidx k z hz
    rw [h2, g2]
    exact h.dMM j k y' z' hjk h1 g1
  · obtain ⟨z', g1, g2⟩ := hidx k z hz
    rw [g2]
    exact h.dHM j k y z' hy g1

/-- an owner's names, of one that held nothing -/
theorem TabR.nameNew (h : TabR w t) {o : Int} {M : Nat} {es : List ByteArray} (hN : GMap w' t.N (nmV (t.nm ++ [(o, (M, es))]))) (hM : GMap w' M (setV es)) (hnew : w.heap.size ≤ M) (hk : ∀ k, k < w.heap.size → k ≠ t.N → w'.heap[k]? = w.heap[k]?) :
    TabR w' { t with nm := t.nm ++ [(o, (M, es))] } := by
  have hne : ∀ {y : Nat} {cs : Array Value} {ty : TypeId} {fr : Nat × Nat}, w.heap[y]? = some (.cells cs ty fr) → w'.heap[y]? = w.heap[y]? := fun hy => hk _ (Array.getElem?_eq_some_iff.1 hy).1 (cells_ne_map h.tab.nm hy)
  have hidx : ∀ (j : Nat) (y : Int × (Nat × List ByteArray)), (t.nm ++ [(o, (M, es))])[j]? = some y → (t.nm[j]? = some y) ∨ (j = t.nm.length ∧ y = (o, (M, es))) := fun j y hy => by
    rcases Nat.lt_or_ge j t.nm.length with hl | hl
    · rw [List.getElem?_append_left hl] at hy; exact .inl hy
    · rw [List.getElem?_append_right hl] at hy
      rcases Nat.eq_zero_or_pos (j - t.nm.length) with h0 | h0
      · rw [h0] at hy
        simp only [List.getElem?_cons_zero, Option.some.injEq] at hy
        exact .inr ⟨by omega, hy.symm⟩
      · rw [List.getElem?_eq_none (by simp; omega)] at hy; cases hy
  have hltM : ∀ (j : Nat) (y : Int × (Nat × List ByteArray)), t.nm[j]? = some y → y.2.1 < w.heap.size := fun j y hy => (h.nms j y hy).lt
  have hltH : ∀ (j : Nat) (y : ByteArray × PV), t.pl[j]? = some y → y.2.H < w.heap.size := fun j y hy => (h.pls j y hy).1.hl.lt
  have hP := h.tab.pl.lt
  have hW := h.tab.wt.lt
  have hNl := h.tab.nm.lt
  refine ⟨⟨(hne h.tab.blk).trans h.tab.blk, h.tab.pl.keep (hk _ h.tab.pl.lt h.d0.2.1), h.tab.wt.keep (hk _ h.tab.wt.lt h.d0.2.2), hN⟩, fun j y hy => ?_, fun j y hy => ?_, h.d0, h.dH, fun j y hy => ?_, h.dHH, fun j k y z hjk hy hz => ?_, fun j k y z hy hz => ?_⟩
  · obtain ⟨⟨hb2, hH2⟩, hQ2⟩ := h.pls j y hy
    exact ⟨⟨(hne hb2).trans hb2, hH2.keep (hk _ hH2.lt (h.dH j y hy).2.2)⟩, hQ2.keep (fun g hg2 => by obtain ⟨cur, hc⟩ := hQ2.blk hg2; exact hne hc)⟩
  · rcases hidx j y hy with h1 | ⟨-, rfl⟩
    · exact (h.nms j y h1).keep (hk _ (h.nms j y h1).lt (h.dM j y h1).2.2)
    · exact hM
  · rcases hidx j y hy with h1 | ⟨-, rfl⟩
    · exact h.dM j y h1
    · exact ⟨by show M ≠ t.P; omega, by show M ≠ t.W; omega, by show M ≠ t.N; omega⟩
  · rcases hidx j y hy with h1 | ⟨e1, rfl⟩
    · rcases hidx k z hz with h2 | ⟨e2, rfl⟩
      · exact h.dMM j k y z hjk h1 h2
      · have := hltM j y h1; show _ ≠ M; omega
    · rcases hidx k z hz with h2 | ⟨e2, rfl⟩
      · have := hltM k z h2; show M ≠ _; omega
      · omega
  · rcases hidx k z hz with h2 | ⟨e2, rfl⟩
    · exact h.dHM j k y z hy h2
    · have := hltH j y hy; show _ ≠ M; omega

/-- a pair taken out, by its key -/
def kdel {κ β : Type} [DecidableEq κ] : List (κ × β) → κ → List (κ × β)
  | [], _ => []
  | p :: es, k => if p.1 = k then es else p :: kdel es k
theorem gdel_map {κ β : Type} [DecidableEq κ] (f : κ × β → κ × Value) (hf : ∀ p, (f p).1 = p.1) : ∀ (l : List (κ × β)) (k : κ), gdel (l.map f) k = (kdel l k).map f
  | [], _ => rfl
  | p :: l, k => by
    simp only [List.map_cons, gdel, kdel, hf]
    split
    · rfl
    · rw [List.map_cons, gdel_map f hf l k]
/-- those that are left stood there, in this order -/
theorem kdel_idx {κ β : Type} [DecidableEq κ] : ∀ (l : List (κ × β)) (k : κ), ∃ f : Nat → Nat, (∀ i j, f i = f j → i = j) ∧ ∀ j x, (kdel l k)[j]? = some x → l[f j]? = some x
  | [], _ => ⟨id, fun _ _ h => h, fun j x h => by simp [kdel] at h⟩
  | p :: l, k => by
    by_cases hp : p.1 = k
    · refine ⟨(· + 1), fun i j h => by simpa using h, fun j x h => ?_⟩
      simp only [kdel, if_pos hp] at h
      simpa using h
    · obtain ⟨f, hf, hx⟩ := kdel_idx l k
      refine ⟨fun | 0 => 0 | j + 1 => f j + 1, fun i j h => ?_, fun j x h => ?_⟩
      · match i, j, h with
        | 0, 0, _ => rfl
        | i + 1, j + 1, h => simp only [Nat.add_right_cancel_iff] at h; rw [hf i j h]
      · simp only [kdel, if_neg hp] at h
        match j, h with
        | 0, h => simpa using h
        | j + 1, h => simp only [List.getElem?_cons_succ] at h ⊢; exact hx j x h

/-- an owner's names gone -/
theorem TabR.nameDel (h : TabR w t) (o : Int) (hN : GMap w' t.N (gdel (nmV t.nm) o)) (hk : ∀ k, k < w.heap.size → k ≠ t.N → w'.heap[k]? = w.heap[k]?) : TabR w' { t with nm := kdel t.nm o } := by
  have hne : ∀ {y : Nat} {cs : Array Value} {ty : TypeId} {fr : Nat × Nat}, w.heap[y]? = some (.cells cs ty fr) → w'.heap[y]? = w.heap[y]? := fun hy => hk _ (Array.getElem?_eq_some_iff.1 hy).1 (cells_ne_map h.tab.nm hy)
  obtain ⟨f, hf, hx⟩ := kdel_idx t.nm o
  have hnv : nmV (kdel t.nm o) = gdel (nmV t.nm) o := (gdel_map (fun a : Int × (Nat × List ByteArray) => (a.1, Value.map (some a.2.1))) (fun _ => rfl) t.nm o).symm
  refine ⟨⟨(hne h.tab.blk).trans h.tab.blk, h.tab.pl.keep (hk _ h.tab.pl.lt h.d0.2.1), h.tab.wt.keep (hk _ h.tab.wt.lt h.d0.2.2), ?_⟩, fun j y hy => ?_, fun j y hy => (h.nms _ y (hx j y hy)).keep (hk _ (h.nms _ y (hx j y hy)).lt (h.dM _ y (hx j y hy)).2.2), h.d0, h.dH, fun j y hy => h.dM _ y (hx j y hy), h.dHH,
    fun j k y z hjk hy hz => h.dMM _ _ y z (fun e => hjk (hf _ _ e)) (hx j y hy) (hx k z hz), fun j k y z hy hz => h.dHM j _ y z hy (hx k z hz)⟩
  · show GMap w' t.N (nmV (kdel t.nm o))
    rw [hnv]
    exact hN
  · obtain ⟨⟨hb2, hH2⟩, hQ2⟩ := h.pls j y hy
    exact ⟨⟨(hne hb2).trans hb2, hH2.keep (hk _ hH2.lt (h.dH j y hy).2.2)⟩, hQ2.keep (fun g hg2 => by obtain ⟨cur, hc⟩ := hQ2.blk hg2; exact hne hc)⟩

/-- a place gone -/
theorem TabR.placeDel (h : TabR w t) (s : ByteArray) (hP : GMap w' t.P (gdel (plV t.pl) s)) (hk : ∀ k, k < w.heap.size → k ≠ t.P → w'.heap[k]? = w.heap[k]?) : TabR w' { t with pl := kdel t.pl s } := by
  have hne : ∀ {y : Nat} {cs : Array Value} {ty : TypeId} {fr : Nat × Nat}, w.heap[y]? = some (.cells cs ty fr) → w'.heap[y]? = w.heap[y]? := fun hy => hk _ (Array.getElem?_eq_some_iff.1 hy).1 (cells_ne_map h.tab.pl hy)
  obtain ⟨f, hf, hx⟩ := kdel_idx t.pl s
  have hnv : plV (kdel t.pl s) = gdel (plV t.pl) s := (gdel_map (fun a : ByteArray × PV => (a.1, Value.pointer (some ⟨a.2.p, 0, none⟩))) (fun _ => rfl) t.pl s).symm
  refine ⟨⟨(hne h.tab.blk).trans h.tab.blk, ?_, h.tab.wt.keep (hk _ h.tab.wt.lt (Ne.symm h.d0.1)), h.tab.nm.keep (hk _ h.tab.nm.lt (Ne.symm h.d0.2.1))⟩, fun j y hy => ?_, fun j y hy => (h.nms j y hy).keep (hk _ (h.nms j y hy).lt (h.dM j y hy).1), h.d0, fun j y hy => h.dH _ y (hx j y hy), h.dM,
    fun j k y z hjk hy hz => h.dHH _ _ y z (fun e => hjk (hf _ _ e)) (hx j y hy) (hx k z hz), h.dMM, fun j k y z hy hz => h.dHM _ k y z (hx j y hy) hz⟩
  · show GMap w' t.P (plV (kdel t.pl s))
    rw [hnv]
    exact hP
  · obtain ⟨⟨hb2, hH2⟩, hQ2⟩ := h.pls _ y (hx j y hy)
    exact ⟨⟨(hne hb2).trans hb2, hH2.keep (hk _ hH2.lt (h.dH _ y (hx j y hy)).1)⟩, hQ2.keep (fun g hg2 => by obtain ⟨cur, hc⟩ := hQ2.blk hg2; exact hne hc)⟩

theorem snoc_idx {β : Type} {l : List β} {a : β} {j : Nat} {y : β} (hy : (l ++ [a])[j]? = some y) : (l[j]? = some y) ∨ (j = l.length ∧ y = a) := by
  rcases Nat.lt_or_ge j l.length with hl | hl
  · rw [List.getElem?_append_left hl] at hy; exact .inl hy
  · rw [List.getElem?_append_right hl] at hy
    rcases Nat.eq_zero_or_pos (j - l.length) with h0 | h0
    · rw [h0] at hy
      simp only [List.getElem?_cons_zero, Option.some.injEq] at hy
      exact .inr ⟨by omega, hy.symm⟩
    · rw [List.getElem?_eq_none (by simp; omega)] at hy; cases hy

/-- a new place, empty -/
theorem TabR.placeNew (h : TabR w t) {s : ByteArray} {p H : Nat} (hP : GMap w' t.P (plV (t.pl ++ [(s, ⟨p, H, .slice none 0 0, [], []⟩)]))) (hp : PlAt w' p H (.slice none 0 0) []) (hp1 : w.heap.size ≤ p) (hH1 : w.heap.size ≤ H) (hk : ∀ k, k < w.heap.size → k ≠ t.P → w'.heap[k]? = w.heap[k]?) :
    TabR w' { t with pl := t.pl ++ [(s, ⟨p, H, .slice none 0 0, [], []⟩)] } := by
  have hne : ∀ {y : Nat} {cs : Array Value} {ty : TypeId} {fr : Nat × Nat}, w.heap[y]? = some (.cells cs ty fr) → w'.heap[y]? = w.heap[y]? := fun hy => hk _ (Array.getElem?_eq_some_iff.1 hy).1 (cells_ne_map h.tab.pl hy)
  have hltH : ∀ (j : Nat) (y : ByteArray × PV), t.pl[j]? = some y → y.2.H < w.heap.size ∧ y.2.p < w.heap.size := fun j y hy => ⟨(h.pls j y hy).1.hl.lt, (Array.getElem?_eq_some_iff.1 (h.pls j y hy).1.blk).1⟩
  have hPl := h.tab.pl.lt
  have hWl := h.tab.wt.lt
  have hNl := h.tab.nm.lt
  refine ⟨⟨(hne h.tab.blk).trans h.tab.blk, hP, h.tab.wt.keep (hk _ h.tab.wt.lt (Ne.symm h.d0.1)), h.tab.nm.keep (hk _ h.tab.nm.lt (Ne.symm h.d0.2.1))⟩, fun j y hy => ?_, fun j y hy => (h.nms j y hy).keep (hk _ (h.nms j y hy).lt (h.dM j y hy).1), h.d0, fun j y hy => ?_, h.dM, fun j k y z hjk hy hz => ?_, h.dMM, fun j k y z hy hz => ?_⟩
  · rcases snoc_idx hy with h1 | ⟨-, rfl⟩
    · obtain ⟨⟨hb2, hH2⟩, hQ2⟩ := h.pls j y h1
      exact ⟨⟨(hne hb2).trans hb2, hH2.keep (hk _ hH2.lt (h.dH j y h1).1)⟩, hQ2.keep (fun g hg2 => by obtain ⟨cur, hc⟩ := hQ2.blk hg2; exact hne hc)⟩
    · exact ⟨hp, .inl ⟨rfl, rfl⟩⟩
  · rcases snoc_idx hy with h1 | ⟨-, rfl⟩
    · exact h.dH j y h1
    · exact ⟨by show H ≠ t.P; omega, by show H ≠ t.W; omega, by show H ≠ t.N; omega⟩
  · rcases snoc_idx hy with h1 | ⟨e1, rfl⟩
    · rcases snoc_idx hz with h2 | ⟨e2, rfl⟩
      · exact h.dHH j k y z hjk h1 h2
      · have := hltH j y h1
        exact ⟨by show _ ≠ H; omega, by show _ ≠ p; omega, fun g _ hg => by simp [qblk] at hg⟩
    · rcases snoc_idx hz with h2 | ⟨e2, rfl⟩
      · have := hltH k z h2
        exact ⟨by show H ≠ _; omega, by show p ≠ _; omega, fun g hg => by simp [qblk] at hg⟩
      · omega
  · rcases snoc_idx hy with h1 | ⟨e1, rfl⟩
    · exact h.dHM j k y z h1 hz
    · have := (h.nms k z hz).lt
      show H ≠ _
      omega
end
end Mun
end

section
/- The contract of hold over a whole table. -/
set_option maxRecDepth 100000
set_option linter.unusedVariables false
set_option linter.unusedSimpArgs false
namespace Mun
open Go Go.RowKit
open Go.Proofs

/-- a pair laid in -/
def kset {κ β : Type} [DecidableEq κ] : List (κ × β) → κ → β → List (κ × β)
  | [], k, v => [(k, v)]
  | p :: es, k, v => if p.1 = k then (k, v) :: es else p :: kset es k v
def klook {κ β : Type} [DecidableEq κ] (l : List (κ × β)) (k : κ) : Option β := (l.find? (fun p => decide (p.1 = k))).map (·.2)
theorem gset_map {κ β : Type} [DecidableEq κ] (g : β → Value) (l : List (κ × β)) (k : κ) (v : β) : gset (l.map fun a => (a.1, g a.2)) k (g v) = (kset l k v).map fun a => (a.1, g a.2) := by
  induction l with
  | nil => rfl
  | cons p l ih =>
    simp only [List.map_cons, gset, kset]
    split
    · rfl
    · rw [List.map_cons, ih]
theorem glook_map {κ β : Type} [DecidableEq κ] (g : β → Value) (l : List (κ × β)) (k : κ) : glook (l.map fun a => (a.1, g a.2)) k = (klook l k).map g := by
  induction l with
  | nil => rfl
  | cons p l ih =>
    simp only [glook, klook] at ih ⊢
    by_cases h : p.1 = k
    · simp [List.find?_cons, h]
    · have h1 : (p.1 == k) = false := by simpa using h
      simp only [List.map_cons, List.find?_cons, h1, h, decide_false]
      exact ih
theorem klook_cons {κ β : Type} [DecidableEq κ] (p : κ × β) (l : List (κ × β)) (k : κ) : klook (p :: l) k = if p.1 = k then some p.2 else klook l k := by
  unfold klook
  by_cases h : p.1 = k
  · simp [List.find?_cons, h]
  · simp [List.find?_cons, h]
theorem klook_set {κ β : Type} [DecidableEq κ] {l : List (κ × β)} {k : κ} {v : β} (h : klook l k = some v) : ∃ i : Nat, l[i]? = some (k, v) ∧ ∀ v', kset l k v' = l.set i (k, v') := by
  induction l with
  | nil => simp [klook] at h
  | cons p l ih =>
    rw [klook_cons] at h
    by_cases hp : p.1 = k
    · rw [if_pos hp] at h
      injection h with h
      exact ⟨0, by rw [← hp, ← h]; rfl, fun v' => by simp [kset, hp]⟩
    · rw [if_neg hp] at h
      obtain ⟨i, h1, h2⟩ := ih h
      exact ⟨i + 1, by simpa using h1, fun v' => by simp [kset, hp, h2]⟩
theorem klook_kset {κ β : Type} [DecidableEq κ] (l : List (κ × β)) (k : κ) (v : β) (n : κ) : klook (kset l k v) n = if n = k then some v else klook l n := by
  induction l with
  | nil =>
    simp only [kset, klook_cons]
    by_cases h : n = k
    · simp [h]
    · simp [h, Ne.symm h]
  | cons p l ih =>
    simp only [kset]
    by_cases hp : p.1 = k
    · rw [if_pos hp, klook_cons, klook_cons]
      by_cases h : n = k
      · simp [h]
      · have h2 : ¬ p.1 = n := fun e => h (e.symm.trans hp)
        simp [h, Ne.symm h, h2]
    · rw [if_neg hp, klook_cons, klook_cons, ih]
      by_cases h : p.1 = n
      · have h2 : ¬ n = k := fun e => hp (h.trans e)
        simp [h, h2]
      · simp [h]
theorem kset_new {κ β : Type} [DecidableEq κ] {l : List (κ × β)} {k : κ} (h : klook l k = none) (v : β) : kset l k v = l ++ [(k, v)] := by
  induction l with
  | nil => rfl
  | cons p l ih =>
    by_cases hp : p.1 = k
    · simp [klook, List.find?_cons, hp] at h
    · have h1 : klook l k = none := by simpa [klook, List.find?_cons, hp] using h
      simp only [kset, if_neg hp, ih h1, List.cons_append]

/-- a table at work in a law: all its blocks are the law's own -/
structure TabL (W0 w : World) (t : TV) : Prop where
  rep : TabR w t
  bl : Below W0.heap.size W0 w
  lo : W0.heap.size ≤ t.T ∧ W0.heap.size ≤ t.P ∧ W0.heap.size ≤ t.W ∧ W0.heap.size ≤ t.N
  loP : ∀ (i : Nat) (x : ByteArray × PV), t.pl[i]? = some x → W0.heap.size ≤ x.2.p ∧ W0.heap.size ≤ x.2.H ∧ ∀ g, qblk x.2.q = some g → W0.heap.size ≤ g
  loN : ∀ (i : Nat) (y : Int × (Nat × List ByteArray)), t.nm[i]? = some y → W0.heap.size ≤ y.2.1
theorem TabL.below {W0 w w' : World} {t : TV} (h : TabL W0 w t) (hb : Below w.heap.size w w') : TabL W0 w' t := ⟨h.rep.keep hb.block, h.bl.trans (hb.mono h.bl.size), h.lo, h.loP, h.loN⟩

/-- a world between: block H alone as it is behind -/
def midW (w w' : World) (H : Nat) : World := { w with heap := match w'.heap[H]? with | some o => w.heap.setIfInBounds H o | none => w.heap }
theorem midW_same {w w' : World} {H : Nat} (h : H < w.heap.size) (h' : H < w'.heap.size) : (midW w w' H).heap[H]? = w'.heap[H]? := by
  unfold midW
  rw [Array.getElem?_eq_getElem h']
  simp [Array.getElem?_setIfInBounds, h]
theorem midW_other (w w' : World) (H k : Nat) (hk : k ≠ H) : (midW w w' H).heap[k]? = w.heap[k]? := by
  unfold midW
  cases w'.heap[H]? with
  | none => rfl
  | some o => simp [Array.getElem?_setIfInBounds, Ne.symm hk]
theorem midW_size (w w' : World) (H : Nat) : (midW w w' H).heap.size = w.heap.size := by
  unfold midW
  cases w'.heap[H]? <;> simp

/-- a name laid into a set of names -/
def sadd : List ByteArray → ByteArray → List ByteArray
  | [], s => [s]
  | a :: es, s => if a = s then s :: es else a :: sadd es s
theorem gset_setV (es : List ByteArray) (s : ByteArray) : gset (setV es) s (.agg #[]) = setV (sadd es s) := by
  induction es with
  | nil => rfl
  | cons a es ih =>
    simp only [setV, List.map_cons, gset, sadd] at ih ⊢
    by_cases h : a = s
    · simp [h]
    · simp only [if_neg h, List.map_cons, ih]
def nmL (nm : List (Int × (Nat × List ByteArray))) : List (Int × List ByteArray) := nm.map fun a => (a.1, a.2.2)
def held1 (t : TV) (i : Nat) (x : ByteArray × PV) (o m : Int) (nm : List (Int × (Nat × List ByteArray))) : TV := { t with pl := t.pl.set i (x.1, { x.2 with hs := kset x.2.hs o m }), nm := nm }

theorem hold_any {W0 w : World} {t : TV} (h : TabL W0 w t) {i : Nat} {x : ByteArray × PV} (hx : t.pl[i]? = some x) (o m : Int) :
    Calls Try.prog 30 #[.pointer (some ⟨t.T, 0, none⟩), .pointer (some ⟨x.2.p, 0, none⟩), .int .u64 o, .string x.1, .int .i64 m] w fun e w' => e = .returned (.tuple #[]) ∧
      ∃ nm, TabL W0 w' (held1 t i x o m nm) ∧ (∀ o2, (klook nm o2).map (·.2) = if o2 = o then some (sadd (((klook t.nm o).map (·.2)).getD []) x.1) else (klook t.nm o2).map (·.2)) := by
  obtain ⟨hp, hQ⟩ := h.rep.pls i x hx
  obtain ⟨d1, d2, d3⟩ := h.rep.dH i x hx
  obtain ⟨l1, l2, l3⟩ := h.loP i x hx
  have hHl := hp.hl.lt
  have hhs : ∀ hs : List (Int × Int), gset (hsV hs) o (.int .i64 m) = hsV (kset hs o m) := fun hs => gset_map (fun k : Int => Value.int .i64 k) hs o m
  cases hn : klook t.nm o with
  | none =>
    have hn2 : glook (nmV t.nm) o = none := by
      have h9 := glook_map (fun y : Nat × List ByteArray => Value.map (some y.1)) t.nm o
      rw [hn] at h9
      exact h9
    refine (hold_new w t.T t.P t.W t.N x.2.p x.2.H x.2.q _ _ _ _ o m x.1 h.rep.tab hp hn2 d3 d1 d2 h.rep.d0.2.1.symm h.rep.d0.2.2.symm).mono ?_
    rintro e w' ⟨rfl, t1, p1, s1, x1, x2, x3, g1, k1⟩
    rw [hhs] at p1
    have hmid : TabR (midW w w' x.2.H) { t with pl := t.pl.set i (x.1, { x.2 with hs := kset x.2.hs o m }) } :=
      h.rep.held hx (p1.hl.keep (midW_same hHl (by omega)).symm.symm) (fun k _ hk => midW_other _ _ _ _ hk)
    refine ⟨rfl, t.nm ++ [(o, (w.heap.size, [x.1]))], ⟨?_, ?_, h.lo, fun j y hy => ?_, fun j y hy => ?_⟩, fun o2 => ?_⟩
    · refine TabR.nameNew (t := { t with pl := t.pl.set i (x.1, { x.2 with hs := kset x.2.hs o m }) }) hmid ?_ g1 (by rw [midW_size]; exact Nat.le_refl _) (fun k hk hkN => ?_)
      · have h9 := gset_map (fun y : Nat × List ByteArray => Value.map (some y.1)) t.nm o (w.heap.size, [x.1])
        rw [kset_new hn] at h9
        have h8 := t1.nm
        unfold nmV at h8
        rw [h9] at h8
        exact h8
      · rw [midW_size] at hk
        by_cases hkH : k = x.2.H
        · subst hkH; exact (midW_same hHl (by omega)).symm
        · rw [midW_other _ _ _ _ hkH]; exact k1 k hk hkH hkN
    · have h5 := h.bl.size
      have h6 := h.lo
      exact ⟨x1.trans h.bl.os, x2.trans h.bl.tape, x3.trans h.bl.output, by omega, fun k hk => by rw [k1 k (by omega) (by omega) (by omega), h.bl.block k hk]⟩
    · rcases set_cases hy with ⟨rfl, rfl, -⟩ | ⟨-, h9⟩
      · exact ⟨l1, l2, l3⟩
      · exact h.loP j y h9
    · rcases snoc_idx hy with h9 | ⟨-, rfl⟩
      · exact h.loN j y h9
      · exact h.bl.size
    · by_cases ho : o2 = o
      · subst ho
        rw [if_pos rfl]
        have h9 : klook (t.nm ++ [(o2, (w.heap.size, [x.1]))]) o2 = some (w.heap.size, [x.1]) := by
          unfold klook at hn ⊢
          rw [List.find?_append]
          simp only [Option.map_eq_none_iff] at hn
          rw [hn]
          simp
        rw [h9]
        simp [sadd]
      · rw [if_neg ho]
        unfold klook
        rw [List.find?_append]
        cases hf : t.nm.find? (fun p => decide (p.1 = o2)) with
        | none => simp [Ne.symm ho]
        | some z => simp
  | some y =>
    obtain ⟨j, hj, hset⟩ := klook_set hn
    have hn2 : glook (nmV t.nm) o = some (.map (some y.1)) := by
      have h9 := glook_map (fun y : Nat × List ByteArray => Value.map (some y.1)) t.nm o
      rw [hn] at h9
      exact h9
    obtain ⟨m1, m2, m3⟩ := h.rep.dM j _ hj
    have mH := h.rep.dHM i j x _ hx hj
    have hMl := (h.rep.nms j _ hj).lt
    refine (hold_old w t.T t.P t.W t.N x.2.p x.2.H y.1 x.2.q _ _ _ _ _ o m x.1 h.rep.tab hp hn2 (h.rep.nms j _ hj) d3 d1 d2 m1 m2 m3 mH.symm).mono ?_
    rintro e w' ⟨rfl, t1, p1, g1, s1, x1, x2, x3, k1⟩
    rw [hhs] at p1
    rw [gset_setV] at g1
    have hmid : TabR (midW w w' x.2.H) { t with pl := t.pl.set i (x.1, { x.2 with hs := kset x.2.hs o m }) } :=
      h.rep.held hx (p1.hl.keep (midW_same hHl (by omega)).symm.symm) (fun k _ hk => midW_other _ _ _ _ hk)
    refine ⟨rfl, kset t.nm o (y.1, sadd y.2 x.1), ⟨?_, ?_, h.lo, fun k z hz => ?_, fun k z hz => ?_⟩, fun o2 => ?_⟩
    · unfold held1
      rw [hset]
      refine TabR.names (t := { t with pl := t.pl.set i (x.1, { x.2 with hs := kset x.2.hs o m }) }) hmid hj g1 (fun k hk hkM => ?_)
      rw [midW_size] at hk
      by_cases hkH : k = x.2.H
      · subst hkH; exact (midW_same hHl (by omega)).symm
      · rw [midW_other _ _ _ _ hkH]; exact k1 k hkH hkM
    · have h5 := h.bl.size
      have h6 : W0.heap.size ≤ y.1 := h.loN j (o, y) hj
      exact ⟨x1.trans h.bl.os, x2.trans h.bl.tape, x3.trans h.bl.output, by omega, fun k hk => by rw [k1 k (by omega) (by omega), h.bl.block k hk]⟩
    · rcases set_cases hz with ⟨rfl, rfl, -⟩ | ⟨-, h9⟩
      · exact ⟨l1, l2, l3⟩
      · exact h.loP k z h9
    · have hz2 : (t.nm.set j (o, (y.1, sadd y.2 x.1)))[k]? = some z := by rw [← hset]; exact hz
      rcases set_cases hz2 with ⟨rfl, rfl, -⟩ | ⟨-, h9⟩
      · exact (h.loN j (o, y) hj : W0.heap.size ≤ y.1)
      · exact h.loN k z h9
    · rw [klook_kset]
      by_cases ho : o2 = o
      · simp [ho]
      · simp [ho]
end Mun
end

section
/- A whole table of locks, and what stays beside it: a set of blocks that are none of its own. hold over it. -/
set_option maxRecDepth 100000
set_option linter.unusedVariables false
set_option linter.unusedSimpArgs false
namespace Mun
open Go Go.RowKit
open Go.Proofs

/-- a world, and the blocks that stay as they are there -/
structure Bnd where
  W : World
  S : Nat → Prop
structure BelowS (b : Bnd) (w : World) : Prop where
  os : w.os = b.W.os
  tape : w.tape = b.W.tape
  output : w.output = b.W.output
  size : b.W.heap.size ≤ w.heap.size
  block : ∀ k, b.S k → w.heap[k]? = b.W.heap[k]?
  lt : ∀ k, b.S k → k < b.W.heap.size
section
variable {b : Bnd} {w w' : World}
theorem BelowS.lt2 (h : BelowS b w) {k : Nat} (hk : b.S k) : k < w.heap.size := Nat.lt_of_lt_of_le (h.lt k hk) h.size
theorem BelowS.nS (h : BelowS b w) {k : Nat} (hk : w.heap.size ≤ k) : ¬ b.S k := fun e => by have := h.lt2 e; omega
theorem BelowS.step (h : BelowS b w) (hs : w.heap.size ≤ w'.heap.size) (h1 : w'.os = w.os) (h2 : w'.tape = w.tape) (h3 : w'.output = w.output) (hk : ∀ k, b.S k → w'.heap[k]? = w.heap[k]?) : BelowS b w' :=
  ⟨h1.trans h.os, h2.trans h.tape, h3.trans h.output, Nat.le_trans h.size hs, fun k e => (hk k e).trans (h.block k e), h.lt⟩
theorem BelowS.below (h : BelowS b w) (hb : Below w.heap.size w w') : BelowS b w' := h.step hb.size hb.os hb.tape hb.output (fun k e => hb.block k (h.lt2 e))
end
/-- a table; none of its blocks is one that stays -/
structure TabS (b : Bnd) (w : World) (t : TV) : Prop where
  rep : TabR w t
  bl : BelowS b w
  lo : ¬ b.S t.T ∧ ¬ b.S t.P ∧ ¬ b.S t.W ∧ ¬ b.S t.N
  loP : ∀ (i : Nat) (x : ByteArray × PV), t.pl[i]? = some x → ¬ b.S x.2.p ∧ ¬ b.S x.2.H ∧ ∀ g, qblk x.2.q = some g → ¬ b.S g
  loN : ∀ (i : Nat) (y : Int × (Nat × List ByteArray)), t.nm[i]? = some y → ¬ b.S y.2.1
theorem TabS.below {b : Bnd} {w w' : World} {t : TV} (h : TabS b w t) (hb : Below w.heap.size w w') : TabS b w' t := ⟨h.rep.keep hb.block, h.bl.below hb, h.lo, h.loP, h.loN⟩

/-- the blocks of a table -/
def tfoot (t : TV) : Foot := fun k => k = t.T ∨ k = t.P ∨ k = t.W ∨ k = t.N ∨ (∃ (i : Nat) (x : ByteArray × PV), t.pl[i]? = some x ∧ (k = x.2.p ∨ k = x.2.H ∨ qblk x.2.q = some k)) ∨ ∃ (i : Nat) (y : Int × (Nat × List ByteArray)), t.nm[i]? = some y ∧ k = y.2.1
/-- at a world: what is none of the table's stays -/
def bndOf (w : World) (t : TV) : Bnd := ⟨w, fun k => k < w.heap.size ∧ ¬ tfoot t k⟩
theorem TabR.tabS {w : World} {t : TV} (h : TabR w t) : TabS (bndOf w t) w t := by
  refine ⟨h, ⟨rfl, rfl, rfl, Nat.le_refl _, fun _ _ => rfl, fun k hk => hk.1⟩, ⟨fun hk => hk.2 (.inl rfl), fun hk => hk.2 (.inr (.inl rfl)), fun hk => hk.2 (.inr (.inr (.inl rfl))), fun hk => hk.2 (.inr (.inr (.inr (.inl rfl))))⟩, fun i x hx => ⟨fun hk => ?_, fun hk => ?_, fun g hg hk => ?_⟩, fun i y hy hk => ?_⟩
  · exact hk.2 (.inr (.inr (.inr (.inr (.inl ⟨i, x, hx, .inl rfl⟩)))))
  · exact hk.2 (.inr (.inr (.inr (.inr (.inl ⟨i, x, hx, .inr (.inl rfl)⟩)))))
  · exact hk.2 (.inr (.inr (.inr (.inr (.inl ⟨i, x, hx, .inr (.inr hg)⟩)))))
  · exact hk.2 (.inr (.inr (.inr (.inr (.inr ⟨i, y, hy, rfl⟩)))))
theorem TabR.foot_lt {w : World} {t : TV} (h : TabR w t) {k : Nat} (hk : tfoot t k) : k < w.heap.size := by
  rcases hk with rfl | rfl | rfl | rfl | ⟨i, x, hx, h1⟩ | ⟨i, y, hy, rfl⟩
  · exact (Array.getElem?_eq_some_iff.1 h.tab.blk).1
  · exact h.tab.pl.lt
  · exact h.tab.wt.lt
  · exact h.tab.nm.lt
  · obtain ⟨hp, hq⟩ := h.pls i x hx
    rcases h1 with rfl | rfl | h1
    · exact (Array.getElem?_eq_some_iff.1 hp.blk).1
    · exact hp.hl.lt
    · obtain ⟨cur, hc⟩ := hq.blk h1
      exact (Array.getElem?_eq_some_iff.1 hc).1
  · exact (h.nms i y hy).lt
/-- what a step has turned, said of the two feet -/
theorem TabS.chg {w w' : World} {t t' : TV} (h : TabS (bndOf w t) w' t') : Chg (tfoot t) (tfoot t') w w' := by
  refine ⟨h.bl.os, h.bl.tape, h.bl.output, h.bl.size, fun k hk hn => h.bl.block k ⟨hk, hn⟩, fun k hk => ?_⟩
  have hlt := h.rep.foot_lt hk
  have hS : ¬ (bndOf w t).S k := by
    rcases hk with rfl | rfl | rfl | rfl | ⟨i, x, hx, h1⟩ | ⟨i, y, hy, rfl⟩
    · exact h.lo.1
    · exact h.lo.2.1
    · exact h.lo.2.2.1
    · exact h.lo.2.2.2
    · rcases h1 with rfl | rfl | h1
      · exact (h.loP i x hx).1
      · exact (h.loP i x hx).2.1
      · exact (h.loP i x hx).2.2 k h1
    · exact h.loN i y hy
  by_cases hf : tfoot t k
  · exact .inl hf
  · refine .inr ⟨?_, hlt⟩
    apply Nat.le_of_not_lt
    intro h9
    exact hS ⟨h9, hf⟩

theorem hold_s {W0 : Bnd} {w : World} {t : TV} (h : TabS W0 w t) {i : Nat} {x : ByteArray × PV} (hx : t.pl[i]? = some x) (o m : Int) :
    Calls Try.prog 30 #[.pointer (some ⟨t.T, 0, none⟩), .pointer (some ⟨x.2.p, 0, none⟩), .int .u64 o, .string x.1, .int .i64 m] w fun e w' => e = .returned (.tuple #[]) ∧
      ∃ nm, TabS W0 w' (held1 t i x o m nm) ∧ (∀ o2, (klook nm o2).map (·.2) = if o2 = o then some (sadd (((klook t.nm o).map (·.2)).getD []) x.1) else (klook t.nm o2).map (·.2)) := by
  obtain ⟨hp, hQ⟩ := h.rep.pls i x hx
  obtain ⟨d1, d2, d3⟩ := h.rep.dH i x hx
  obtain ⟨l1, l2, l3⟩ := h.loP i x hx
  have hHl := hp.hl.lt
  have hhs : ∀ hs : List (Int × Int), gset (hsV hs) o (.int .i64 m) = hsV (kset hs o m) := fun hs => gset_map (fun k : Int => Value.int .i64 k) hs o m
  cases hn : klook t.nm o with
  | none =>
    have hn2 : glook (nmV t.nm) o = none := by
      have h9 := glook_map (fun y : Nat × List ByteArray => Value.map (some y.1)) t.nm o
      rw [hn] at h9
      exact h9
    refine (hold_new w t.T t.P t.W t.N x.2.p x.2.H x.2.q _ _ _ _ o m x.1 h.rep.tab hp hn2 d3 d1 d2 h.rep.d0.2.1.symm h.rep.d0.2.2.symm).mono ?_
    rintro e w' ⟨rfl, t1, p1, s1, x1, x2, x3, g1, k1⟩
    rw [hhs] at p1
    have hmid : TabR (midW w w' x.2.H) { t with pl := t.pl.set i (x.1, { x.2 with hs := kset x.2.hs o m }) } :=
      h.rep.held hx (p1.hl.keep (midW_same hHl (by omega)).symm.symm) (fun k _ hk => midW_other _ _ _ _ hk)
    refine ⟨rfl, t.nm ++ [(o, (w.heap.size, [x.1]))], ⟨?_, ?_, h.lo, fun j y hy => ?_, fun j y hy => ?_⟩, fun o2 => ?_⟩
    · refine TabR.nameNew (t := { t with pl := t.pl.set i (x.1, { x.2 with hs := kset x.2.hs o m }) }) hmid ?_ g1 (by rw [midW_size]; exact Nat.le_refl _) (fun k hk hkN => ?_)
      · have h9 := gset_map (fun y : Nat × List ByteArray => Value.map (some y.1)) t.nm o (w.heap.size, [x.1])
        rw [kset_new hn] at h9
        have h8 := t1.nm
        unfold nmV at h8
        rw [h9] at h8
        exact h8
      · rw [midW_size] at hk
        by_cases hkH : k = x.2.H
        · subst hkH; exact (midW_same hHl (by omega)).symm
        · rw [midW_other _ _ _ _ hkH]; exact k1 k hk hkH hkN
    · have h5 := h.bl.size
      exact ⟨x1.trans h.bl.os, x2.trans h.bl.tape, x3.trans h.bl.output, by omega, fun k hk => by rw [k1 k (h.bl.lt2 hk) (fun e => l2 (e ▸ hk)) (fun e => h.lo.2.2.2 (e ▸ hk)), h.bl.block k hk], h.bl.lt⟩
    · rcases set_cases hy with ⟨rfl, rfl, -⟩ | ⟨-, h9⟩
      · exact ⟨l1, l2, l3⟩
      · exact h.loP j y h9
    · rcases snoc_idx hy with h9 | ⟨-, rfl⟩
      · exact h.loN j y h9
      · exact h.bl.nS (Nat.le_refl _)
    · by_cases ho : o2 = o
      · subst ho
        rw [if_pos rfl]
        have h9 : klook (t.nm ++ [(o2, (w.heap.size, [x.1]))]) o2 = some (w.heap.size, [x.1]) := by
          unfold klook at hn ⊢
          rw [List.find?_append]
          simp only [Option.map_eq_none_iff] at hn
          rw [hn]
          simp
        rw [h9]
        simp [sadd]
      · rw [if_neg ho]
        unfold klook
        rw [List.find?_append]
        cases hf : t.nm.find? (fun p => decide (p.1 = o2)) with
        | none => simp [Ne.symm ho]
        | some z => simp
  | some y =>
    obtain ⟨j, hj, hset⟩ := klook_set hn
    have hn2 : glook (nmV t.nm) o = some (.map (some y.1)) := by
      have h9 := glook_map (fun y : Nat × List ByteArray => Value.map (some y.1)) t.nm o
      rw [hn] at h9
      exact h9
    obtain ⟨m1, m2, m3⟩ := h.rep.dM j _ hj
    have mH := h.rep.dHM i j x _ hx hj
    have hMl := (h.rep.nms j _ hj).lt
    refine (hold_old w t.T t.P t.W t.N x.2.p x.2.H y.1 x.2.q _ _ _ _ _ o m x.1 h.rep.tab hp hn2 (h.rep.nms j _ hj) d3 d1 d2 m1 m2 m3 mH.symm).mono ?_
    rintro e w' ⟨rfl, t1, p1, g1, s1, x1, x2, x3, k1⟩
    rw [hhs] at p1
    rw [gset_setV] at g1
    have hmid : TabR (midW w w' x.2.H) { t with pl := t.pl.set i (x.1, { x.2 with hs := kset x.2.hs o m }) } :=
      h.rep.held hx (p1.hl.keep (midW_same hHl (by omega)).symm.symm) (fun k _ hk => midW_other _ _ _ _ hk)
    refine ⟨rfl, kset t.nm o (y.1, sadd y.2 x.1), ⟨?_, ?_, h.lo, fun k z hz => ?_, fun k z hz => ?_⟩, fun o2 => ?_⟩
    · unfold held1
      rw [hset]
      refine TabR.names (t := { t with pl := t.pl.set i (x.1, { x.2 with hs := kset x.2.hs o m }) }) hmid hj g1 (fun k hk hkM => ?_)
      rw [midW_size] at hk
      by_cases hkH : k = x.2.H
      · subst hkH; exact (midW_same hHl (by omega)).symm
      · rw [midW_other _ _ _ _ hkH]; exact k1 k hkH hkM
    · have h5 := h.bl.size
      have h6 : ¬ W0.S y.1 := h.loN j (o, y) hj
      exact ⟨x1.trans h.bl.os, x2.trans h.bl.tape, x3.trans h.bl.output, by omega, fun k hk => by rw [k1 k (fun e => l2 (e ▸ hk)) (fun e => h6 (e ▸ hk)), h.bl.block k hk], h.bl.lt⟩
    · rcases set_cases hz with ⟨rfl, rfl, -⟩ | ⟨-, h9⟩
      · exact ⟨l1, l2, l3⟩
      · exact h.loP k z h9
    · have hz2 : (t.nm.set j (o, (y.1, sadd y.2 x.1)))[k]? = some z := by rw [← hset]; exact hz
      rcases set_cases hz2 with ⟨rfl, rfl, -⟩ | ⟨-, h9⟩
      · exact (h.loN j (o, y) hj : ¬ W0.S y.1)
      · exact h.loN k z h9
    · rw [klook_kset]
      by_cases ho : o2 = o
      · simp [ho]
      · simp [ho]
end Mun
end

section
/- Contracts of Ask over a whole table, where the lock is granted at once. -/
set_option maxRecDepth 100000
set_option linter.unusedVariables false
set_option linter.unusedSimpArgs false
namespace Mun
open Go Go.RowKit
open Go.Proofs

/-- what the owners' names are -/
def NmIs (nm' nm : List (Int × (Nat × List ByteArray))) (o : Int) (s : ByteArray) : Prop :=
  ∀ o2, (klook nm' o2).map (·.2) = if o2 = o then some (sadd (((klook nm o).map (·.2)).getD []) s) else (klook nm o2).map (·.2)
def plN (t : TV) (s : ByteArray) (p H : Nat) : TV := { t with pl := t.pl ++ [(s, ⟨p, H, .slice none 0 0, [], []⟩)] }

/-- a name of which nothing is known -/
theorem ask_fresh {W0 w : World} {t : TV} (h : TabL W0 w t) (o m : Int) (s : ByteArray) (ho : o ≠ 0) (him : isM m = true) (hw : klook t.ws o = none) (hpa : klook t.pl s = none) :
    Calls Try.prog 17 #[.pointer (some ⟨t.T, 0, none⟩), .int .u64 o, .string s, .int .i64 m] w fun e w' => e = .returned (.int .i64 0) ∧
      ∃ p H nm, TabL W0 w' (held1 (plN t s p H) t.pl.length (s, ⟨p, H, .slice none 0 0, [], []⟩) o m nm) ∧ NmIs nm t.nm o s := by
  have hpa2 : glook (plV t.pl) s = none := by
    have h9 := glook_map (fun y : PV => Value.pointer (some ⟨y.p, 0, none⟩)) t.pl s
    rw [hpa] at h9
    exact h9
  have hw2 : glook (wsV t.ws) o = none := by
    have h9 := glook_map (fun y : ByteArray × Int => Value.agg #[.string y.1, .int .i64 y.2]) t.ws o
    rw [hw] at h9
    exact h9
  have ht := h.rep.tab
  have d4 : t.N ≠ t.P := h.rep.d0.2.1.symm
  have d5 : t.N ≠ t.W := h.rep.d0.2.2.symm
  have d6 : t.P ≠ t.W := h.rep.d0.1
  have HL := Lib.hid h
  obtain ⟨T, P, W, N, pl, ws0, nm⟩ := t
  simp only at ht d4 d5 d6 hpa2 hw2 hpa ⊢
  obtain ⟨ps, hps⟩ : ∃ ps, plV pl = ps := ⟨_, rfl⟩
  obtain ⟨ws, hws⟩ : ∃ ws, wsV ws0 = ws := ⟨_, rfl⟩
  obtain ⟨ns, hns⟩ : ∃ ns, nmV nm = ns := ⟨_, rfl⟩
  rw [hps, hws, hns] at ht
  rw [hps] at hpa2
  rw [hws] at hw2
  have hims := isMode_any w m
  rw [him] at hims
  have hob : (o == 0) = false := by simpa using ho
  have c1 : w.cell? ⟨T, 1, none⟩ = some (.map (some W)) := cell_of_row w T 1 _ _ _ ht.blk
  have hl1 := gmap_lookup (P := Try.prog) Try.underlying63 Try.underlying29 (z33 w) ht.wt o
  rw [hw2] at hl1
  change (Instr.lookup 63 (.map (some W)) (.int .u64 o) true).run Try.prog w = .ok (.tuple #[.agg #[.string ⟨#[]⟩, .int .i64 0], .bool false]) w at hl1
  obtain ⟨wA, hwA⟩ : ∃ wA, w.alloc (.cells #[.string ⟨#[]⟩, .int .i64 0] 33) = wA := ⟨_, rfl⟩
  have kA : ∀ k, k < w.heap.size → wA.heap[k]? = w.heap[k]? := fun k hk => by rw [← hwA, heap_alloc_old _ _ hk]
  have sA : wA.heap.size = w.heap.size + 1 := by rw [← hwA, World.size_alloc]
  have htA := ht.keep kA
  have c2 : wA.cell? ⟨T, 0, none⟩ = some (.map (some P)) := cell_of_row wA T 0 _ _ _ htA.blk
  have hl2 := gmap_lookup1 (P := Try.prog) Try.underlying62 Try.underlying9 (z67 wA) htA.pl s
  rw [hpa2] at hl2
  change (Instr.lookup 62 (.map (some P)) (.string s) false).run Try.prog wA = .ok (.pointer none) wA at hl2
  have hmm := run_makeMap (P := Try.prog) 68
  obtain ⟨wE, hwE⟩ : ∃ wE, (((wA.alloc (.cells #[.pointer (some ⟨w.heap.size + 1 + 1 + 1, 0, none⟩)] 67)).alloc (.map #[] 0)).alloc (.cells #[.map (some (w.heap.size + 1 + 1)), .slice none 0 0] 71)) = wE := ⟨_, rfl⟩
  have kE : ∀ k, k < wA.heap.size → wE.heap[k]? = wA.heap[k]? := fun k hk => by
    rw [← hwE, heap_alloc_old _ _ (by simp; omega), heap_alloc_old _ _ (by simp; omega), heap_alloc_old _ _ hk]
  have sE : wE.heap.size = w.heap.size + 4 := by rw [← hwE]; simp [World.size_alloc, sA]
  have htE := htA.keep kE
  have n1 : wE.heap[w.heap.size + 1]? = some (.cells #[.pointer (some ⟨w.heap.size + 1 + 1 + 1, 0, none⟩)] 67 (0, 0)) := by
    rw [← hwE, heap_alloc_old _ _ (by simp; omega), heap_alloc_old _ _ (by simp; omega), ← sA]; exact heap_alloc_new wA _
  have n2 : GMap (α := Int) wE (w.heap.size + 1 + 1) [] := by
    have h := gmap_new (α := Int) (wA.alloc (.cells #[.pointer (some ⟨w.heap.size + 1 + 1 + 1, 0, none⟩)] 67))
    rw [World.size_alloc, sA] at h
    refine h.keep ?_
    rw [← hwE, heap_alloc_old _ _ (by simp; omega)]
  have n3 : wE.heap[w.heap.size + 1 + 1 + 1]? = some (.cells #[.map (some (w.heap.size + 1 + 1)), .slice none 0 0] 71 (0, 0)) := by
    have h := heap_alloc_new ((wA.alloc (.cells #[.pointer (some ⟨w.heap.size + 1 + 1 + 1, 0, none⟩)] 67)).alloc (.map #[] 0)) (.cells #[.map (some (w.heap.size + 1 + 1)), .slice none 0 0] 71)
    rw [World.size_alloc, World.size_alloc, sA, hwE] at h
    exact h
  have cE : wE.cell? ⟨T, 0, none⟩ = some (.map (some P)) := cell_of_row wE T 0 _ _ _ htE.blk
  have cE1 : wE.cell? ⟨w.heap.size + 1, 0, none⟩ = some (.pointer (some ⟨w.heap.size + 1 + 1 + 1, 0, none⟩)) := cell_of_row wE _ 0 _ _ _ n1
  have hPl := ht.pl.lt
  have hNl := ht.nm.lt
  have hWl := ht.wt.lt
  have hTl : T < w.heap.size := (Array.getElem?_eq_some_iff.1 ht.blk).1
  have nTP : T ≠ P := by
    rintro rfl
    obtain ⟨l, c, h, -⟩ := ht.pl
    have := h.2.2.2
    rw [ht.blk] at this
    cases this
  obtain ⟨oF, huF, hgF⟩ := gmap_update (P := Try.prog) Try.underlying62 Try.underlying9 (htE.pl.keep (w' := wE.drew) rfl) s (.pointer (some ⟨w.heap.size + 1 + 1 + 1, 0, none⟩))
  change (Instr.mapUpdate 62 (.map (some P)) (.string s) (.pointer (some ⟨w.heap.size + 1 + 1 + 1, 0, none⟩))).run Try.prog wE.drew = _ at huF
  obtain ⟨wF, hwF⟩ : ∃ wF, setObjW wE.drew P oF = wF := ⟨_, rfl⟩
  rw [hwF] at huF hgF
  have kF : ∀ k, k ≠ P → wF.heap[k]? = wE.heap[k]? := fun k hk => by rw [← hwF, setObjW_other _ _ _ _ hk]; rfl
  have sF : wF.heap.size = w.heap.size + 4 := by rw [← hwF, setObjW_size]; exact sE
  have htF : TabAt wF T P W N (gset ps s (.pointer (some ⟨w.heap.size + 1 + 1 + 1, 0, none⟩))) ws ns :=
    ⟨(kF T nTP).trans htE.blk, hgF, htE.wt.keep (kF W (Ne.symm d6)), htE.nm.keep (kF N d4)⟩
  have hpF : PlAt wF (w.heap.size + 1 + 1 + 1) (w.heap.size + 1 + 1) (.slice none 0 0) [] := ⟨(kF _ (by omega)).trans n3, n2.keep (kF _ (by omega))⟩
  have nF : wF.heap[w.heap.size + 1]? = _ := (kF _ (by omega)).trans n1
  have c3 : wF.cell? ⟨w.heap.size + 1, 0, none⟩ = some (.pointer (some ⟨w.heap.size + 1 + 1 + 1, 0, none⟩)) := cell_of_row wF _ 0 _ _ _ nF
  have c4 : wF.cell? ⟨w.heap.size + 1 + 1 + 1, 0, none⟩ = some (.map (some (w.heap.size + 1 + 1))) := cell_of_row wF _ 0 _ _ _ hpF.blk
  have c5 : wF.cell? ⟨w.heap.size + 1 + 1 + 1, 1, none⟩ = some (.slice none 0 0) := cell_of_row wF _ 1 _ _ _ hpF.blk
  have hl3 := gmap_lookup (P := Try.prog) Try.underlying68 Try.underlying29 (z3 wF) hpF.hl o
  change (Instr.lookup 68 (.map (some (w.heap.size + 1 + 1))) (.int .u64 o) true).run Try.prog wF = .ok (.tuple #[.int .i64 0, .bool false]) wF at hl3
  have hgo := goes_any wF _ _ _ [] o m hpF (fun _ h => by simp at h)
  rw [show goesP [] o m = true from rfl] at hgo
  have htl : TabL W0 wF (plN ⟨T, P, W, N, pl, ws0, nm⟩ s (w.heap.size + 1 + 1 + 1) (w.heap.size + 1 + 1)) := by
    have h9 := gset_map (fun y : PV => Value.pointer (some ⟨y.p, 0, none⟩)) pl s ⟨w.heap.size + 1 + 1 + 1, w.heap.size + 1 + 1, .slice none 0 0, [], []⟩
    rw [kset_new hpa] at h9
    have h8 := hgF
    rw [← hps] at h8
    unfold plV at h8
    rw [h9] at h8
    have hkF : ∀ k, k < w.heap.size → k ≠ P → wF.heap[k]? = w.heap[k]? := fun k hk hP => ((kF k hP).trans (kE k (by omega))).trans (kA k hk)
    have hl := HL.out.lo
    have hb := HL.out.bl
    have hbs := hb.size
    simp only at hl
    refine ⟨HL.out.rep.placeNew h8 hpF (by omega) (by omega) hkF, ⟨?_, ?_, ?_, by omega, fun k hk => by rw [hkF k (by omega) (by omega), hb.block k hk]⟩, hl, fun j y hy => ?_, HL.out.loN⟩
    · rw [← hb.os, ← hwF, ← hwE, ← hwA]; rfl
    · rw [← hb.tape, ← hwF, ← hwE, ← hwA]; rfl
    · rw [← hb.output, ← hwF, ← hwE, ← hwA]; rfl
    · rcases snoc_idx hy with h7 | ⟨-, rfl⟩
      · exact HL.out.loP j y h7
      · exact ⟨by show W0.heap.size ≤ w.heap.size + 1 + 1 + 1; omega, by show W0.heap.size ≤ w.heap.size + 1 + 1; omega, fun g hg => by simp [qblk] at hg⟩
  have HG := Lib.hid hgo
  have HTL := Lib.hid htl
  have HNF := Lib.hid nF
  clear ht htA kA sA kE sE htE n1 n2 n3 hgF hwF kF sF htF hpF nF hgo hPl hNl hWl hTl nTP htl h
  subst hwE
  subst hwA
  go_enter Try.func17, Try.ntmps17
  go_wp2_with fail
  refine hims.mono ?_
  rintro e w' ⟨rfl, rfl⟩
  go_wp2_with fail
  obtain ⟨wq, hwq⟩ : ∃ wq, (((((w'.alloc (.cells #[.string ⟨#[]⟩, .int .i64 0] 33)).alloc (.cells #[.pointer (some ⟨w'.heap.size + 1 + 1 + 1, 0, none⟩)] 67)).alloc (.map #[] 0)).alloc (.cells #[.map (some (w'.heap.size + 1 + 1)), .slice none 0 0] 71))) = wq := ⟨_, rfl⟩
  rw [hwq] at cE cE1 huF ⊢
  clear hwq
  go_still_tail 6, (by kernel_rfl)
  change wpList _ _ _ _ _ wq.drew
  go_wp2_with fail
  refine HG.out.mono ?_
  rintro e w2 ⟨rfl, hb2⟩
  have k2 : ∀ k, k < _ → w2.heap[k]? = _ := fun k hk => hb2.block k hk
  have c6 : w2.cell? ⟨w'.heap.size + 1, 0, none⟩ = some (.pointer (some ⟨w'.heap.size + 1 + 1 + 1, 0, none⟩)) := cell_of_row w2 _ 0 _ _ _ ((k2 _ (Array.getElem?_eq_some_iff.1 HNF.out).1).trans HNF.out)
  have hho := hold_any (HTL.out.below hb2) (i := pl.length) (x := (s, ⟨w'.heap.size + 1 + 1 + 1, w'.heap.size + 1 + 1, .slice none 0 0, [], []⟩)) (by simp [plN]) o m
  have HH := Lib.hid hho
  clear hho hb2 k2
  go_wp2_with fail
  refine HH.out.mono ?_
  rintro e w3 ⟨rfl, nm', h3, hnm⟩
  go_wp2
  go_ret
  exact ⟨rfl, _, _, nm', h3, hnm⟩
end Mun
end

section
/- Contracts of Ask over a whole table, where the name is known, or the asking is refused. -/
set_option maxRecDepth 100000
set_option linter.unusedVariables false
set_option linter.unusedSimpArgs false
namespace Mun
open Go Go.RowKit
open Go.Proofs

/-- nobody waits, and the holders let it -/
theorem ask_there2 {W0 w : World} {t : TV} (h : TabL W0 w t) {i : Nat} {s : ByteArray} {x : PV} (hx : t.pl[i]? = some (s, x)) (hpa : klook t.pl s = some x) (o m : Int) (ho : o ≠ 0) (him : isM m = true) (hw : klook t.ws o = none) (hh : klook x.hs o = none) (hqs : x.qs = []) (hg : goesP (hsV x.hs) o m = true) :
    Calls Try.prog 17 #[.pointer (some ⟨t.T, 0, none⟩), .int .u64 o, .string s, .int .i64 m] w fun e w' => e = .returned (.int .i64 0) ∧ ∃ nm, TabL W0 w' (held1 t i (s, x) o m nm) ∧ NmIs nm t.nm o s := by
  have hpa2 : glook (plV t.pl) s = some (.pointer (some ⟨x.p, 0, none⟩)) := by
    have h9 := glook_map (fun y : PV => Value.pointer (some ⟨y.p, 0, none⟩)) t.pl s
    rw [hpa] at h9
    exact h9
  have hw2 : glook (wsV t.ws) o = none := by
    have h9 := glook_map (fun y : ByteArray × Int => Value.agg #[.string y.1, .int .i64 y.2]) t.ws o
    rw [hw] at h9
    exact h9
  have hhl : glook (hsV x.hs) o = (klook x.hs o).map (fun k : Int => Value.int .i64 k) := glook_map (fun k : Int => Value.int .i64 k) x.hs o
  have hm : ModesAt (hsV x.hs) := fun q hq => by obtain ⟨y, -, rfl⟩ := List.mem_map.1 hq; exact ⟨y.2, rfl⟩
  have ht := h.rep.tab
  have hpl := h.rep.pls i _ hx
  have HL := Lib.hid (And.intro h hx)
  obtain ⟨T, P, W, N, pl, ws0, nm⟩ := t
  obtain ⟨p, H, q, hs0, qs⟩ := x
  simp only at ht hpl hpa2 hw2 hhl hm ⊢
  obtain ⟨hp, hq⟩ := hpl
  obtain ⟨ps, hps⟩ : ∃ ps, plV pl = ps := ⟨_, rfl⟩
  obtain ⟨ws, hws⟩ : ∃ ws, wsV ws0 = ws := ⟨_, rfl⟩
  obtain ⟨ns, hns⟩ : ∃ ns, nmV nm = ns := ⟨_, rfl⟩
  obtain ⟨hs, hhs⟩ : ∃ hs, hsV hs0 = hs := ⟨_, rfl⟩
  rw [hps, hws, hns] at ht
  rw [hps] at hpa2
  rw [hws] at hw2
  rw [hhs] at hhl hm hp
  have hh2 : glook hs o = none := by rw [hhl, show klook hs0 o = none from hh]; rfl
  rw [show hsV (PV.hs ⟨p, H, q, hs0, qs⟩) = hs from hhs] at hg
  obtain ⟨qa, qc, rfl⟩ : ∃ qa qc, q = .slice qa 0 qc := by
    rcases hq with ⟨e, -⟩ | ⟨g, off, c, cur, e, -⟩
    · exact ⟨none, 0, e⟩
    · exact ⟨some ⟨g, off, none⟩, c, by rw [e, show qs = [] from hqs]; rfl⟩
  have hims := isMode_any w m
  rw [him] at hims
  have hob : (o == 0) = false := by simpa using ho
  have c1 : w.cell? ⟨T, 1, none⟩ = some (.map (some W)) := cell_of_row w T 1 _ _ _ ht.blk
  have hl1 := gmap_lookup (P := Try.prog) Try.underlying63 Try.underlying29 (z33 w) ht.wt o
  rw [hw2] at hl1
  change (Instr.lookup 63 (.map (some W)) (.int .u64 o) true).run Try.prog w = .ok (.tuple #[.agg #[.string ⟨#[]⟩, .int .i64 0], .bool false]) w at hl1
  obtain ⟨wA, hwA⟩ : ∃ wA, w.alloc (.cells #[.string ⟨#[]⟩, .int .i64 0] 33) = wA := ⟨_, rfl⟩
  have kA : ∀ k, k < w.heap.size → wA.heap[k]? = w.heap[k]? := fun k hk => by rw [← hwA, heap_alloc_old _ _ hk]
  have sA : wA.heap.size = w.heap.size + 1 := by rw [← hwA, World.size_alloc]
  have htA := ht.keep kA
  have hpA := hp.keep kA
  have c2 : wA.cell? ⟨T, 0, none⟩ = some (.map (some P)) := cell_of_row wA T 0 _ _ _ htA.blk
  have hl2 := gmap_lookup1 (P := Try.prog) Try.underlying62 Try.underlying9 (z67 wA) htA.pl s
  rw [hpa2] at hl2
  change (Instr.lookup 62 (.map (some P)) (.string s) false).run Try.prog wA = .ok (.pointer (some ⟨p, 0, none⟩)) wA at hl2
  obtain ⟨wB, hwB⟩ : ∃ wB, wA.alloc (.cells #[.pointer (some ⟨p, 0, none⟩)] 67) = wB := ⟨_, rfl⟩
  have kB : ∀ k, k < wA.heap.size → wB.heap[k]? = wA.heap[k]? := fun k hk => by rw [← hwB, heap_alloc_old _ _ hk]
  have sB : wB.heap.size = w.heap.size + 2 := by rw [← hwB, World.size_alloc, sA]
  have htB := htA.keep kB
  have hpB := hpA.keep kB
  have nB : wB.heap[w.heap.size + 1]? = some (.cells #[.pointer (some ⟨p, 0, none⟩)] 67 (0, 0)) := by rw [← hwB, ← sA]; exact heap_alloc_new wA _
  have c3 : wB.cell? ⟨w.heap.size + 1, 0, none⟩ = some (.pointer (some ⟨p, 0, none⟩)) := cell_of_row wB _ 0 _ _ _ nB
  have c4 : wB.cell? ⟨p, 0, none⟩ = some (.map (some H)) := cell_of_row wB p 0 _ _ _ hpB.blk
  have c5 : wB.cell? ⟨p, 1, none⟩ = some (.slice qa 0 qc) := cell_of_row wB p 1 _ _ _ hpB.blk
  have hl3 := gmap_lookup (P := Try.prog) Try.underlying68 Try.underlying29 (z3 wB) hpB.hl o
  rw [hh2] at hl3
  change (Instr.lookup 68 (.map (some H)) (.int .u64 o) true).run Try.prog wB = .ok (.tuple #[.int .i64 0, .bool false]) wB at hl3
  have hgo := goes_any wB p H _ hs o m hpB hm
  rw [hg] at hgo
  have HG := Lib.hid hgo
  have HN := Lib.hid nB
  have HBB : Hid (Below w.heap.size w wB) := by
    show Below _ _ _
    rw [← hwB, ← hwA]
    exact below_more (below_more (Below.refl _ _) _) _
  clear ht hp htA hpA htB hpB kA kB sA sB hgo nB h hx
  subst hwB
  subst hwA
  go_enter Try.func17, Try.ntmps17
  go_wp2_with fail
  refine hims.mono ?_
  rintro e w' ⟨rfl, rfl⟩
  go_wp2_with fail
  refine HG.out.mono ?_
  rintro e w2 ⟨rfl, hb2⟩
  have k2 : ∀ k, k < _ → w2.heap[k]? = _ := fun k hk => hb2.block k hk
  have c6 : w2.cell? ⟨w'.heap.size + 1, 0, none⟩ = some (.pointer (some ⟨p, 0, none⟩)) := cell_of_row w2 _ 0 _ _ _ ((k2 _ (Array.getElem?_eq_some_iff.1 HN.out).1).trans HN.out)
  have hho := hold_any ((HL.out.1.below HBB.out).below hb2) HL.out.2 o m
  have HH := Lib.hid hho
  clear hho hb2 k2
  go_wp2_with fail
  refine HH.out.mono ?_
  rintro e w3 ⟨rfl, nm', h3, hnm⟩
  go_wp2
  go_ret
  exact ⟨rfl, nm', h3, hnm⟩

/-- a holder asks for more, and nobody is in the way -/
theorem ask_up2 {W0 w : World} {t : TV} (h : TabL W0 w t) {i : Nat} {s : ByteArray} {x : PV} (hx : t.pl[i]? = some (s, x)) (hpa : klook t.pl s = some x) (o m : Int) (ho : o ≠ 0) (him : isM m = true) (hw : klook t.ws o = none) (m0 : Int) (hh : klook x.hs o = some m0) (hj : jn m0 m ≠ m0) (hg : goesP (hsV x.hs) o (jn m0 m) = true) :
    Calls Try.prog 17 #[.pointer (some ⟨t.T, 0, none⟩), .int .u64 o, .string s, .int .i64 m] w fun e w' => e = .returned (.int .i64 0) ∧ ∃ nm, TabL W0 w' (held1 t i (s, x) o (jn m0 m) nm) ∧ NmIs nm t.nm o s := by
  have hpa2 : glook (plV t.pl) s = some (.pointer (some ⟨x.p, 0, none⟩)) := by
    have h9 := glook_map (fun y : PV => Value.pointer (some ⟨y.p, 0, none⟩)) t.pl s
    rw [hpa] at h9
    exact h9
  have hw2 : glook (wsV t.ws) o = none := by
    have h9 := glook_map (fun y : ByteArray × Int => Value.agg #[.string y.1, .int .i64 y.2]) t.ws o
    rw [hw] at h9
    exact h9
  have hhl : glook (hsV x.hs) o = (klook x.hs o).map (fun k : Int => Value.int .i64 k) := glook_map (fun k : Int => Value.int .i64 k) x.hs o
  have hm : ModesAt (hsV x.hs) := fun q hq => by obtain ⟨y, -, rfl⟩ := List.mem_map.1 hq; exact ⟨y.2, rfl⟩
  have ht := h.rep.tab
  have hpl := h.rep.pls i _ hx
  have HL := Lib.hid (And.intro h hx)
  obtain ⟨T, P, W, N, pl, ws0, nm⟩ := t
  obtain ⟨p, H, q, hs0, qs⟩ := x
  simp only at ht hpl hpa2 hw2 hhl hm ⊢
  obtain ⟨hp, hq⟩ := hpl
  obtain ⟨ps, hps⟩ : ∃ ps, plV pl = ps := ⟨_, rfl⟩
  obtain ⟨ws, hws⟩ : ∃ ws, wsV ws0 = ws := ⟨_, rfl⟩
  obtain ⟨ns, hns⟩ : ∃ ns, nmV nm = ns := ⟨_, rfl⟩
  obtain ⟨hs, hhs⟩ : ∃ hs, hsV hs0 = hs := ⟨_, rfl⟩
  rw [hps, hws, hns] at ht
  rw [hps] at hpa2
  rw [hws] at hw2
  rw [hhs] at hhl hm hp
  have hh2 : glook hs o = some (.int .i64 m0) := by rw [hhl, show klook hs0 o = some m0 from hh]; rfl
  rw [show hsV (PV.hs ⟨p, H, q, hs0, qs⟩) = hs from hhs] at hg
  have hims := isMode_any w m
  rw [him] at hims
  have hob : (o == 0) = false := by simpa using ho
  have c1 : w.cell? ⟨T, 1, none⟩ = some (.map (some W)) := cell_of_row w T 1 _ _ _ ht.blk
  have hl1 := gmap_lookup (P := Try.prog) Try.underlying63 Try.underlying29 (z33 w) ht.wt o
  rw [hw2] at hl1
  change (Instr.lookup 63 (.map (some W)) (.int .u64 o) true).run Try.prog w = .ok (.tuple #[.agg #[.string ⟨#[]⟩, .int .i64 0], .bool false]) w at hl1
  obtain ⟨wA, hwA⟩ : ∃ wA, w.alloc (.cells #[.string ⟨#[]⟩, .int .i64 0] 33) = wA := ⟨_, rfl⟩
  have kA : ∀ k, k < w.heap.size → wA.heap[k]? = w.heap[k]? := fun k hk => by rw [← hwA, heap_alloc_old _ _ hk]
  have sA : wA.heap.size = w.heap.size + 1 := by rw [← hwA, World.size_alloc]
  have htA := ht.keep kA
  have hpA := hp.keep kA
  have c2 : wA.cell? ⟨T, 0, none⟩ = some (.map (some P)) := cell_of_row wA T 0 _ _ _ htA.blk
  have hl2 := gmap_lookup1 (P := Try.prog) Try.underlying62 Try.underlying9 (z67 wA) htA.pl s
  rw [hpa2] at hl2
  change (Instr.lookup 62 (.map (some P)) (.string s) false).run Try.prog wA = .ok (.pointer (some ⟨p, 0, none⟩)) wA at hl2
  obtain ⟨wB, hwB⟩ : ∃ wB, wA.alloc (.cells #[.pointer (some ⟨p, 0, none⟩)] 67) = wB := ⟨_, rfl⟩
  have kB : ∀ k, k < wA.heap.size → wB.heap[k]? = wA.heap[k]? := fun k hk => by rw [← hwB, heap_alloc_old _ _ hk]
  have htB := htA.keep kB
  have hpB := hpA.keep kB
  have nB : wB.heap[w.heap.size + 1]? = some (.cells #[.pointer (some ⟨p, 0, none⟩)] 67 (0, 0)) := by rw [← hwB, ← sA]; exact heap_alloc_new wA _
  have c3 : wB.cell? ⟨w.heap.size + 1, 0, none⟩ = some (.pointer (some ⟨p, 0, none⟩)) := cell_of_row wB _ 0 _ _ _ nB
  have c4 : wB.cell? ⟨p, 0, none⟩ = some (.map (some H)) := cell_of_row wB p 0 _ _ _ hpB.blk
  have hl3 := gmap_lookup (P := Try.prog) Try.underlying68 Try.underlying29 (z3 wB) hpB.hl o
  rw [hh2] at hl3
  change (Instr.lookup 68 (.map (some H)) (.int .u64 o) true).run Try.prog wB = .ok (.tuple #[.int .i64 m0, .bool true]) wB at hl3
  have hjn := join_any wB m0 m
  have hgo := goes_any wB p H _ hs o (jn m0 m) hpB hm
  rw [hg] at hgo
  obtain ⟨j, hjj⟩ : ∃ j, jn m0 m = j := ⟨_, rfl⟩
  rw [hjj] at hj hjn hgo ⊢
  have hjb : (j == m0) = false := by simpa using hj
  have HG := Lib.hid hgo
  have HJ := Lib.hid hjn
  have HN := Lib.hid nB
  have HBB : Hid (Below w.heap.size w wB) := by
    show Below _ _ _
    rw [← hwB, ← hwA]
    exact below_more (below_more (Below.refl _ _) _) _
  clear ht hp htA hpA htB hpB kA kB sA hgo nB hjn hjj h hx
  subst hwB
  subst hwA
  go_enter Try.func17, Try.ntmps17
  go_wp2_with fail
  refine hims.mono ?_
  rintro e w' ⟨rfl, rfl⟩
  go_wp2_with fail
  refine HJ.out.mono ?_
  rintro e w2 ⟨rfl, rfl⟩
  go_wp2_with fail
  refine HG.out.mono ?_
  rintro e w2 ⟨rfl, hb2⟩
  have k2 : ∀ k, k < _ → w2.heap[k]? = _ := fun k hk => hb2.block k hk
  have c6 : w2.cell? ⟨w'.heap.size + 1, 0, none⟩ = some (.pointer (some ⟨p, 0, none⟩)) := cell_of_row w2 _ 0 _ _ _ ((k2 _ (Array.getElem?_eq_some_iff.1 HN.out).1).trans HN.out)
  have hho := hold_any ((HL.out.1.below HBB.out).below hb2) HL.out.2 o j
  have HH := Lib.hid hho
  clear hho hb2 k2
  go_wp2_with fail
  refine HH.out.mono ?_
  rintro e w3 ⟨rfl, nm', h3, hnm⟩
  go_wp2
  go_ret
  exact ⟨rfl, nm', h3, hnm⟩

/-- a holder asks for no more than it holds -/
theorem ask_same2 {W0 w : World} {t : TV} (h : TabL W0 w t) {i : Nat} {s : ByteArray} {x : PV} (hx : t.pl[i]? = some (s, x)) (hpa : klook t.pl s = some x) (o m : Int) (ho : o ≠ 0) (him : isM m = true) (hw : klook t.ws o = none) (m0 : Int) (hh : klook x.hs o = some m0) (hj : jn m0 m = m0) :
    Calls Try.prog 17 #[.pointer (some ⟨t.T, 0, none⟩), .int .u64 o, .string s, .int .i64 m] w fun e w' => e = .returned (.int .i64 0) ∧ TabL W0 w' t := by
  have hpa2 : glook (plV t.pl) s = some (.pointer (some ⟨x.p, 0, none⟩)) := by
    have h9 := glook_map (fun y : PV => Value.pointer (some ⟨y.p, 0, none⟩)) t.pl s
    rw [hpa] at h9
    exact h9
  have hw2 : glook (wsV t.ws) o = none := by
    have h9 := glook_map (fun y : ByteArray × Int => Value.agg #[.string y.1, .int .i64 y.2]) t.ws o
    rw [hw] at h9
    exact h9
  have hhl : glook (hsV x.hs) o = (klook x.hs o).map (fun k : Int => Value.int .i64 k) := glook_map (fun k : Int => Value.int .i64 k) x.hs o
  have hm : ModesAt (hsV x.hs) := fun q hq => by obtain ⟨y, -, rfl⟩ := List.mem_map.1 hq; exact ⟨y.2, rfl⟩
  have ht := h.rep.tab
  have hpl := h.rep.pls i _ hx
  have HL := Lib.hid (And.intro h hx)
  obtain ⟨T, P, W, N, pl, ws0, nm⟩ := t
  obtain ⟨p, H, q, hs0, qs⟩ := x
  simp only at ht hpl hpa2 hw2 hhl hm ⊢
  obtain ⟨hp, hq⟩ := hpl
  obtain ⟨ps, hps⟩ : ∃ ps, plV pl = ps := ⟨_, rfl⟩
  obtain ⟨ws, hws⟩ : ∃ ws, wsV ws0 = ws := ⟨_, rfl⟩
  obtain ⟨ns, hns⟩ : ∃ ns, nmV nm = ns := ⟨_, rfl⟩
  obtain ⟨hs, hhs⟩ : ∃ hs, hsV hs0 = hs := ⟨_, rfl⟩
  rw [hps, hws, hns] at ht
  rw [hps] at hpa2
  rw [hws] at hw2
  rw [hhs] at hhl hm hp
  have hh2 : glook hs o = some (.int .i64 m0) := by rw [hhl, show klook hs0 o = some m0 from hh]; rfl
  refine (ask_same w T P W N p H ps ws ns hs o m m0 s ht hpa2 hp ho him hw2 hh2 hj).mono ?_
  rintro e w' ⟨rfl, hb⟩
  exact ⟨rfl, HL.out.1.below hb⟩

/-- no owner, or no mode -/
theorem ask_bad (w : World) (T : Nat) (o m : Int) (s : ByteArray) (hb : o = 0 ∨ isM m = false) :
    Calls Try.prog 17 #[.pointer (some ⟨T, 0, none⟩), .int .u64 o, .string s, .int .i64 m] w fun e w' => e = .returned (.int .i64 1) ∧ w = w' := by
  by_cases ho : o = 0
  · subst ho
    go_enter Try.func17, Try.ntmps17
    go_wp2
    go_ret
    exact ⟨rfl, rfl⟩
  · have hob : (o == 0) = false := by simpa using ho
    have hims := isMode_any w m
    rw [hb.resolve_left ho] at hims
    go_enter Try.func17, Try.ntmps17
    go_wp2_with fail
    refine hims.mono ?_
    rintro e w' ⟨rfl, rfl⟩
    go_wp2
    go_ret
    exact ⟨rfl, rfl⟩

/-- an owner that waits already -/
theorem ask_state {W0 w : World} {t : TV} (h : TabL W0 w t) (o m : Int) (s : ByteArray) (ho : o ≠ 0) (him : isM m = true) {y : ByteArray × Int} (hw : klook t.ws o = some y) :
    Calls Try.prog 17 #[.pointer (some ⟨t.T, 0, none⟩), .int .u64 o, .string s, .int .i64 m] w fun e w' => e = .returned (.int .i64 18) ∧ TabL W0 w' t := by
  have hims := isMode_any w m
  rw [him] at hims
  have hob : (o == 0) = false := by simpa using ho
  have c1 : w.cell? ⟨t.T, 1, none⟩ = some (.map (some t.W)) := cell_of_row w t.T 1 _ _ _ h.rep.tab.blk
  have hl1 := gmap_lookup (P := Try.prog) Try.underlying63 Try.underlying29 (z33 w) h.rep.tab.wt o
  have hw2 : glook (wsV t.ws) o = some (.agg #[.string y.1, .int .i64 y.2]) := by
    have h9 := glook_map (fun y : ByteArray × Int => Value.agg #[.string y.1, .int .i64 y.2]) t.ws o
    rw [hw] at h9
    exact h9
  rw [hw2] at hl1
  change (Instr.lookup 63 (.map (some t.W)) (.int .u64 o) true).run Try.prog w = .ok (.tuple #[.agg #[.string y.1, .int .i64 y.2], .bool true]) w at hl1
  have HB : Hid (TabL W0 (w.alloc (.cells #[.string y.1, .int .i64 y.2] 33)) t) := h.below ((Below.refl _ _).alloc (Nat.le_refl _) _)
  clear h hw2
  go_enter Try.func17, Try.ntmps17
  go_wp2_with fail
  refine hims.mono ?_
  rintro e w' ⟨rfl, rfl⟩
  go_wp2
  go_ret
  exact ⟨rfl, HB.out⟩
end Mun
end

section
/- Contracts of Ask over a whole table, where the lock is granted at once, or the asking is refused; what stays beside the table. (LockV's and LockW's texts over TabS.) -/
set_option maxRecDepth 100000
set_option linter.unusedVariables false
set_option linter.unusedSimpArgs false
namespace Mun
open Go Go.RowKit
open Go.Proofs

/-- a name of which nothing is known -/
theorem ask_fresh_s {W0 : Bnd} {w : World} {t : TV} (h : TabS W0 w t) (o m : Int) (s : ByteArray) (ho : o ≠ 0) (him : isM m = true) (hw : klook t.ws o = none) (hpa : klook t.pl s = none) :
    Calls Try.prog 17 #[.pointer (some ⟨t.T, 0, none⟩), .int .u64 o, .string s, .int .i64 m] w fun e w' => e = .returned (.int .i64 0) ∧
      ∃ p H nm, TabS W0 w' (held1 (plN t s p H) t.pl.length (s, ⟨p, H, .slice none 0 0, [], []⟩) o m nm) ∧ NmIs nm t.nm o s := by
  have hpa2 : glook (plV t.pl) s = none := by
    have h9 := glook_map (fun y : PV => Value.pointer (some ⟨y.p, 0, none⟩)) t.pl s
    rw [hpa] at h9
    exact h9
  have hw2 : glook (wsV t.ws) o = none := by
    have h9 := glook_map (fun y : ByteArray × Int => Value.agg #[.string y.1, .int .i64 y.2]) t.ws o
    rw [hw] at h9
    exact h9
  have ht := h.rep.tab
  have d4 : t.N ≠ t.P := h.rep.d0.2.1.symm
  have d5 : t.N ≠ t.W := h.rep.d0.2.2.symm
  have d6 : t.P ≠ t.W := h.rep.d0.1
  have HL := Lib.hid h
  obtain ⟨T, P, W, N, pl, ws0, nm⟩ := t
  simp only at ht d4 d5 d6 hpa2 hw2 hpa ⊢
  obtain ⟨ps, hps⟩ : ∃ ps, plV pl = ps := ⟨_, rfl⟩
  obtain ⟨ws, hws⟩ : ∃ ws, wsV ws0 = ws := ⟨_, rfl⟩
  obtain ⟨ns, hns⟩ : ∃ ns, nmV nm = ns := ⟨_, rfl⟩
  rw [hps, hws, hns] at ht
  rw [hps] at hpa2
  rw [hws] at hw2
  have hims := isMode_any w m
  rw [him] at hims
  have hob : (o == 0) = false := by simpa using ho
  have c1 : w.cell? ⟨T, 1, none⟩ = some (.map (some W)) := cell_of_row w T 1 _ _ _ ht.blk
  have hl1 := gmap_lookup (P := Try.prog) Try.underlying63 Try.underlying29 (z33 w) ht.wt o
  rw [hw2] at hl1
  change (Instr.lookup 63 (.map (some W)) (.int .u64 o) true).run Try.prog w = .ok (.tuple #[.agg #[.string ⟨#[]⟩, .int .i64 0], .bool false]) w at hl1
  obtain ⟨wA, hwA⟩ : ∃ wA, w.alloc (.cells #[.string ⟨#[]⟩, .int .i64 0] 33) = wA := ⟨_, rfl⟩
  have kA : ∀ k, k < w.heap.size → wA.heap[k]? = w.heap[k]? := fun k hk => by rw [← hwA, heap_alloc_old _ _ hk]
  have sA : wA.heap.size = w.heap.size + 1 := by rw [← hwA, World.size_alloc]
  have htA := ht.keep kA
  have c2 : wA.cell? ⟨T, 0, none⟩ = some (.map (some P)) := cell_of_row wA T 0 _ _ _ htA.blk
  have hl2 := gmap_lookup1 (P := Try.prog) Try.underlying62 Try.underlying9 (z67 wA) htA.pl s
  rw [hpa2] at hl2
  change (Instr.lookup 62 (.map (some P)) (.string s) false).run Try.prog wA = .ok (.pointer none) wA at hl2
  have hmm := run_makeMap (P := Try.prog) 68
  obtain ⟨wE, hwE⟩ : ∃ wE, (((wA.alloc (.cells #[.pointer (some ⟨w.heap.size + 1 + 1 + 1, 0, none⟩)] 67)).alloc (.map #[] 0)).alloc (.cells #[.map (some (w.heap.size + 1 + 1)), .slice none 0 0] 71)) = wE := ⟨_, rfl⟩
  have kE : ∀ k, k < wA.heap.size → wE.heap[k]? = wA.heap[k]? := fun k hk => by
    rw [← hwE, heap_alloc_old _ _ (by simp; omega), heap_alloc_old _ _ (by simp; omega), heap_alloc_old _ _ hk]
  have sE : wE.heap.size = w.heap.size + 4 := by rw [← hwE]; simp [World.size_alloc, sA]
  have htE := htA.keep kE
  have n1 : wE.heap[w.heap.size + 1]? = some (.cells #[.pointer (some ⟨w.heap.size + 1 + 1 + 1, 0, none⟩)] 67 (0, 0)) := by
    rw [← hwE, heap_alloc_old _ _ (by simp; omega), heap_alloc_old _ _ (by simp; omega), ← sA]; exact heap_alloc_new wA _
  have n2 : GMap (α := Int) wE (w.heap.size + 1 + 1) [] := by
    have h := gmap_new (α := Int) (wA.alloc (.cells #[.pointer (some ⟨w.heap.size + 1 + 1 + 1, 0, none⟩)] 67))
    rw [World.size_alloc, sA] at h
    refine h.keep ?_
    rw [← hwE, heap_alloc_old _ _ (by simp; omega)]
  have n3 : wE.heap[w.heap.size + 1 + 1 + 1]? = some (.cells #[.map (some (w.heap.size + 1 + 1)), .slice none 0 0] 71 (0, 0)) := by
    have h := heap_alloc_new ((wA.alloc (.cells #[.pointer (some ⟨w.heap.size + 1 + 1 + 1, 0, none⟩)] 67)).alloc (.map #[] 0)) (.cells #[.map (some (w.heap.size + 1 + 1)), .slice none 0 0] 71)
    rw [World.size_alloc, World.size_alloc, sA, hwE] at h
    exact h
  have cE : wE.cell? ⟨T, 0, none⟩ = some (.map (some P)) := cell_of_row wE T 0 _ _ _ htE.blk
  have cE1 : wE.cell? ⟨w.heap.size + 1, 0, none⟩ = some (.pointer (some ⟨w.heap.size + 1 + 1 + 1, 0, none⟩)) := cell_of_row wE _ 0 _ _ _ n1
  have hPl := ht.pl.lt
  have hNl := ht.nm.lt
  have hWl := ht.wt.lt
  have hTl : T < w.heap.size := (Array.getElem?_eq_some_iff.1 ht.blk).1
  have nTP : T ≠ P := by
    rintro rfl
    obtain ⟨l, c, h, -⟩ := ht.pl
    have := h.2.2.2
    rw [ht.blk] at this
    cases this
  obtain ⟨oF, huF, hgF⟩ := gmap_update (P := Try.prog) Try.underlying62 Try.underlying9 (htE.pl.keep (w' := wE.drew) rfl) s (.pointer (some ⟨w.heap.size + 1 + 1 + 1, 0, none⟩))
  change (Instr.mapUpdate 62 (.map (some P)) (.string s) (.pointer (some ⟨w.heap.size + 1 + 1 + 1, 0, none⟩))).run Try.prog wE.drew = _ at huF
  obtain ⟨wF, hwF⟩ : ∃ wF, setObjW wE.drew P oF = wF := ⟨_, rfl⟩
  rw [hwF] at huF hgF
  have kF : ∀ k, k ≠ P → wF.heap[k]? = wE.heap[k]? := fun k hk => by rw [← hwF, setObjW_other _ _ _ _ hk]; rfl
  have sF : wF.heap.size = w.heap.size + 4 := by rw [← hwF, setObjW_size]; exact sE
  have htF : TabAt wF T P W N (gset ps s (.pointer (some ⟨w.heap.size + 1 + 1 + 1, 0, none⟩))) ws ns :=
    ⟨(kF T nTP).trans htE.blk, hgF, htE.wt.keep (kF W (Ne.symm d6)), htE.nm.keep (kF N d4)⟩
  have hpF : PlAt wF (w.heap.size + 1 + 1 + 1) (w.heap.size + 1 + 1) (.slice none 0 0) [] := ⟨(kF _ (by omega)).trans n3, n2.keep (kF _ (by omega))⟩
  have nF : wF.heap[w.heap.size + 1]? = _ := (kF _ (by omega)).trans n1
  have c3 : wF.cell? ⟨w.heap.size + 1, 0, none⟩ = some (.pointer (some ⟨w.heap.size + 1 + 1 + 1, 0, none⟩)) := cell_of_row wF _ 0 _ _ _ nF
  have c4 : wF.cell? ⟨w.heap.size + 1 + 1 + 1, 0, none⟩ = some (.map (some (w.heap.size + 1 + 1))) := cell_of_row wF _ 0 _ _ _ hpF.blk
  have c5 : wF.cell? ⟨w.heap.size + 1 + 1 + 1, 1, none⟩ = some (.slice none 0 0) := cell_of_row wF _ 1 _ _ _ hpF.blk
  have hl3 := gmap_lookup (P := Try.prog) Try.underlying68 Try.underlying29 (z3 wF) hpF.hl o
  change (Instr.lookup 68 (.map (some (w.heap.size + 1 + 1))) (.int .u64 o) true).run Try.prog wF = .ok (.tuple #[.int .i64 0, .bool false]) wF at hl3
  have hgo := goes_any wF _ _ _ [] o m hpF (fun _ h => by simp at h)
  rw [show goesP [] o m = true from rfl] at hgo
  have htl : TabS W0 wF (plN ⟨T, P, W, N, pl, ws0, nm⟩ s (w.heap.size + 1 + 1 + 1) (w.heap.size + 1 + 1)) := by
    have h9 := gset_map (fun y : PV => Value.pointer (some ⟨y.p, 0, none⟩)) pl s ⟨w.heap.size + 1 + 1 + 1, w.heap.size + 1 + 1, .slice none 0 0, [], []⟩
    rw [kset_new hpa] at h9
    have h8 := hgF
    rw [← hps] at h8
    unfold plV at h8
    rw [h9] at h8
    have hkF : ∀ k, k < w.heap.size → k ≠ P → wF.heap[k]? = w.heap[k]? := fun k hk hP => ((kF k hP).trans (kE k (by omega))).trans (kA k hk)
    have hl := HL.out.lo
    have hb := HL.out.bl
    have hbs := hb.size
    simp only at hl
    refine ⟨HL.out.rep.placeNew h8 hpF (by omega) (by omega) hkF, hb.step (by omega) (by rw [← hwF, ← hwE, ← hwA]; rfl) (by rw [← hwF, ← hwE, ← hwA]; rfl) (by rw [← hwF, ← hwE, ← hwA]; rfl) (fun k hk => hkF k (hb.lt2 hk) (fun e => hl.2.1 (e ▸ hk))), hl, fun j y hy => ?_, HL.out.loN⟩
    rcases snoc_idx hy with h7 | ⟨-, rfl⟩
    · exact HL.out.loP j y h7
    · exact ⟨hb.nS (by show w.heap.size ≤ w.heap.size + 1 + 1 + 1; omega), hb.nS (by show w.heap.size ≤ w.heap.size + 1 + 1; omega), fun g hg => by simp [qblk] at hg⟩
  have HG := Lib.hid hgo
  have HTL := Lib.hid htl
  have HNF := Lib.hid nF
  clear ht htA kA sA kE sE htE n1 n2 n3 hgF hwF kF sF htF hpF nF hgo hPl hNl hWl hTl nTP htl h
  subst hwE
  subst hwA
  go_enter Try.func17, Try.ntmps17
  go_wp2_with fail
  refine hims.mono ?_
  rintro e w' ⟨rfl, rfl⟩
  go_wp2_with fail
  obtain ⟨wq, hwq⟩ : ∃ wq, (((((w'.alloc (.cells #[.string ⟨#[]⟩, .int .i64 0] 33)).alloc (.cells #[.pointer (some ⟨w'.heap.size + 1 + 1 + 1, 0, none⟩)] 67)).alloc (.map #[] 0)).alloc (.cells #[.map (some (w'.heap.size + 1 + 1)), .slice none 0 0] 71))) = wq := ⟨_, rfl⟩
  rw [hwq] at cE cE1 huF ⊢
  clear hwq
  go_still_tail 6, (by kernel_rfl)
  change wpList _ _ _ _ _ wq.drew
  go_wp2_with fail
  refine HG.out.mono ?_
  rintro e w2 ⟨rfl, hb2⟩
  have k2 : ∀ k, k < _ → w2.heap[k]? = _ := fun k hk => hb2.block k hk
  have c6 : w2.cell? ⟨w'.heap.size + 1, 0, none⟩ = some (.pointer (some ⟨w'.heap.size + 1 + 1 + 1, 0, none⟩)) := cell_of_row w2 _ 0 _ _ _ ((k2 _ (Array.getElem?_eq_some_iff.1 HNF.out).1).trans HNF.out)
  have hho := hold_s (HTL.out.below hb2) (i := pl.length) (x := (s, ⟨w'.heap.size + 1 + 1 + 1, w'.heap.size + 1 + 1, .slice none 0 0, [], []⟩)) (by simp [plN]) o m
  have HH := Lib.hid hho
  clear hho hb2 k2
  go_wp2_with fail
  refine HH.out.mono ?_
  rintro e w3 ⟨rfl, nm', h3, hnm⟩
  go_wp2
  go_ret
  exact ⟨rfl, _, _, nm', h3, hnm⟩
/-- nobody waits, and the holders let it -/
theorem ask_there2_s {W0 : Bnd} {w : World} {t : TV} (h : TabS W0 w t) {i : Nat} {s : ByteArray} {x : PV} (hx : t.pl[i]? = some (s, x)) (hpa : klook t.pl s = some x) (o m : Int) (ho : o ≠ 0) (him : isM m = true) (hw : klook t.ws o = none) (hh : klook x.hs o = none) (hqs : x.qs = []) (hg : goesP (hsV x.hs) o m = true) :
    Calls Try.prog 17 #[.pointer (some ⟨t.T, 0, none⟩), .int .u64 o, .string s, .int .i64 m] w fun e w' => e = .returned (.int .i64 0) ∧ ∃ nm, TabS W0 w' (held1 t i (s, x) o m nm) ∧ NmIs nm t.nm o s := by
  have hpa2 : glook (plV t.pl) s = some (.pointer (some ⟨x.p, 0, none⟩)) := by
    have h9 := glook_map (fun y : PV => Value.pointer (some ⟨y.p, 0, none⟩)) t.pl s
    rw [hpa] at h9
    exact h9
  have hw2 : glook (wsV t.ws) o = none := by
    have h9 := glook_map (fun y : ByteArray × Int => Value.agg #[.string y.1, .int .i64 y.2]) t.ws o
    rw [hw] at h9
    exact h9
  have hhl : glook (hsV x.hs) o = (klook x.hs o).map (fun k : Int => Value.int .i64 k) := glook_map (fun k : Int => Value.int .i64 k) x.hs o
  have hm : ModesAt (hsV x.hs) := fun q hq => by obtain ⟨y, -, rfl⟩ := List.mem_map.1 hq; exact ⟨y.2, rfl⟩
  have ht := h.rep.tab
  have hpl := h.rep.pls i _ hx
  have HL := Lib.hid (And.intro h hx)
  obtain ⟨T, P, W, N, pl, ws0, nm⟩ := t
  obtain ⟨p, H, q, hs0, qs⟩ := x
  simp only at ht hpl hpa2 hw2 hhl hm ⊢
  obtain ⟨hp, hq⟩ := hpl
  obtain ⟨ps, hps⟩ : ∃ ps, plV pl = ps := ⟨_, rfl⟩
  obtain ⟨ws, hws⟩ : ∃ ws, wsV ws0 = ws := ⟨_, rfl⟩
  obtain ⟨ns, hns⟩ : ∃ ns, nmV nm = ns := ⟨_, rfl⟩
  obtain ⟨hs, hhs⟩ : ∃ hs, hsV hs0 = hs := ⟨_, rfl⟩
  rw [hps, hws, hns] at ht
  rw [hps] at hpa2
  rw [hws] at hw2
  rw [hhs] at hhl hm hp
  have hh2 : glook hs o = none := by rw [hhl, show klook hs0 o = none from hh]; rfl
  rw [show hsV (PV.hs ⟨p, H, q, hs0, qs⟩) = hs from hhs] at hg
  obtain ⟨qa, qc, rfl⟩ : ∃ qa qc, q = .slice qa 0 qc := by
    rcases hq with ⟨e, -⟩ | ⟨g, off, c, cur, e, -⟩
    · exact ⟨none, 0, e⟩
    · exact ⟨some ⟨g, off, none⟩, c, by rw [e, show qs = [] from hqs]; rfl⟩
  have hims := isMode_any w m
  rw [him] at hims
  have hob : (o == 0) = false := by simpa using ho
  have c1 : w.cell? ⟨T, 1, none⟩ = some (.map (some W)) := cell_of_row w T 1 _ _ _ ht.blk
  have hl1 := gmap_lookup (P := Try.prog) Try.underlying63 Try.underlying29 (z33 w) ht.wt o
  rw [hw2] at hl1
  change (Instr.lookup 63 (.map (some W)) (.int .u64 o) true).run Try.prog w = .ok (.tuple #[.agg #[.string ⟨#[]⟩, .int .i64 0], .bool false]) w at hl1
  obtain ⟨wA, hwA⟩ : ∃ wA, w.alloc (.cells #[.string ⟨#[]⟩, .int .i64 0] 33) = wA := ⟨_, rfl⟩
  have kA : ∀ k, k < w.heap.size → wA.heap[k]? = w.heap[k]? := fun k hk => by rw [← hwA, heap_alloc_old _ _ hk]
  have sA : wA.heap.size = w.heap.size + 1 := by rw [← hwA, World.size_alloc]
  have htA := ht.keep kA
  have hpA := hp.keep kA
  have c2 : wA.cell? ⟨T, 0, none⟩ = some (.map (some P)) := cell_of_row wA T 0 _ _ _ htA.blk
  have hl2 := gmap_lookup1 (P := Try.prog) Try.underlying62 Try.underlying9 (z67 wA) htA.pl s
  rw [hpa2] at hl2
  change (Instr.lookup 62 (.map (some P)) (.string s) false).run Try.prog wA = .ok (.pointer (some ⟨p, 0, none⟩)) wA at hl2
  obtain ⟨wB, hwB⟩ : ∃ wB, wA.alloc (.cells #[.pointer (some ⟨p, 0, none⟩)] 67) = wB := ⟨_, rfl⟩
  have kB : ∀ k, k < wA.heap.size → wB.heap[k]? = wA.heap[k]? := fun k hk => by rw [← hwB, heap_alloc_old _ _ hk]
  have sB : wB.heap.size = w.heap.size + 2 := by rw [← hwB, World.size_alloc, sA]
  have htB := htA.keep kB
  have hpB := hpA.keep kB
  have nB : wB.heap[w.heap.size + 1]? = some (.cells #[.pointer (some ⟨p, 0, none⟩)] 67 (0, 0)) := by rw [← hwB, ← sA]; exact heap_alloc_new wA _
  have c3 : wB.cell? ⟨w.heap.size + 1, 0, none⟩ = some (.pointer (some ⟨p, 0, none⟩)) := cell_of_row wB _ 0 _ _ _ nB
  have c4 : wB.cell? ⟨p, 0, none⟩ = some (.map (some H)) := cell_of_row wB p 0 _ _ _ hpB.blk
  have c5 : wB.cell? ⟨p, 1, none⟩ = some (.slice qa 0 qc) := cell_of_row wB p 1 _ _ _ hpB.blk
  have hl3 := gmap_lookup (P := Try.prog) Try.underlying68 Try.underlying29 (z3 wB) hpB.hl o
  rw [hh2] at hl3
  change (Instr.lookup 68 (.map (some H)) (.int .u64 o) true).run Try.prog wB = .ok (.tuple #[.int .i64 0, .bool false]) wB at hl3
  have hgo := goes_any wB p H _ hs o m hpB hm
  rw [hg] at hgo
  have HG := Lib.hid hgo
  have HN := Lib.hid nB
  have HBB : Hid (Below w.heap.size w wB) := by
    show Below _ _ _
    rw [← hwB, ← hwA]
    exact below_more (below_more (Below.refl _ _) _) _
  clear ht hp htA hpA htB hpB kA kB sA sB hgo nB h hx
  subst hwB
  subst hwA
  go_enter Try.func17, Try.ntmps17
  go_wp2_with fail
  refine hims.mono ?_
  rintro e w' ⟨rfl, rfl⟩
  go_wp2_with fail
  refine HG.out.mono ?_
  rintro e w2 ⟨rfl, hb2⟩
  have k2 : ∀ k, k < _ → w2.heap[k]? = _ := fun k hk => hb2.block k hk
  have c6 : w2.cell? ⟨w'.heap.size + 1, 0, none⟩ = some (.pointer (some ⟨p, 0, none⟩)) := cell_of_row w2 _ 0 _ _ _ ((k2 _ (Array.getElem?_eq_some_iff.1 HN.out).1).trans HN.out)
  have hho := hold_s ((HL.out.1.below HBB.out).below hb2) HL.out.2 o m
  have HH := Lib.hid hho
  clear hho hb2 k2
  go_wp2_with fail
  refine HH.out.mono ?_
  rintro e w3 ⟨rfl, nm', h3, hnm⟩
  go_wp2
  go_ret
  exact ⟨rfl, nm', h3, hnm⟩

/-- a holder asks for more, and nobody is in the way -/
theorem ask_up2_s {W0 : Bnd} {w : World} {t : TV} (h : TabS W0 w t) {i : Nat} {s : ByteArray} {x : PV} (hx : t.pl[i]? = some (s, x)) (hpa : klook t.pl s = some x) (o m : Int) (ho : o ≠ 0) (him : isM m = true) (hw : klook t.ws o = none) (m0 : Int) (hh : klook x.hs o = some m0) (hj : jn m0 m ≠ m0) (hg : goesP (hsV x.hs) o (jn m0 m) = true) :
    Calls Try.prog 17 #[.pointer (some ⟨t.T, 0, none⟩), .int .u64 o, .string s, .int .i64 m] w fun e w' => e = .returned (.int .i64 0) ∧ ∃ nm, TabS W0 w' (held1 t i (s, x) o (jn m0 m) nm) ∧ NmIs nm t.nm o s := by
  have hpa2 : glook (plV t.pl) s = some (.pointer (some ⟨x.p, 0, none⟩)) := by
    have h9 := glook_map (fun y : PV => Value.pointer (some ⟨y.p, 0, none⟩)) t.pl s
    rw [hpa] at h9
    exact h9
  have hw2 : glook (wsV t.ws) o = none := by
    have h9 := glook_map (fun y : ByteArray × Int => Value.agg #[.string y.1, .int .i64 y.2]) t.ws o
    rw [hw] at h9
    exact h9
  have hhl : glook (hsV x.hs) o = (klook x.hs o).map (fun k : Int => Value.int .i64 k) := glook_map (fun k : Int => Value.int .i64 k) x.hs o
  have hm : ModesAt (hsV x.hs) := fun q hq => by obtain ⟨y, -, rfl⟩ := List.mem_map.1 hq; exact ⟨y.2, rfl⟩
  have ht := h.rep.tab
  have hpl := h.rep.pls i _ hx
  have HL := Lib.hid (And.intro h hx)
  obtain ⟨T, P, W, N, pl, ws0, nm⟩ := t
  obtain ⟨p, H, q, hs0, qs⟩ := x
  simp only at ht hpl hpa2 hw2 hhl hm ⊢
  obtain ⟨hp, hq⟩ := hpl
  obtain ⟨ps, hps⟩ : ∃ ps, plV pl = ps := ⟨_, rfl⟩
  obtain ⟨ws, hws⟩ : ∃ ws, wsV ws0 = ws := ⟨_, rfl⟩
  obtain ⟨ns, hns⟩ : ∃ ns, nmV nm = ns := ⟨_, rfl⟩
  obtain ⟨hs, hhs⟩ : ∃ hs, hsV hs0 = hs := ⟨_, rfl⟩
  rw [hps, hws, hns] at ht
  rw [hps] at hpa2
  rw [hws] at hw2
  rw [hhs] at hhl hm hp
  have hh2 : glook hs o = some (.int .i64 m0) := by rw [hhl, show klook hs0 o = some m0 from hh]; rfl
  rw [show hsV (PV.hs ⟨p, H, q, hs0, qs⟩) = hs from hhs] at hg
  have hims := isMode_any w m
  rw [him] at hims
  have hob : (o == 0) = false := by simpa using ho
  have c1 : w.cell? ⟨T, 1, none⟩ = some (.map (some W)) := cell_of_row w T 1 _ _ _ ht.blk
  have hl1 := gmap_lookup (P := Try.prog) Try.underlying63 Try.underlying29 (z33 w) ht.wt o
  rw [hw2] at hl1
  change (Instr.lookup 63 (.map (some W)) (.int .u64 o) true).run Try.prog w = .ok (.tuple #[.agg #[.string ⟨#[]⟩, .int .i64 0], .bool false]) w at hl1
  obtain ⟨wA, hwA⟩ : ∃ wA, w.alloc (.cells #[.string ⟨#[]⟩, .int .i64 0] 33) = wA := ⟨_, rfl⟩
  have kA : ∀ k, k < w.heap.size → wA.heap[k]? = w.heap[k]? := fun k hk => by rw [← hwA, heap_alloc_old _ _ hk]
  have sA : wA.heap.size = w.heap.size + 1 := by rw [← hwA, World.size_alloc]
  have htA := ht.keep kA
  have hpA := hp.keep kA
  have c2 : wA.cell? ⟨T, 0, none⟩ = some (.map (some P)) := cell_of_row wA T 0 _ _ _ htA.blk
  have hl2 := gmap_lookup1 (P := Try.prog) Try.underlying62 Try.underlying9 (z67 wA) htA.pl s
  rw [hpa2] at hl2
  change (Instr.lookup 62 (.map (some P)) (.string s) false).run Try.prog wA = .ok (.pointer (some ⟨p, 0, none⟩)) wA at hl2
  obtain ⟨wB, hwB⟩ : ∃ wB, wA.alloc (.cells #[.pointer (some ⟨p, 0, none⟩)] 67) = wB := ⟨_, rfl⟩
  have kB : ∀ k, k < wA.heap.size → wB.heap[k]? = wA.heap[k]? := fun k hk => by rw [← hwB, heap_alloc_old _ _ hk]
  have htB := htA.keep kB
  have hpB := hpA.keep kB
  have nB : wB.heap[w.heap.size + 1]? = some (.cells #[.pointer (some ⟨p, 0, none⟩)] 67 (0, 0)) := by rw [← hwB, ← sA]; exact heap_alloc_new wA _
  have c3 : wB.cell? ⟨w.heap.size + 1, 0, none⟩ = some (.pointer (some ⟨p, 0, none⟩)) := cell_of_row wB _ 0 _ _ _ nB
  have c4 : wB.cell? ⟨p, 0, none⟩ = some (.map (some H)) := cell_of_row wB p 0 _ _ _ hpB.blk
  have hl3 := gmap_lookup (P := Try.prog) Try.underlying68 Try.underlying29 (z3 wB) hpB.hl o
  rw [hh2] at hl3
  change (Instr.lookup 68 (.map (some H)) (.int .u64 o) true).run Try.prog wB = .ok (.tuple #[.int .i64 m0, .bool true]) wB at hl3
  have hjn := join_any wB m0 m
  have hgo := goes_any wB p H _ hs o (jn m0 m) hpB hm
  rw [hg] at hgo
  obtain ⟨j, hjj⟩ : ∃ j, jn m0 m = j := ⟨_, rfl⟩
  rw [hjj] at hj hjn hgo ⊢
  have hjb : (j == m0) = false := by simpa using hj
  have HG := Lib.hid hgo
  have HJ := Lib.hid hjn
  have HN := Lib.hid nB
  have HBB : Hid (Below w.heap.size w wB) := by
    show Below _ _ _
    rw [← hwB, ← hwA]
    exact below_more (below_more (Below.refl _ _) _) _
  clear ht hp htA hpA htB hpB kA kB sA hgo nB hjn hjj h hx
  subst hwB
  subst hwA
  go_enter Try.func17, Try.ntmps17
  go_wp2_with fail
  refine hims.mono ?_
  rintro e w' ⟨rfl, rfl⟩
  go_wp2_with fail
  refine HJ.out.mono ?_
  rintro e w2 ⟨rfl, rfl⟩
  go_wp2_with fail
  refine HG.out.mono ?_
  rintro e w2 ⟨rfl, hb2⟩
  have k2 : ∀ k, k < _ → w2.heap[k]? = _ := fun k hk => hb2.block k hk
  have c6 : w2.cell? ⟨w'.heap.size + 1, 0, none⟩ = some (.pointer (some ⟨p, 0, none⟩)) := cell_of_row w2 _ 0 _ _ _ ((k2 _ (Array.getElem?_eq_some_iff.1 HN.out).1).trans HN.out)
  have hho := hold_s ((HL.out.1.below HBB.out).below hb2) HL.out.2 o j
  have HH := Lib.hid hho
  clear hho hb2 k2
  go_wp2_with fail
  refine HH.out.mono ?_
  rintro e w3 ⟨rfl, nm', h3, hnm⟩
  go_wp2
  go_ret
  exact ⟨rfl, nm', h3, hnm⟩

/-- a holder asks for no more than it holds -/
theorem ask_same2_s {W0 : Bnd} {w : World} {t : TV} (h : TabS W0 w t) {i : Nat} {s : ByteArray} {x : PV} (hx : t.pl[i]? = some (s, x)) (hpa : klook t.pl s = some x) (o m : Int) (ho : o ≠ 0) (him : isM m = true) (hw : klook t.ws o = none) (m0 : Int) (hh : klook x.hs o = some m0) (hj : jn m0 m = m0) :
    Calls Try.prog 17 #[.pointer (some ⟨t.T, 0, none⟩), .int .u64 o, .string s, .int .i64 m] w fun e w' => e = .returned (.int .i64 0) ∧ TabS W0 w' t := by
  have hpa2 : glook (plV t.pl) s = some (.pointer (some ⟨x.p, 0, none⟩)) := by
    have h9 := glook_map (fun y : PV => Value.pointer (some ⟨y.p, 0, none⟩)) t.pl s
    rw [hpa] at h9
    exact h9
  have hw2 : glook (wsV t.ws) o = none := by
    have h9 := glook_map (fun y : ByteArray × Int => Value.agg #[.string y.1, .int .i64 y.2]) t.ws o
    rw [hw] at h9
    exact h9
  have hhl : glook (hsV x.hs) o = (klook x.hs o).map (fun k : Int => Value.int .i64 k) := glook_map (fun k : Int => Value.int .i64 k) x.hs o
  have hm : ModesAt (hsV x.hs) := fun q hq => by obtain ⟨y, -, rfl⟩ := List.mem_map.1 hq; exact ⟨y.2, rfl⟩
  have ht := h.rep.tab
  have hpl := h.rep.pls i _ hx
  have HL := Lib.hid (And.intro h hx)
  obtain ⟨T, P, W, N, pl, ws0, nm⟩ := t
  obtain ⟨p, H, q, hs0, qs⟩ := x
  simp only at ht hpl hpa2 hw2 hhl hm ⊢
  obtain ⟨hp, hq⟩ := hpl
  obtain ⟨ps, hps⟩ : ∃ ps, plV pl = ps := ⟨_, rfl⟩
  obtain ⟨ws, hws⟩ : ∃ ws, wsV ws0 = ws := ⟨_, rfl⟩
  obtain ⟨ns, hns⟩ : ∃ ns, nmV nm = ns := ⟨_, rfl⟩
  obtain ⟨hs, hhs⟩ : ∃ hs, hsV hs0 = hs := ⟨_, rfl⟩
  rw [hps, hws, hns] at ht
  rw [hps] at hpa2
  rw [hws] at hw2
  rw [hhs] at hhl hm hp
  have hh2 : glook hs o = some (.int .i64 m0) := by rw [hhl, show klook hs0 o = some m0 from hh]; rfl
  refine (ask_same w T P W N p H ps ws ns hs o m m0 s ht hpa2 hp ho him hw2 hh2 hj).mono ?_
  rintro e w' ⟨rfl, hb⟩
  exact ⟨rfl, HL.out.1.below hb⟩

/-- no owner, or no mode -/
theorem ask_bad_s (w : World) (T : Nat) (o m : Int) (s : ByteArray) (hb : o = 0 ∨ isM m = false) :
    Calls Try.prog 17 #[.pointer (some ⟨T, 0, none⟩), .int .u64 o, .string s, .int .i64 m] w fun e w' => e = .returned (.int .i64 1) ∧ w = w' := by
  by_cases ho : o = 0
  · subst ho
    go_enter Try.func17, Try.ntmps17
    go_wp2
    go_ret
    exact ⟨rfl, rfl⟩
  · have hob : (o == 0) = false := by simpa using ho
    have hims := isMode_any w m
    rw [hb.resolve_left ho] at hims
    go_enter Try.func17, Try.ntmps17
    go_wp2_with fail
    refine hims.mono ?_
    rintro e w' ⟨rfl, rfl⟩
    go_wp2
    go_ret
    exact ⟨rfl, rfl⟩

/-- an owner that waits already -/
theorem ask_state_s {W0 : Bnd} {w : World} {t : TV} (h : TabS W0 w t) (o m : Int) (s : ByteArray) (ho : o ≠ 0) (him : isM m = true) {y : ByteArray × Int} (hw : klook t.ws o = some y) :
    Calls Try.prog 17 #[.pointer (some ⟨t.T, 0, none⟩), .int .u64 o, .string s, .int .i64 m] w fun e w' => e = .returned (.int .i64 18) ∧ TabS W0 w' t := by
  have hims := isMode_any w m
  rw [him] at hims
  have hob : (o == 0) = false := by simpa using ho
  have c1 : w.cell? ⟨t.T, 1, none⟩ = some (.map (some t.W)) := cell_of_row w t.T 1 _ _ _ h.rep.tab.blk
  have hl1 := gmap_lookup (P := Try.prog) Try.underlying63 Try.underlying29 (z33 w) h.rep.tab.wt o
  have hw2 : glook (wsV t.ws) o = some (.agg #[.string y.1, .int .i64 y.2]) := by
    have h9 := glook_map (fun y : ByteArray × Int => Value.agg #[.string y.1, .int .i64 y.2]) t.ws o
    rw [hw] at h9
    exact h9
  rw [hw2] at hl1
  change (Instr.lookup 63 (.map (some t.W)) (.int .u64 o) true).run Try.prog w = .ok (.tuple #[.agg #[.string y.1, .int .i64 y.2], .bool true]) w at hl1
  have HB : Hid (TabS W0 (w.alloc (.cells #[.string y.1, .int .i64 y.2] 33)) t) := h.below ((Below.refl _ _).alloc (Nat.le_refl _) _)
  clear h hw2
  go_enter Try.func17, Try.ntmps17
  go_wp2_with fail
  refine hims.mono ?_
  rintro e w' ⟨rfl, rfl⟩
  go_wp2
  go_ret
  exact ⟨rfl, HB.out⟩
end Mun
end
