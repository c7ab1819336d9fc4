/- How a whole table of locks lies; what a step does to it. -/
import Derived.Test.YtbdkhegfmnladaaLockI
import Derived.Test.YtbdkhegfmnladaaMapD
set_option maxRecDepth 100000
set_option linter.unusedVariables false
set_option linter.unusedSimpArgs false
namespace Mun
open Go Go.RowKit
open Go.Proofs

/-- a place: its block, its holders' map, its queue; who holds what; who waits, for what -/
structure PV where
  p : Nat
  H : Nat
  q : Value
  hs : List (Int × Int)
  qs : List (Int × Int)
/-- a table: its blocks; the places by names; who waits where; what names an owner holds -/
structure TV where
  T : Nat
  P : Nat
  W : Nat
  N : Nat
  pl : List (ByteArray × PV)
  ws : List (Int × (ByteArray × Int))
  nm : List (Int × (Nat × List ByteArray))

def hsV (l : List (Int × Int)) : UL := l.map fun a => (a.1, .int .i64 a.2)
def wsV (l : List (Int × (ByteArray × Int))) : UL := l.map fun a => (a.1, .agg #[.string a.2.1, .int .i64 a.2.2])
def plV (l : List (ByteArray × PV)) : BL := l.map fun a => (a.1, .pointer (some ⟨a.2.p, 0, none⟩))
def nmV (l : List (Int × (Nat × List ByteArray))) : UL := l.map fun a => (a.1, .map (some a.2.1))
def setV (l : List ByteArray) : BL := l.map fun s => (s, .agg #[])
def acells (l : List (Int × Int)) : List Value := l.flatMap fun a => [.int .u64 a.1, .int .i64 a.2]
theorem acells_length (l : List (Int × Int)) : (acells l).length = l.length * 2 := by
  induction l with
  | nil => rfl
  | cons a l ih => simp only [acells, List.flatMap_cons, List.length_append, List.length_cons, List.length_nil] at ih ⊢; omega

/-- the block of a slice -/
def qblk : Value → Option Nat
  | .slice (some a) _ _ => some a.block
  | _ => none
/-- a queue: a slice of asks, in a block of asks, its spare room in that block too -/
def QAt (w : World) (q : Value) (l : List (Int × Int)) : Prop :=
  (q = .slice none 0 0 ∧ l = []) ∨ ∃ g off c cur, q = .slice (some ⟨g, off, none⟩) l.length c ∧ w.heap[g]? = some (.cells cur 77 (0, 0)) ∧ l.length ≤ c ∧ c ≤ maxLen ∧ off + c * 2 ≤ cur.size ∧ (cur.toList.drop off).take (l.length * 2) = acells l
theorem QAt.keep {w w' : World} {q : Value} {l : List (Int × Int)} (h : QAt w q l) (hk : ∀ g, qblk q = some g → w'.heap[g]? = w.heap[g]?) : QAt w' q l := by
  rcases h with h | ⟨g, off, c, cur, rfl, h1, rest⟩
  · exact .inl h
  · exact .inr ⟨g, off, c, cur, rfl, (hk g rfl).trans h1, rest⟩
theorem QAt.blk {w : World} {q : Value} {l : List (Int × Int)} (h : QAt w q l) {g : Nat} (hg : qblk q = some g) : ∃ cur, w.heap[g]? = some (.cells cur 77 (0, 0)) := by
  rcases h with ⟨rfl, _⟩ | ⟨g', off, c, cur, rfl, h1, rest⟩
  · simp [qblk] at hg
  · simp only [qblk, Option.some.injEq] at hg
    subst hg
    exact ⟨cur, h1⟩

structure TabR (w : World) (t : TV) : Prop where
  tab : TabAt w t.T t.P t.W t.N (plV t.pl) (wsV t.ws) (nmV t.nm)
  pls : ∀ (i : Nat) (x : ByteArray × PV), t.pl[i]? = some x → PlAt w x.2.p x.2.H x.2.q (hsV x.2.hs) ∧ QAt w x.2.q x.2.qs
  nms : ∀ (i : Nat) (y : Int × (Nat × List ByteArray)), t.nm[i]? = some y → GMap w y.2.1 (setV y.2.2)
  d0 : t.P ≠ t.W ∧ t.P ≠ t.N ∧ t.W ≠ t.N
  dH : ∀ (i : Nat) (x : ByteArray × PV), t.pl[i]? = some x → x.2.H ≠ t.P ∧ x.2.H ≠ t.W ∧ x.2.H ≠ t.N
  dM : ∀ (i : Nat) (y : Int × (Nat × List ByteArray)), t.nm[i]? = some y → y.2.1 ≠ t.P ∧ y.2.1 ≠ t.W ∧ y.2.1 ≠ t.N
  dHH : ∀ (i j : Nat) (x y : ByteArray × PV), i ≠ j → t.pl[i]? = some x → t.pl[j]? = some y → x.2.H ≠ y.2.H ∧ x.2.p ≠ y.2.p ∧ ∀ g, qblk x.2.q = some g → qblk y.2.q ≠ some g
  dMM : ∀ (i j : Nat) (x y : Int × (Nat × List ByteArray)), i ≠ j → t.nm[i]? = some x → t.nm[j]? = some y → x.2.1 ≠ y.2.1
  dHM : ∀ (i j : Nat) (x : ByteArray × PV) (y : Int × (Nat × List ByteArray)), t.pl[i]? = some x → t.nm[j]? = some y → x.2.H ≠ y.2.1

section
variable {w w' : World} {t : TV}
theorem TabR.keep (h : TabR w t) (hk : ∀ k, k < w.heap.size → w'.heap[k]? = w.heap[k]?) : TabR w' t :=
  ⟨h.tab.keep hk, fun i x hx => ⟨(h.pls i x hx).1.keep hk, (h.pls i x hx).2.keep (fun g hg => by obtain ⟨cur, hc⟩ := (h.pls i x hx).2.blk hg; exact hk g (Array.getElem?_eq_some_iff.1 hc).1)⟩,
    fun i y hy => (h.nms i y hy).keep (hk _ (h.nms i y hy).lt), h.d0, h.dH, h.dM, h.dHH, h.dMM, h.dHM⟩
theorem cells_ne_map {α : Type} [DecidableEq α] [KeyT α] {M y : Nat} {es : List (α × Value)} {cs : Array Value} {ty : TypeId} {fr : Nat × Nat} (h : GMap w M es) (hy : w.heap[y]? = some (.cells cs ty fr)) : y ≠ M := by
  rintro rfl
  obtain ⟨l, c, h, -⟩ := h
  rw [h.2.2.2] at hy
  cases hy
theorem cells_ty_ne {y z : Nat} {cs cs' : Array Value} {ty ty' : TypeId} {fr fr' : Nat × Nat} (h1 : w.heap[y]? = some (.cells cs ty fr)) (h2 : w.heap[z]? = some (.cells cs' ty' fr')) (hne : ty ≠ ty') : y ≠ z := by
  rintro rfl
  rw [h1] at h2
  injection h2 with h2
  injection h2 with _ h2 _
  exact hne h2
theorem set_cases {β : Type} {l : List β} {i j : Nat} {a b : β} (h : (l.set i a)[j]? = some b) : (i = j ∧ b = a ∧ i < l.length) ∨ (i ≠ j ∧ l[j]? = some b) := by
  by_cases hij : i = j
  · subst hij
    rw [List.getElem?_set] at h
    simp only [if_true] at h
    split at h
    · rename_i hi
      injection h with h
      exact .inl ⟨rfl, h.symm, hi⟩
    · cases h
  · rw [List.getElem?_set_ne hij] at h
    exact .inr ⟨hij, h⟩
theorem map_set_same {β γ : Type} (f : β → γ) {l : List β} {i : Nat} {a b : β} (hb : l[i]? = some b) (h : f a = f b) : (l.set i a).map f = l.map f := by
  apply List.ext_getElem?
  intro j
  rw [List.getElem?_map, List.getElem?_map, List.getElem?_set]
  by_cases hij : i = j
  · subst hij
    obtain ⟨hi, rfl⟩ := List.getElem?_eq_some_iff.1 hb
    simp [hi, h]
  · simp [hij]

/-- the map of a place's holders turned -/
theorem TabR.held (h : TabR w t) {i : Nat} {x : ByteArray × PV} (hx : t.pl[i]? = some x) {hs : List (Int × Int)} (hg : GMap w' x.2.H (hsV hs)) (hk : ∀ k, k < w.heap.size → k ≠ x.2.H → w'.heap[k]? = w.heap[k]?) :
    TabR w' { t with pl := t.pl.set i (x.1, { x.2 with hs := hs }) } := by
  obtain ⟨⟨hb, hH⟩, hQ⟩ := h.pls i x hx
  obtain ⟨e1, e2, e3⟩ := h.dH i x hx
  have hpv : plV (t.pl.set i (x.1, { x.2 with hs := hs })) = plV t.pl := map_set_same _ hx rfl
  have hne : ∀ {y : Nat} {cs : Array Value} {ty : TypeId} {fr : Nat × Nat}, w.heap[y]? = some (.cells cs ty fr) → w'.heap[y]? = w.heap[y]? := fun hy => hk _ (Array.getElem?_eq_some_iff.1 hy).1 (cells_ne_map hH hy)
  have hidx : ∀ (j : Nat) (y : ByteArray × PV), (t.pl.set i (x.1, { x.2 with hs := hs }))[j]? = some y → ∃ z, t.pl[j]? = some z ∧ y.1 = z.1 ∧ y.2.p = z.2.p ∧ y.2.H = z.2.H ∧ y.2.q = z.2.q := fun j y hy => by
    rcases set_cases hy with ⟨rfl, rfl, -⟩ | ⟨-, h1⟩
    · exact ⟨x, hx, rfl, rfl, rfl, rfl⟩
    · exact ⟨y, h1, rfl, rfl, rfl, rfl⟩
  refine ⟨⟨(hne h.tab.blk).trans h.tab.blk, ?_, h.tab.wt.keep (hk _ h.tab.wt.lt (Ne.symm e2)), h.tab.nm.keep (hk _ h.tab.nm.lt (Ne.symm e3))⟩, fun j y hy => ?_, fun j y hy => (h.nms j y hy).keep (hk _ (h.nms j y hy).lt (Ne.symm (h.dHM i j x y hx hy))), h.d0, fun j y hy => ?_, h.dM, fun j k y z hjk hy hz => ?_, h.dMM, fun j k y z hy hz => ?_⟩
  · show GMap w' t.P (plV (t.pl.set i _))
    rw [hpv]
    exact h.tab.pl.keep (hk _ h.tab.pl.lt (Ne.symm e1))
  · rcases set_cases hy with ⟨rfl, rfl, -⟩ | ⟨hij, h1⟩
    · exact ⟨⟨(hne hb).trans hb, hg⟩, hQ.keep (fun g hg2 => by obtain ⟨cur, hc⟩ := hQ.blk hg2; exact hne hc)⟩
    · obtain ⟨⟨hb2, hH2⟩, hQ2⟩ := h.pls j y h1
      exact ⟨⟨(hne hb2).trans hb2, hH2.keep (hk _ hH2.lt (h.dHH i j x y hij hx h1).1.symm)⟩, hQ2.keep (fun g hg2 => by obtain ⟨cur, hc⟩ := hQ2.blk hg2; exact hne hc)⟩
  · obtain ⟨z, h1, -, -, h2, -⟩ := hidx j y hy
    rw [h2]
    exact h.dH j z h1
  · obtain ⟨y', h1, -, h2, h3, h4⟩ := hidx j y hy
    obtain ⟨z', g1, -, g2, g3, g4⟩ := hidx k z hz
    rw [h2, h3, h4, g2, g3, g4]
    exact h.dHH j k y' z' hjk h1 g1
  · obtain ⟨y', h1, -, -, h3, -⟩ := hidx j y hy
    rw [h3]
    exact h.dHM j k y' z h1 hz

/-- a place's queue turned -/
theorem TabR.queue (h : TabR w t) {i : Nat} {x : ByteArray × PV} (hx : t.pl[i]? = some x) {q : Value} {qs : List (Int × Int)} (hp : w'.heap[x.2.p]? = some (.cells #[.map (some x.2.H), q] 71 (0, 0))) (hq : QAt w' q qs)
    (hqb : ∀ g, qblk q = some g → qblk x.2.q = some g ∨ w.heap.size ≤ g) (hk : ∀ k, k < w.heap.size → k ≠ x.2.p → (∀ g, qblk x.2.q = some g → k ≠ g) → w'.heap[k]? = w.heap[k]?) :
    TabR w' { t with pl := t.pl.set i (x.1, { x.2 with q := q, qs := qs }) } := by
  obtain ⟨⟨hb, hH⟩, hQ⟩ := h.pls i x hx
  have hpv : plV (t.pl.set i (x.1, { x.2 with q := q, qs := qs })) = plV t.pl := map_set_same _ hx rfl
  have hmap : ∀ {α : Type} [DecidableEq α] [KeyT α] {M : Nat} {es : List (α × Value)}, GMap w M es → GMap w' M es := fun hM => hM.keep (hk _ hM.lt (Ne.symm (cells_ne_map hM hb)) (fun g hg => by obtain ⟨cur, hc⟩ := hQ.blk hg; exact (Ne.symm (cells_ne_map hM hc))))
  have hoth : ∀ (j : Nat) (y : ByteArray × PV), i ≠ j → t.pl[j]? = some y → PlAt w' y.2.p y.2.H y.2.q (hsV y.2.hs) ∧ QAt w' y.2.q y.2.qs := fun j y hij hy => by
    obtain ⟨⟨hb2, hH2⟩, hQ2⟩ := h.pls j y hy
    obtain ⟨d1, d2, d3⟩ := h.dHH i j x y hij hx hy
    refine ⟨⟨(hk _ (Array.getElem?_eq_some_iff.1 hb2).1 d2.symm (fun g hg => by obtain ⟨cur, hc⟩ := hQ.blk hg; exact cells_ty_ne hb2 hc (by decide))).trans hb2, hmap hH2⟩, hQ2.keep (fun g hg => ?_)⟩
    obtain ⟨cur, hc⟩ := hQ2.blk hg
    exact hk _ (Array.getElem?_eq_some_iff.1 hc).1 (cells_ty_ne hc hb (by decide)) (fun g2 hg2 e => d3 g2 hg2 (by rw [hg, e]))
  have hlt : ∀ (j : Nat) (y : ByteArray × PV), t.pl[j]? = some y → ∀ g, qblk y.2.q = some g → g < w.heap.size := fun j y hy g hg => by
    obtain ⟨cur, hc⟩ := (h.pls j y hy).2.blk hg
    exact (Array.getElem?_eq_some_iff.1 hc).1
  have hidx : ∀ (j : Nat) (y : ByteArray × PV), (t.pl.set i (x.1, { x.2 with q := q, qs := qs }))[j]? = some y → ∃ z, t.pl[j]? = some z ∧ y.2.p = z.2.p ∧ y.2.H = z.2.H := fun j y hy => by
    rcases set_cases hy with ⟨rfl, rfl, -⟩ | ⟨-, h1⟩
    · exact ⟨x, hx, rfl, rfl⟩
    · exact ⟨y, h1, rfl, rfl⟩
  refine ⟨⟨?_, ?_, hmap h.tab.wt, hmap h.tab.nm⟩, fun j y hy => ?_, fun j y hy => hmap (h.nms j y hy), h.d0, fun j y hy => ?_, h.dM, fun j k y z hjk hy hz => ?_, h.dMM, fun j k y z hy hz => ?_⟩
  · exact (hk _ (Array.getElem?_eq_some_iff.1 h.tab.blk).1 (cells_ty_ne h.tab.blk hb (by decide)) (fun g hg => by obtain ⟨cur, hc⟩ := hQ.blk hg; exact cells_ty_ne h.tab.blk hc (by decide))).trans h.tab.blk
  · show GMap w' t.P (plV (t.pl.set i _))
    rw [hpv]
    exact hmap h.tab.pl
  · rcases set_cases hy with ⟨rfl, rfl, -⟩ | ⟨hij, h1⟩
    · exact ⟨⟨hp, hmap hH⟩, hq⟩
    · exact hoth j y hij h1
  · obtain ⟨z, h1, -, h2⟩ := hidx j y hy
    rw [h2]
    exact h.dH j z h1
  · obtain ⟨y', h1, h2, h3⟩ := hidx j y hy
    obtain ⟨z', g1, g2, g3⟩ := hidx k z hz
    obtain ⟨d1, d2, d3⟩ := h.dHH j k y' z' hjk h1 g1
    refine ⟨by rw [h3, g3]; exact d1, by rw [h2, g2]; exact d2, fun g hg hg2 => ?_⟩
    rcases set_cases hy with ⟨rfl, rfl, -⟩ | ⟨hij, h4⟩
    · rcases set_cases hz with ⟨e, -, -⟩ | ⟨hik, h5⟩
      · exact hjk e
      · rcases hqb g hg with h6 | h6
        · exact (h.dHH i k x z hik hx h5).2.2 g h6 hg2
        · have := hlt k z h5 g hg2; omega
    · rcases set_cases hz with ⟨rfl, rfl, -⟩ | ⟨hik, h5⟩
      · rcases hqb g hg2 with h6 | h6
        · exact (h.dHH i j x y hij hx h4).2.2 g h6 hg
        · have := hlt j y h4 g hg; omega
      · exact (h.dHH j k y z hjk h4 h5).2.2 g hg hg2
  · obtain ⟨y', h1, -, h3⟩ := hidx j y hy
    rw [h3]
    exact h.dHM j k y' z h1 hz

/-- the map of the waiting ones turned -/
theorem TabR.waits (h : TabR w t) {ws : List (Int × (ByteArray × Int))} (hg : GMap w' t.W (wsV ws)) (hk : ∀ k, k < w.heap.size → k ≠ t.W → w'.heap[k]? = w.heap[k]?) : TabR w' { t with ws := ws } := by
  have hne : ∀ {y : Nat} {cs : Array Value} {ty : TypeId} {fr : Nat × Nat}, w.heap[y]? = some (.cells cs ty fr) → w'.heap[y]? = w.heap[y]? := fun hy => hk _ (Array.getElem?_eq_some_iff.1 hy).1 (cells_ne_map h.tab.wt hy)
  exact ⟨⟨(hne h.tab.blk).trans h.tab.blk, h.tab.pl.keep (hk _ h.tab.pl.lt h.d0.1), hg, h.tab.nm.keep (hk _ h.tab.nm.lt h.d0.2.2.symm)⟩,
    fun j y hy => by
      obtain ⟨⟨hb2, hH2⟩, hQ2⟩ := h.pls j y hy
      exact ⟨⟨(hne hb2).trans hb2, hH2.keep (hk _ hH2.lt (h.dH j y hy).2.1)⟩, hQ2.keep (fun g hg2 => by obtain ⟨cur, hc⟩ := hQ2.blk hg2; exact hne hc)⟩,
    fun j y hy => (h.nms j y hy).keep (hk _ (h.nms j y hy).lt (h.dM j y hy).2.1), h.d0, h.dH, h.dM, h.dHH, h.dMM, h.dHM⟩

/-- the names of an owner turned -/
theorem TabR.names (h : TabR w t) {i : Nat} {x : Int × (Nat × List ByteArray)} (hx : t.nm[i]? = some x) {es : List ByteArray} (hg : GMap w' x.2.1 (setV es)) (hk : ∀ k, k < w.heap.size → k ≠ x.2.1 → w'.heap[k]? = w.heap[k]?) :
    TabR w' { t with nm := t.nm.set i (x.1, (x.2.1, es)) } := by
  have hM := h.nms i x hx
  obtain ⟨e1, e2, e3⟩ := h.dM i x hx
  have hpv : nmV (t.nm.set i (x.1, (x.2.1, es))) = nmV t.nm := map_set_same _ hx rfl
  have hne : ∀ {y : Nat} {cs : Array Value} {ty : TypeId} {fr : Nat × Nat}, w.heap[y]? = some (.cells cs ty fr) → w'.heap[y]? = w.heap[y]? := fun hy => hk _ (Array.getElem?_eq_some_iff.1 hy).1 (cells_ne_map hM hy)
  have hidx : ∀ (j : Nat) (y : Int × (Nat × List ByteArray)), (t.nm.set i (x.1, (x.2.1, es)))[j]? = some y → ∃ z, t.nm[j]? = some z ∧ y.2.1 = z.2.1 := fun j y hy => by
    rcases set_cases hy with ⟨rfl, rfl, -⟩ | ⟨-, h1⟩
    · exact ⟨x, hx, rfl⟩
    · exact ⟨y, h1, rfl⟩
  refine ⟨⟨(hne h.tab.blk).trans h.tab.blk, h.tab.pl.keep (hk _ h.tab.pl.lt (Ne.symm e1)), h.tab.wt.keep (hk _ h.tab.wt.lt (Ne.symm e2)), ?_⟩, fun j y hy => ?_, fun j y hy => ?_, h.d0, h.dH, fun j y hy => ?_, h.dHH, fun j k y z hjk hy hz => ?_, fun j k y z hy hz => ?_⟩
  · show GMap w' t.N (nmV (t.nm.set i _))
    rw [hpv]
    exact h.tab.nm.keep (hk _ h.tab.nm.lt (Ne.symm e3))
  · obtain ⟨⟨hb2, hH2⟩, hQ2⟩ := h.pls j y hy
    exact ⟨⟨(hne hb2).trans hb2, hH2.keep (hk _ hH2.lt (h.dHM j i y x hy hx))⟩, hQ2.keep (fun g hg2 => by obtain ⟨cur, hc⟩ := hQ2.blk hg2; exact hne hc)⟩
  · rcases set_cases hy with ⟨rfl, rfl, -⟩ | ⟨hij, h1⟩
    · exact hg
    · exact (h.nms j y h1).keep (hk _ (h.nms j y h1).lt (Ne.symm (h.dMM i j x y hij hx h1)))
  · obtain ⟨z, h1, h2⟩ := hidx j y hy
    rw [h2]
    exact h.dM j z h1
  · obtain ⟨y', h1, h2⟩ := hidx j y hy
    obtain ⟨z', g1, g2⟩ := hidx k z hz
    rw [h2, g2]
    exact h.dMM j k y' z' hjk h1 g1
  · obtain ⟨z', g1, g2⟩ := hidx k z hz
    rw [g2]
    exact h.dHM j k y z' hy g1

/-- an owner's names, of one that held nothing -/
theorem TabR.nameNew (h : TabR w t) {o : Int} {M : Nat} {es : List ByteArray} (hN : GMap w' t.N (nmV (t.nm ++ [(o, (M, es))]))) (hM : GMap w' M (setV es)) (hnew : w.heap.size ≤ M) (hk : ∀ k, k < w.heap.size → k ≠ t.N → w'.heap[k]? = w.heap[k]?) :
    TabR w' { t with nm := t.nm ++ [(o, (M, es))] } := by
  have hne : ∀ {y : Nat} {cs : Array Value} {ty : TypeId} {fr : Nat × Nat}, w.heap[y]? = some (.cells cs ty fr) → w'.heap[y]? = w.heap[y]? := fun hy => hk _ (Array.getElem?_eq_some_iff.1 hy).1 (cells_ne_map h.tab.nm hy)
  have hidx : ∀ (j : Nat) (y : Int × (Nat × List ByteArray)), (t.nm ++ [(o, (M, es))])[j]? = some y → (t.nm[j]? = some y) ∨ (j = t.nm.length ∧ y = (o, (M, es))) := fun j y hy => by
    rcases Nat.lt_or_ge j t.nm.length with hl | hl
    · rw [List.getElem?_append_left hl] at hy; exact .inl hy
    · rw [List.getElem?_append_right hl] at hy
      rcases Nat.eq_zero_or_pos (j - t.nm.length) with h0 | h0
      · rw [h0] at hy
        simp only [List.getElem?_cons_zero, Option.some.injEq] at hy
        exact .inr ⟨by omega, hy.symm⟩
      · rw [List.getElem?_eq_none (by simp; omega)] at hy; cases hy
  have hltM : ∀ (j : Nat) (y : Int × (Nat × List ByteArray)), t.nm[j]? = some y → y.2.1 < w.heap.size := fun j y hy => (h.nms j y hy).lt
  have hltH : ∀ (j : Nat) (y : ByteArray × PV), t.pl[j]? = some y → y.2.H < w.heap.size := fun j y hy => (h.pls j y hy).1.hl.lt
  have hP := h.tab.pl.lt
  have hW := h.tab.wt.lt
  have hNl := h.tab.nm.lt
  refine ⟨⟨(hne h.tab.blk).trans h.tab.blk, h.tab.pl.keep (hk _ h.tab.pl.lt h.d0.2.1), h.tab.wt.keep (hk _ h.tab.wt.lt h.d0.2.2), hN⟩, fun j y hy => ?_, fun j y hy => ?_, h.d0, h.dH, fun j y hy => ?_, h.dHH, fun j k y z hjk hy hz => ?_, fun j k y z hy hz => ?_⟩
  · obtain ⟨⟨hb2, hH2⟩, hQ2⟩ := h.pls j y hy
    exact ⟨⟨(hne hb2).trans hb2, hH2.keep (hk _ hH2.lt (h.dH j y hy).2.2)⟩, hQ2.keep (fun g hg2 => by obtain ⟨cur, hc⟩ := hQ2.blk hg2; exact hne hc)⟩
  · rcases hidx j y hy with h1 | ⟨-, rfl⟩
    · exact (h.nms j y h1).keep (hk _ (h.nms j y h1).lt (h.dM j y h1).2.2)
    · exact hM
  · rcases hidx j y hy with h1 | ⟨-, rfl⟩
    · exact h.dM j y h1
    · exact ⟨by show M ≠ t.P; omega, by show M ≠ t.W; omega, by show M ≠ t.N; omega⟩
  · rcases hidx j y hy with h1 | ⟨e1, rfl⟩
    · rcases hidx k z hz with h2 | ⟨e2, rfl⟩
      · exact h.dMM j k y z hjk h1 h2
      · have := hltM j y h1; show _ ≠ M; omega
    · rcases hidx k z hz with h2 | ⟨e2, rfl⟩
      · have := hltM k z h2; show M ≠ _; omega
      · omega
  · rcases hidx k z hz with h2 | ⟨e2, rfl⟩
    · exact h.dHM j k y z hy h2
    · have := hltH j y hy; show _ ≠ M; omega

/-- a pair taken out, by its key -/
def kdel {κ β : Type} [DecidableEq κ] : List (κ × β) → κ → List (κ × β)
  | [], _ => []
  | p :: es, k => if p.1 = k then es else p :: kdel es k
theorem gdel_map {κ β : Type} [DecidableEq κ] (f : κ × β → κ × Value) (hf : ∀ p, (f p).1 = p.1) : ∀ (l : List (κ × β)) (k : κ), gdel (l.map f) k = (kdel l k).map f
  | [], _ => rfl
  | p :: l, k => by
    simp only [List.map_cons, gdel, kdel, hf]
    split
    · rfl
    · rw [List.map_cons, gdel_map f hf l k]
/-- those that are left stood there, in this order -/
theorem kdel_idx {κ β : Type} [DecidableEq κ] : ∀ (l : List (κ × β)) (k : κ), ∃ f : Nat → Nat, (∀ i j, f i = f j → i = j) ∧ ∀ j x, (kdel l k)[j]? = some x → l[f j]? = some x
  | [], _ => ⟨id, fun _ _ h => h, fun j x h => by simp [kdel] at h⟩
  | p :: l, k => by
    by_cases hp : p.1 = k
    · refine ⟨(· + 1), fun i j h => by simpa using h, fun j x h => ?_⟩
      simp only [kdel, if_pos hp] at h
      simpa using h
    · obtain ⟨f, hf, hx⟩ := kdel_idx l k
      refine ⟨fun | 0 => 0 | j + 1 => f j + 1, fun i j h => ?_, fun j x h => ?_⟩
      · match i, j, h with
        | 0, 0, _ => rfl
        | i + 1, j + 1, h => simp only [Nat.add_right_cancel_iff] at h; rw [hf i j h]
      · simp only [kdel, if_neg hp] at h
        match j, h with
        | 0, h => simpa using h
        | j + 1, h => simp only [List.getElem?_cons_succ] at h ⊢; exact hx j x h

/-- an owner's names gone -/
theorem TabR.nameDel (h : TabR w t) (o : Int) (hN : GMap w' t.N (gdel (nmV t.nm) o)) (hk : ∀ k, k < w.heap.size → k ≠ t.N → w'.heap[k]? = w.heap[k]?) : TabR w' { t with nm := kdel t.nm o } := by
  have hne : ∀ {y : Nat} {cs : Array Value} {ty : TypeId} {fr : Nat × Nat}, w.heap[y]? = some (.cells cs ty fr) → w'.heap[y]? = w.heap[y]? := fun hy => hk _ (Array.getElem?_eq_some_iff.1 hy).1 (cells_ne_map h.tab.nm hy)
  obtain ⟨f, hf, hx⟩ := kdel_idx t.nm o
  have hnv : nmV (kdel t.nm o) = gdel (nmV t.nm) o := (gdel_map (fun a : Int × (Nat × List ByteArray) => (a.1, Value.map (some a.2.1))) (fun _ => rfl) t.nm o).symm
  refine ⟨⟨(hne h.tab.blk).trans h.tab.blk, h.tab.pl.keep (hk _ h.tab.pl.lt h.d0.2.1), h.tab.wt.keep (hk _ h.tab.wt.lt h.d0.2.2), ?_⟩, fun j y hy => ?_, fun j y hy => (h.nms _ y (hx j y hy)).keep (hk _ (h.nms _ y (hx j y hy)).lt (h.dM _ y (hx j y hy)).2.2), h.d0, h.dH, fun j y hy => h.dM _ y (hx j y hy), h.dHH,
    fun j k y z hjk hy hz => h.dMM _ _ y z (fun e => hjk (hf _ _ e)) (hx j y hy) (hx k z hz), fun j k y z hy hz => h.dHM j _ y z hy (hx k z hz)⟩
  · show GMap w' t.N (nmV (kdel t.nm o))
    rw [hnv]
    exact hN
  · obtain ⟨⟨hb2, hH2⟩, hQ2⟩ := h.pls j y hy
    exact ⟨⟨(hne hb2).trans hb2, hH2.keep (hk _ hH2.lt (h.dH j y hy).2.2)⟩, hQ2.keep (fun g hg2 => by obtain ⟨cur, hc⟩ := hQ2.blk hg2; exact hne hc)⟩

/-- a place gone -/
theorem TabR.placeDel (h : TabR w t) (s : ByteArray) (hP : GMap w' t.P (gdel (plV t.pl) s)) (hk : ∀ k, k < w.heap.size → k ≠ t.P → w'.heap[k]? = w.heap[k]?) : TabR w' { t with pl := kdel t.pl s } := by
  have hne : ∀ {y : Nat} {cs : Array Value} {ty : TypeId} {fr : Nat × Nat}, w.heap[y]? = some (.cells cs ty fr) → w'.heap[y]? = w.heap[y]? := fun hy => hk _ (Array.getElem?_eq_some_iff.1 hy).1 (cells_ne_map h.tab.pl hy)
  obtain ⟨f, hf, hx⟩ := kdel_idx t.pl s
  have hnv : plV (kdel t.pl s) = gdel (plV t.pl) s := (gdel_map (fun a : ByteArray × PV => (a.1, Value.pointer (some ⟨a.2.p, 0, none⟩))) (fun _ => rfl) t.pl s).symm
  refine ⟨⟨(hne h.tab.blk).trans h.tab.blk, ?_, h.tab.wt.keep (hk _ h.tab.wt.lt (Ne.symm h.d0.1)), h.tab.nm.keep (hk _ h.tab.nm.lt (Ne.symm h.d0.2.1))⟩, fun j y hy => ?_, fun j y hy => (h.nms j y hy).keep (hk _ (h.nms j y hy).lt (h.dM j y hy).1), h.d0, fun j y hy => h.dH _ y (hx j y hy), h.dM,
    fun j k y z hjk hy hz => h.dHH _ _ y z (fun e => hjk (hf _ _ e)) (hx j y hy) (hx k z hz), h.dMM, fun j k y z hy hz => h.dHM _ k y z (hx j y hy) hz⟩
  · show GMap w' t.P (plV (kdel t.pl s))
    rw [hnv]
    exact hP
  · obtain ⟨⟨hb2, hH2⟩, hQ2⟩ := h.pls _ y (hx j y hy)
    exact ⟨⟨(hne hb2).trans hb2, hH2.keep (hk _ hH2.lt (h.dH _ y (hx j y hy)).1)⟩, hQ2.keep (fun g hg2 => by obtain ⟨cur, hc⟩ := hQ2.blk hg2; exact hne hc)⟩

theorem snoc_idx {β : Type} {l : List β} {a : β} {j : Nat} {y : β} (hy : (l ++ [a])[j]? = some y) : (l[j]? = some y) ∨ (j = l.length ∧ y = a) := by
  rcases Nat.lt_or_ge j l.length with hl | hl
  · rw [List.getElem?_append_left hl] at hy; exact .inl hy
  · rw [List.getElem?_append_right hl] at hy
    rcases Nat.eq_zero_or_pos (j - l.length) with h0 | h0
    · rw [h0] at hy
      simp only [List.getElem?_cons_zero, Option.some.injEq] at hy
      exact .inr ⟨by omega, hy.symm⟩
    · rw [List.getElem?_eq_none (by simp; omega)] at hy; cases hy

/-- a new place, empty -/
theorem TabR.placeNew (h : TabR w t) {s : ByteArray} {p H : Nat} (hP : GMap w' t.P (plV (t.pl ++ [(s, ⟨p, H, .slice none 0 0, [], []⟩)]))) (hp : PlAt w' p H (.slice none 0 0) []) (hp1 : w.heap.size ≤ p) (hH1 : w.heap.size ≤ H) (hk : ∀ k, k < w.heap.size → k ≠ t.P → w'.heap[k]? = w.heap[k]?) :
    TabR w' { t with pl := t.pl ++ [(s, ⟨p, H, .slice none 0 0, [], []⟩)] } := by
  have hne : ∀ {y : Nat} {cs : Array Value} {ty : TypeId} {fr : Nat × Nat}, w.heap[y]? = some (.cells cs ty fr) → w'.heap[y]? = w.heap[y]? := fun hy => hk _ (Array.getElem?_eq_some_iff.1 hy).1 (cells_ne_map h.tab.pl hy)
  have hltH : ∀ (j : Nat) (y : ByteArray × PV), t.pl[j]? = some y → y.2.H < w.heap.size ∧ y.2.p < w.heap.size := fun j y hy => ⟨(h.pls j y hy).1.hl.lt, (Array.getElem?_eq_some_iff.1 (h.pls j y hy).1.blk).1⟩
  have hPl := h.tab.pl.lt
  have hWl := h.tab.wt.lt
  have hNl := h.tab.nm.lt
  refine ⟨⟨(hne h.tab.blk).trans h.tab.blk, hP, h.tab.wt.keep (hk _ h.tab.wt.lt (Ne.symm h.d0.1)), h.tab.nm.keep (hk _ h.tab.nm.lt (Ne.symm h.d0.2.1))⟩, fun j y hy => ?_, fun j y hy => (h.nms j y hy).keep (hk _ (h.nms j y hy).lt (h.dM j y hy).1), h.d0, fun j y hy => ?_, h.dM, fun j k y z hjk hy hz => ?_, h.dMM, fun j k y z hy hz => ?_⟩
  · rcases snoc_idx hy with h1 | ⟨-, rfl⟩
    · obtain ⟨⟨hb2, hH2⟩, hQ2⟩ := h.pls j y h1
      exact ⟨⟨(hne hb2).trans hb2, hH2.keep (hk _ hH2.lt (h.dH j y h1).1)⟩, hQ2.keep (fun g hg2 => by obtain ⟨cur, hc⟩ := hQ2.blk hg2; exact hne hc)⟩
    · exact ⟨hp, .inl ⟨rfl, rfl⟩⟩
  · rcases snoc_idx hy with h1 | ⟨-, rfl⟩
    · exact h.dH j y h1
    · exact ⟨by show H ≠ t.P; omega, by show H ≠ t.W; omega, by show H ≠ t.N; omega⟩
  · rcases snoc_idx hy with h1 | ⟨e1, rfl⟩
    · rcases snoc_idx hz with h2 | ⟨e2, rfl⟩
      · exact h.dHH j k y z hjk h1 h2
      · have := hltH j y h1
        exact ⟨by show _ ≠ H; omega, by show _ ≠ p; omega, fun g _ hg => by simp [qblk] at hg⟩
    · rcases snoc_idx hz with h2 | ⟨e2, rfl⟩
      · have := hltH k z h2
        exact ⟨by show H ≠ _; omega, by show p ≠ _; omega, fun g hg => by simp [qblk] at hg⟩
      · omega
  · rcases snoc_idx hy with h1 | ⟨e1, rfl⟩
    · exact h.dHM j k y z h1 hz
    · have := (h.nms k z hz).lt
      show H ≠ _
      omega
end
end Mun
