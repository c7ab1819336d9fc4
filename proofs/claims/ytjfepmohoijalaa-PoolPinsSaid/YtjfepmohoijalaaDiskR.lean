/- How a device lies in memory. -/
import Derived.Test.YtjfepmohoijalaaBase
import Derived.Test.YtjfepmohoijalaaLaw
import Derived.Test.YtjfepmohoijalaaMapI
import Derived.Test.YtjfepmohoijalaaDiskM
set_option maxRecDepth 100000
set_option linter.unusedVariables false
namespace Mun
open Go Go.RowKit
open Go.Proofs

/-- the values behind a device: the block of its pages, of its map; its rows -/
structure DV where
  P : Nat
  M : Nat
  wv : Value
  lv : Value
  mv : Value
  tv : Value
  tl : Value
  pg : Array Value
  ws : List (Nat × (Bytes × Value))
  es : List (Int × Value)
  E : Foot

/-- the blocks that a device turns -/
def dfoot (D : Nat) (d : DV) : Foot := fun k => k = D ∨ k = d.P ∨ k = d.M ∨ d.wv.ownBlock = some k ∨ d.lv.ownBlock = some k
/-- and those that it reads nothing of -/
def dfootE (D : Nat) (d : DV) : Foot := fun k => dfoot D d k ∨ d.E k

def dcells (m : DM) (n : Nat) (d : DV) : Array Value :=
  #[.int .i64 m.room, .slice (some ⟨d.P, 0, none⟩) n n, d.wv, .map (some d.M), d.lv, .int .i64 m.certain, d.mv, .int .i64 m.fuse, .int .i64 m.ops, .bool m.dead, d.tv, d.tl]

def wcells (ws : List (Nat × (Bytes × Value))) : List Value := ws.flatMap fun p => [.int .i64 p.1, p.2.2]

/-- a page's slot: nil is a page of noughts -/
def PgV (F : Foot) (w : World) (v : Value) (b : Bytes) : Prop := (v = .slice none 0 0 ∧ b = page0) ∨ RdB F w v b

def TornV (F : Foot) (w : World) (v : Value) : Option (Nat × Bytes) → Prop
  | none => v = .pointer none
  | some p => ∃ t sv, v = .pointer (some ⟨t, 0, none⟩) ∧ ¬ F t ∧ w.heap[t]? = some (.cells #[.int .i64 p.1, sv] 110 (0, 0)) ∧ RdB F w sv p.2

structure DRep (w : World) (D : Nat) (F : Foot) (m : DM) (d : DV) : Prop where
  blk : w.heap[D]? = some (.cells (dcells m m.base.length d) 85 (0, 0))
  pgs : w.heap[d.P]? = some (.cells d.pg 31 (0, 0))
  pgn : d.pg.size = m.base.length
  pgv : ∀ i (h : i < m.base.length), ∃ v, d.pg[i]? = some v ∧ PgV F w v m.base[i]
  wrow : w.ownsRow 0 110 2 d.wv d.ws.length (wcells d.ws)
  wws : m.waiting = d.ws.map fun p => (p.1, p.2.1)
  wrd : ∀ p ∈ d.ws, RdB F w p.2.2 p.2.1
  mp : IMap w d.M d.es
  mpe : ∀ n : Nat, alook d.es n = (lastW d.ws n).map (·.2)
  mpk : ∀ q : Int, q < 0 → alook d.es q = none
  log : OwnB w 0 5 d.lv m.log
  mark : RdB F w d.mv m.mark
  tail : RdB F w d.tl m.tail
  torn : TornV F w d.tv m.torn
  elt : ∀ k, d.E k → k < w.heap.size
  eown : ∀ k, d.E k → ¬ dfoot D d k

def DiskAt (w : World) (D : Nat) (E F : Foot) (m : DM) : Prop := ∃ d : DV, F = dfoot D d ∧ d.E = E ∧ DRep w D (dfootE D d) m d ∧ m.Wf

section
variable {w w' : World} {D : Nat} {E F F' : Foot} {m : DM} {d : DV}

theorem PgV.keep {v : Value} {b : Bytes} (h : PgV F w v b) (hk : ∀ k, k < w.heap.size → ¬ F k → w'.heap[k]? = w.heap[k]?) (hF : ∀ k, k < w.heap.size → F' k → F k) : PgV F' w' v b := h.imp id (fun h => RdV.keep h hk hF)

theorem TornV.keep {v : Value} {t : Option (Nat × Bytes)} (h : TornV F w v t) (hk : ∀ k, k < w.heap.size → ¬ F k → w'.heap[k]? = w.heap[k]?) (hF : ∀ k, k < w.heap.size → F' k → F k) : TornV F' w' v t := by
  cases t with
  | none => exact h
  | some p =>
    obtain ⟨t, sv, hv, ht, hh, hr⟩ := h
    have hlt := (Array.getElem?_eq_some_iff.1 hh).1
    exact ⟨t, sv, hv, fun h' => ht (hF t hlt h'), (hk t hlt ht).trans hh, RdV.keep hr hk hF⟩

theorem ownsRow_keep {base : Nat} {e : TypeId} {size n : Nat} {v : Value} {xs : List Value} (h : w.ownsRow base e size v n xs) (hk : ∀ k, v.ownBlock = some k → w'.heap[k]? = w.heap[k]?) : w'.ownsRow base e size v n xs := by
  refine ⟨h.1, ?_⟩
  rcases h.2 with hn | ⟨g, cap, cur, rfl, hbg, hg, rest⟩
  · exact .inl hn
  · exact .inr ⟨g, cap, cur, rfl, hbg, by rw [hk g rfl]; exact hg, rest⟩

theorem ownsRow_blk {base : Nat} {e : TypeId} {size n k : Nat} {v : Value} {xs : List Value} (h : w.ownsRow base e size v n xs) (hk : v.ownBlock = some k) : ∃ cur, w.heap[k]? = some (.cells cur e (0, 0)) := by
  rcases h.2 with ⟨rfl, _⟩ | ⟨g, cap, cur, rfl, hbg, hg, rest⟩
  · simp [Value.ownBlock] at hk
  · simp only [Value.ownBlock, Option.some.injEq] at hk
    subst hk
    exact ⟨cur, hg⟩

theorem blk_ne {k k' : Nat} {c c' : Array Value} {e e' : TypeId} {fr fr' : Nat × Nat} (h : w.heap[k]? = some (.cells c e fr)) (h' : w.heap[k']? = some (.cells c' e' fr')) (hne : e ≠ e') : k ≠ k' := by
  rintro rfl
  rw [h] at h'
  injection h' with h'
  injection h' with _ h' _
  exact hne h'

theorem blk_ne_map {k k' : Nat} {c : Array Value} {e : TypeId} {fr : Nat × Nat} {es : List (Int × Value)} (h : w.heap[k]? = some (.cells c e fr)) (h' : IMap w k' es) : k ≠ k' := by
  rintro rfl
  obtain ⟨l, cl, h1, h2⟩ := h'
  have h3 := h1.2.2.2
  rw [h] at h3
  cases h3

theorem DRep.D_lt (h : DRep w D F m d) : D < w.heap.size := (Array.getElem?_eq_some_iff.1 h.blk).1
theorem DRep.neP (h : DRep w D F m d) : D ≠ d.P := blk_ne h.blk h.pgs (by decide)
theorem DRep.neM (h : DRep w D F m d) : D ≠ d.M := blk_ne_map h.blk h.mp
theorem DRep.neW (h : DRep w D F m d) : d.wv.ownBlock ≠ some D := fun e => by obtain ⟨c, hc⟩ := ownsRow_blk h.wrow e; exact blk_ne h.blk hc (by decide) rfl
theorem DRep.neL (h : DRep w D F m d) : d.lv.ownBlock ≠ some D := fun e => by obtain ⟨c, hc⟩ := ownsRow_blk h.log e; exact blk_ne h.blk hc (by decide) rfl
theorem DRep.nePM (h : DRep w D F m d) : d.P ≠ d.M := blk_ne_map h.pgs h.mp
theorem DRep.nePW (h : DRep w D F m d) : d.wv.ownBlock ≠ some d.P := fun e => by obtain ⟨c, hc⟩ := ownsRow_blk h.wrow e; exact blk_ne h.pgs hc (by decide) rfl
theorem DRep.nePL (h : DRep w D F m d) : d.lv.ownBlock ≠ some d.P := fun e => by obtain ⟨c, hc⟩ := ownsRow_blk h.log e; exact blk_ne h.pgs hc (by decide) rfl
theorem DRep.neMW (h : DRep w D F m d) : d.wv.ownBlock ≠ some d.M := fun e => by obtain ⟨c, hc⟩ := ownsRow_blk h.wrow e; exact blk_ne_map hc h.mp rfl
theorem DRep.neML (h : DRep w D F m d) : d.lv.ownBlock ≠ some d.M := fun e => by obtain ⟨c, hc⟩ := ownsRow_blk h.log e; exact blk_ne_map hc h.mp rfl
theorem DRep.neWL (h : DRep w D F m d) (k : Nat) (h1 : d.wv.ownBlock = some k) (h2 : d.lv.ownBlock = some k) : False := by
  obtain ⟨c, hc⟩ := ownsRow_blk h.wrow h1
  obtain ⟨c', hc'⟩ := ownsRow_blk h.log h2
  exact blk_ne hc hc' (by decide) rfl

theorem DiskAt.foot_lt (h : DiskAt w D E F m) (k : Nat) (hk : F k) : k < w.heap.size := by
  obtain ⟨d, rfl, rfl, h, hwf⟩ := h
  rcases hk with rfl | rfl | rfl | hk | hk
  · exact h.D_lt
  · exact (Array.getElem?_eq_some_iff.1 h.pgs).1
  · exact h.mp.lt
  · exact (h.wrow.lt k hk).2
  · exact (h.log.lt k hk).2

theorem DRep.foot_lt (h : DRep w D (dfootE D d) m d) (k : Nat) (hk : dfootE D d k) : k < w.heap.size := by
  rcases hk with (rfl | rfl | rfl | hk | hk) | hk
  · exact h.D_lt
  · exact (Array.getElem?_eq_some_iff.1 h.pgs).1
  · exact h.mp.lt
  · exact (h.wrow.lt k hk).2
  · exact (h.log.lt k hk).2
  · exact h.elt k hk

theorem lt_of_same {w w' : World} {k : Nat} (h : k < w.heap.size) (he : w'.heap[k]? = w.heap[k]?) : k < w'.heap.size := by
  rw [Array.getElem?_eq_getElem h] at he
  exact (Array.getElem?_eq_some_iff.1 he).1

/-- what turns nothing of the device's, and no block that it reads, leaves it -/
theorem DRep.keep (h : DRep w D (dfootE D d) m d) (hk : ∀ k, k < w.heap.size → w'.heap[k]? = w.heap[k]?) : DRep w' D (dfootE D d) m d := by
  have kp : ∀ k, dfoot D d k → w'.heap[k]? = w.heap[k]? := fun k h' => hk k (h.foot_lt k (.inl h'))
  have ko : ∀ k, k < w.heap.size → ¬ dfootE D d k → w'.heap[k]? = w.heap[k]? := fun k h1 _ => hk k h1
  exact ⟨(kp D (.inl rfl)).trans h.blk, (kp _ (.inr (.inl rfl))).trans h.pgs, h.pgn, fun i hi => by
      obtain ⟨v, h1, h2⟩ := h.pgv i hi
      exact ⟨v, h1, h2.keep ko (fun _ _ h => h)⟩,
    ownsRow_keep h.wrow (fun k h' => kp k (.inr (.inr (.inr (.inl h'))))), h.wws, fun p hp => RdV.keep (h.wrd p hp) ko (fun _ _ h => h), h.mp.keep (kp _ (.inr (.inr (.inl rfl)))), h.mpe, h.mpk,
    ownsRow_keep h.log (fun k h' => kp k (.inr (.inr (.inr (.inr h'))))), RdV.keep h.mark ko (fun _ _ h => h), RdV.keep h.tail ko (fun _ _ h => h), h.torn.keep ko (fun _ _ h => h),
    fun k hE => lt_of_same (h.elt k hE) (hk k (h.elt k hE)), h.eown⟩

theorem DRep.below (h : DRep w D (dfootE D d) m d) (hb : Below w.heap.size w w') : DRep w' D (dfootE D d) m d := h.keep hb.block
theorem DRep.alloc (h : DRep w D (dfootE D d) m d) (o : Obj) : DRep (w.alloc o) D (dfootE D d) m d := h.below ((Below.refl _ _).alloc (Nat.le_refl _) o)

theorem DiskAt.keep (h : DiskAt w D E F m) (hk : ∀ k, k < w.heap.size → w'.heap[k]? = w.heap[k]?) : DiskAt w' D E F m := by
  obtain ⟨d, rfl, rfl, h, hwf⟩ := h
  exact ⟨d, rfl, rfl, h.keep hk, hwf⟩

theorem DiskAt.wf (h : DiskAt w D E F m) : m.Wf := by
  obtain ⟨d, rfl, rfl, h, hwf⟩ := h
  exact hwf

theorem DiskAt.below (h : DiskAt w D E F m) (hb : Below w.heap.size w w') : DiskAt w' D E F m := h.keep hb.block

/-- the numbers and the mark alone have turned -/
theorem DRep.scal {m' : DM} (h : DRep w D (dfootE D d) m d) (hsame : ∀ k, k < w.heap.size → k ≠ D → w'.heap[k]? = w.heap[k]?)
    (hblk : w'.heap[D]? = some (.cells (dcells m' m'.base.length d) 85 (0, 0))) (hb : m'.base = m.base) (hw : m'.waiting = m.waiting) (hl : m'.log = m.log) (hm : m'.mark = m.mark) (ht : m'.torn = m.torn) (htl : m'.tail = m.tail) :
    DRep w' D (dfootE D d) m' d := by
  have ko : ∀ k, k < w.heap.size → ¬ dfootE D d k → w'.heap[k]? = w.heap[k]? := fun k h1 h2 => hsame k h1 (fun e => h2 (.inl (.inl e)))
  refine ⟨hblk, (hsame _ (Array.getElem?_eq_some_iff.1 h.pgs).1 (Ne.symm h.neP)).trans h.pgs, by rw [hb]; exact h.pgn, fun i hi => ?_, ownsRow_keep h.wrow (fun k h' => hsame k (h.wrow.lt k h').2 (fun e => h.neW (e ▸ h'))), by rw [hw]; exact h.wws,
    fun p hp => RdV.keep (h.wrd p hp) ko (fun _ _ h => h), h.mp.keep (hsame _ h.mp.lt (Ne.symm h.neM)), h.mpe, h.mpk, by rw [hl]; exact ownsRow_keep h.log (fun k h' => hsame k (h.log.lt k h').2 (fun e => h.neL (e ▸ h'))),
    by rw [hm]; exact RdV.keep h.mark ko (fun _ _ h => h), by rw [htl]; exact RdV.keep h.tail ko (fun _ _ h => h), by rw [ht]; exact h.torn.keep ko (fun _ _ h => h),
    fun k hE => lt_of_same (h.elt k hE) (hsame k (h.elt k hE) (fun e => h.eown k hE (.inl e))), h.eown⟩
  obtain ⟨v, h1, h2⟩ := h.pgv i (by rw [hb] at hi; exact hi)
  refine ⟨v, h1, ?_⟩
  have : m'.base[i] = m.base[i]'(by rw [hb] at hi; exact hi) := by congr 1
  rw [this]
  exact h2.keep ko (fun _ _ h => h)

theorem rdE_chg {d d' : DV} {size n : Nat} {v : Value} {xs : List Value} (h : RdV (dfootE D d) w size v n xs) (hc : Chg (dfoot D d) (dfoot D d') w w') (hE : d'.E = d.E := by rfl) : RdV (dfootE D d') w' size v n xs :=
  h.keep (fun k h1 h2 => hc.block k h1 (fun e => h2 (.inl e))) (fun k h1 h2 => by
    rcases h2 with h2 | h2
    · rcases hc.foot k h2 with h3 | h3
      · exact .inl h3
      · omega
    · exact .inr (hE ▸ h2))

/-- what turns blocks of E alone leaves the device -/
theorem DiskAt.frame (h : DiskAt w D E F m) {E' : Foot} (hk : ∀ k, k < w.heap.size → ¬ E k → w'.heap[k]? = w.heap[k]?) (hs : w.heap.size ≤ w'.heap.size) (hE : ∀ k, E' k → E k ∨ (w.heap.size ≤ k ∧ k < w'.heap.size)) : DiskAt w' D E' F m := by
  obtain ⟨d, rfl, rfl, h, hwf⟩ := h
  have kp : ∀ k, dfoot D d k → w'.heap[k]? = w.heap[k]? := fun k h' => hk k (h.foot_lt k (.inl h')) (fun e => h.eown k e h')
  have ko : ∀ k, k < w.heap.size → ¬ dfootE D d k → w'.heap[k]? = w.heap[k]? := fun k h1 h2 => hk k h1 (fun e => h2 (.inr e))
  have kF : ∀ k, k < w.heap.size → dfootE D { d with E := E' } k → dfootE D d k := fun k h1 h2 => by
    rcases h2 with h2 | h2
    · exact .inl h2
    · rcases hE k h2 with h3 | h3
      · exact .inr h3
      · omega
  refine ⟨{ d with E := E' }, rfl, rfl, ?_, hwf⟩
  refine ⟨(kp D (.inl rfl)).trans h.blk, (kp _ (.inr (.inl rfl))).trans h.pgs, h.pgn, fun i hi => by
      obtain ⟨v, h1, h2⟩ := h.pgv i hi
      exact ⟨v, h1, h2.keep ko kF⟩,
    ownsRow_keep h.wrow (fun k h' => kp k (.inr (.inr (.inr (.inl h'))))), h.wws, fun p hp => RdV.keep (h.wrd p hp) ko kF, h.mp.keep (kp _ (.inr (.inr (.inl rfl)))), h.mpe, h.mpk,
    ownsRow_keep h.log (fun k h' => kp k (.inr (.inr (.inr (.inr h'))))), RdV.keep h.mark ko kF, RdV.keep h.tail ko kF, h.torn.keep ko kF, fun k hk' => ?_, fun k hk' hd => ?_⟩
  · rcases hE k hk' with h3 | h3
    · have := h.elt k h3; omega
    · exact h3.2
  · rcases hE k hk' with h3 | h3
    · exact h.eown k h3 hd
    · have := h.foot_lt k (.inl hd); omega

/-- E grows by blocks that are none of the device's, and that it does not read: new ones -/
theorem DiskAt.chgE (h : DiskAt w D E F m) {E' : Foot} (hc : Chg E E' w w') : DiskAt w' D E' F m :=
  h.frame hc.block hc.size (fun k hk => hc.foot k hk)
theorem DiskAt.sub (h : DiskAt w D E F m) {E' : Foot} (hE : ∀ k, E' k → E k) : DiskAt w D E' F m :=
  h.frame (fun _ _ _ => rfl) (Nat.le_refl _) (fun k hk => .inl (hE k hk))
theorem DiskAt.grow (h : DiskAt w D E F m) {E' : Foot} (hb : Below w.heap.size w w') (hE : ∀ k, E' k → E k ∨ (w.heap.size ≤ k ∧ k < w'.heap.size)) : DiskAt w' D E' F m :=
  h.frame (fun k hk _ => hb.block k hk) hb.size hE
theorem DiskAt.apart (h : DiskAt w D E F m) (k : Nat) (hE : E k) : ¬ F k := by
  obtain ⟨d, rfl, rfl, h, hwf⟩ := h
  exact h.eown k hE
theorem DiskAt.E_lt (h : DiskAt w D E F m) (k : Nat) (hE : E k) : k < w.heap.size := by
  obtain ⟨d, rfl, rfl, h, hwf⟩ := h
  exact h.elt k hE

/-- the cells of a device's block -/
theorem DRep.cell (h : DRep w D F m d) (i : Nat) : w.cell? ⟨D, i, none⟩ = (dcells m m.base.length d)[i]? := cell_of_row w D i _ _ _ h.blk
theorem DRep.frozen (h : DRep w D F m d) (i : Nat) : w.frozen? ⟨D, i, none⟩ = false := by simp [World.frozen?, h.blk]

end
end Mun
