/- Texts of mine, one behind the other: DiskM, DiskR, DiskA, DiskB, DiskC, DiskE, DiskF, DiskG, DiskH, DiskK, TornP, FuseP. -/
import Derived.Test.YtoblajbffnkkiaaMgB
import Derived.Deep.QuietTactic
import Derived.BigQuiet
import Derived.Deep.AppendLies
import Derived.Deep.RegionLaw
import Derived.Deep.RegionHeld
import Derived.Laws.CopyRow
import Derived.Test.YtoblajbffnkkiaaMgA
import Derived.Laws.BitsLemmas
section
/- Plain: a device as data. No program in sight. -/
namespace Mun

abbrev Bytes := List UInt8

def page0 : Bytes := List.replicate 512 0
theorem page0_length : page0.length = 512 := List.length_replicate

structure DM where
  room : Nat
  base : List Bytes
  waiting : List (Nat × Bytes)
  log : Bytes
  certain : Nat
  mark : Bytes
  fuse : Int
  ops : Nat
  dead : Bool
  torn : Option (Nat × Bytes)
  tail : Bytes

/-- the last of the writes to a page -/
def lastW {α : Type} (ws : List (Nat × α)) (n : Nat) : Option α := (ws.reverse.find? (·.1 == n)).map (·.2)

theorem lastW_nil {α : Type} (n : Nat) : lastW ([] : List (Nat × α)) n = none := rfl
theorem lastW_snoc {α : Type} (ws : List (Nat × α)) (p : Nat × α) (n : Nat) : lastW (ws ++ [p]) n = if p.1 = n then some p.2 else lastW ws n := by
  simp only [lastW, List.reverse_append, List.reverse_cons, List.reverse_nil, List.nil_append, List.cons_append, List.find?_cons]
  by_cases h : p.1 = n
  · simp [h]
  · have : (p.1 == n) = false := by simpa using h
    simp [this, h]
theorem lastW_map {α β : Type} (f : α → β) (ws : List (Nat × α)) (n : Nat) : lastW (ws.map fun p => (p.1, f p.2)) n = (lastW ws n).map f := by
  simp only [lastW, ← List.map_reverse, List.find?_map, Option.map_map]
  congr 1
theorem lastW_mem {α : Type} {ws : List (Nat × α)} {n : Nat} {x : α} (h : lastW ws n = some x) : (n, x) ∈ ws := by
  simp only [lastW, Option.map_eq_some_iff] at h
  obtain ⟨p, hp, rfl⟩ := h
  have h1 := List.find?_some hp
  have h2 := List.mem_of_find?_eq_some hp
  simp only [beq_iff_eq] at h1
  subst h1
  simpa using h2

def DM.page (m : DM) (n : Nat) : Bytes := (lastW m.waiting n).getD (m.base.getD n page0)

/-- an operation is counted (where the fuse is out: the device dies) -/
def DM.spend (m : DM) : DM :=
  if m.fuse = 0 then { m with dead := true } else { m with fuse := if 0 < m.fuse then m.fuse - 1 else m.fuse, ops := m.ops + 1 }

def DM.setFuse (m : DM) (n : Int) : DM := { m with fuse := max (-1) n }

structure DM.Wf (m : DM) : Prop where
  certain : m.certain ≤ m.log.length
  room : m.log.length + m.tail.length ≤ m.room
  room24 : m.room ≤ 16777216
  pages : ∀ b ∈ m.base, b.length = 512
  npages : m.base.length ≤ 65536
  waiting : ∀ p ∈ m.waiting, p.1 < m.base.length ∧ p.2.length = 512
  nwait : m.waiting.length ≤ m.ops
  mark : m.mark.length ≤ 64
  fuse1 : -1 ≤ m.fuse
  fuse2 : m.fuse ≤ 9223372036854775807
  torn : ∀ p, m.torn = some p → p.1 < m.base.length ∧ p.2.length = 512
  alive : m.dead = false → m.tail = [] ∧ m.torn = none

def DM.new (pages room : Nat) : DM :=
  { room, base := List.replicate pages page0, waiting := [], log := [], certain := 0, mark := [], fuse := -1, ops := 0, dead := false, torn := none, tail := [] }

theorem DM.new_wf (pages room : Nat) (h1 : pages ≤ 65536) (h2 : room ≤ 16777216) : (DM.new pages room).Wf :=
  ⟨Nat.le_refl _, Nat.zero_le _, h2, fun b hb => by simp only [DM.new, List.mem_replicate] at hb; rw [hb.2, page0_length], by simpa [DM.new] using h1, by simp [DM.new], by simp [DM.new], by simp [DM.new], by simp [DM.new], by simp [DM.new], by simp [DM.new], fun _ => ⟨rfl, rfl⟩⟩

def DM.write (m : DM) (n : Int) (b : Bytes) : DM × Int :=
  if m.dead then (m, 9)
  else if ¬ (0 ≤ n ∧ n < m.base.length) ∨ b.length ≠ 512 then (m, 1)
  else if m.fuse = 0 then ({ m.spend with torn := some (n.toNat, b) }, 9)
  else ({ m.spend with waiting := m.waiting ++ [(n.toNat, b)] }, 0)

def DM.settled (m : DM) : List Bytes := (List.range m.base.length).map m.page

def DM.sync (m : DM) : DM × Int :=
  if m.dead then (m, 9)
  else if m.fuse = 0 then (m.spend, 9)
  else ({ m.spend with base := m.settled, waiting := [] }, 0)

def DM.append (m : DM) (b : Bytes) : DM × Int :=
  if m.dead then (m, 9)
  else if m.room < m.log.length + b.length then (m, 7)
  else if m.fuse = 0 then ({ m.spend with tail := b }, 9)
  else ({ m.spend with log := m.log ++ b }, 0)

def DM.force (m : DM) : DM × Int :=
  if m.dead then (m, 9)
  else if m.fuse = 0 then (m.spend, 9)
  else ({ m.spend with certain := m.log.length }, 0)

def DM.cut (m : DM) (n : Int) (b : Bytes) : DM × Int :=
  if m.dead then (m, 9)
  else if n < 0 ∨ m.certain < n ∨ 64 < b.length then (m, 1)
  else if m.fuse = 0 then (m.spend, 9)
  else ({ m.spend with log := m.log.drop n.toNat, certain := m.certain - n.toNat, mark := b }, 0)

def DM.trim (m : DM) (n : Int) : DM × Int :=
  if m.dead then (m, 9)
  else if n < 0 ∨ m.log.length < n then (m, 1)
  else if m.fuse = 0 then (m.spend, 9)
  else ({ m.spend with log := m.log.take n.toNat, certain := n.toNat }, 0)

def DM.setMark (m : DM) (b : Bytes) : DM × Int :=
  if m.dead then (m, 9)
  else if 64 < b.length then (m, 1)
  else if m.fuse = 0 then (m.spend, 9)
  else ({ m.spend with mark := b }, 0)

theorem DM.spend_wf {m : DM} (h : m.Wf) : m.spend.Wf := by
  unfold DM.spend
  split
  · exact ⟨h.certain, h.room, h.room24, h.pages, h.npages, h.waiting, h.nwait, h.mark, h.fuse1, h.fuse2, h.torn, fun h' => by cases h'⟩
  · refine ⟨h.certain, h.room, h.room24, h.pages, h.npages, h.waiting, Nat.le_succ_of_le h.nwait, h.mark, ?_, ?_, h.torn, h.alive⟩
    · have := h.fuse1
      show -1 ≤ (if 0 < m.fuse then m.fuse - 1 else m.fuse)
      split <;> omega
    · have := h.fuse2
      show (if 0 < m.fuse then m.fuse - 1 else m.fuse) ≤ _
      split <;> omega

theorem DM.setFuse_wf {m : DM} (h : m.Wf) (n : Int) (hn : n ≤ 9223372036854775807) : (m.setFuse n).Wf :=
  ⟨h.certain, h.room, h.room24, h.pages, h.npages, h.waiting, h.nwait, h.mark, Int.le_max_left _ _, Int.max_le.2 ⟨by omega, hn⟩, h.torn, h.alive⟩

theorem DM.page_length {m : DM} (h : m.Wf) (n : Nat) (hn : n < m.base.length) : (m.page n).length = 512 := by
  unfold DM.page
  cases hl : lastW m.waiting n with
  | some b => exact (h.waiting _ (lastW_mem hl)).2
  | none =>
    simp only [Option.getD_none, List.getD_eq_getElem?_getD, List.getElem?_eq_getElem hn, Option.getD_some]
    exact h.pages _ (List.getElem_mem hn)

end Mun
end

section
/- How a device lies in memory. -/
set_option maxRecDepth 100000
set_option linter.unusedVariables false
namespace Mun
open Go Go.RowKit
open Go.Proofs

/-- the values behind a device: the block of its pages, of its map; its rows -/
structure DV where
  P : Nat
  M : Nat
  wv : Value
  lv : Value
  mv : Value
  tv : Value
  tl : Value
  pg : Array Value
  ws : List (Nat × (Bytes × Value))
  es : List (Int × Value)
  E : Foot

/-- the blocks that a device turns -/
def dfoot (D : Nat) (d : DV) : Foot := fun k => k = D ∨ k = d.P ∨ k = d.M ∨ d.wv.ownBlock = some k ∨ d.lv.ownBlock = some k
/-- and those that it reads nothing of -/
def dfootE (D : Nat) (d : DV) : Foot := fun k => dfoot D d k ∨ d.E k

def dcells (m : DM) (n : Nat) (d : DV) : Array Value :=
  #[.int .i64 m.room, .slice (some ⟨d.P, 0, none⟩) n n, d.wv, .map (some d.M), d.lv, .int .i64 m.certain, d.mv, .int .i64 m.fuse, .int .i64 m.ops, .bool m.dead, d.tv, d.tl]

def wcells (ws : List (Nat × (Bytes × Value))) : List Value := ws.flatMap fun p => [.int .i64 p.1, p.2.2]

/-- a page's slot: nil is a page of noughts -/
def PgV (F : Foot) (w : World) (v : Value) (b : Bytes) : Prop := (v = .slice none 0 0 ∧ b = page0) ∨ RdB F w v b

def TornV (F : Foot) (w : World) (v : Value) : Option (Nat × Bytes) → Prop
  | none => v = .pointer none
  | some p => ∃ t sv, v = .pointer (some ⟨t, 0, none⟩) ∧ ¬ F t ∧ w.heap[t]? = some (.cells #[.int .i64 p.1, sv] 99 (0, 0)) ∧ RdB F w sv p.2

structure DRep (w : World) (D : Nat) (F : Foot) (m : DM) (d : DV) : Prop where
  blk : w.heap[D]? = some (.cells (dcells m m.base.length d) 95 (0, 0))
  pgs : w.heap[d.P]? = some (.cells d.pg 23 (0, 0))
  pgn : d.pg.size = m.base.length
  pgv : ∀ i (h : i < m.base.length), ∃ v, d.pg[i]? = some v ∧ PgV F w v m.base[i]
  wrow : w.ownsRow 0 99 2 d.wv d.ws.length (wcells d.ws)
  wws : m.waiting = d.ws.map fun p => (p.1, p.2.1)
  wrd : ∀ p ∈ d.ws, RdB F w p.2.2 p.2.1
  mp : IMap w d.M d.es
  mpe : ∀ n : Nat, alook d.es n = (lastW d.ws n).map (·.2)
  mpk : ∀ q : Int, q < 0 → alook d.es q = none
  log : OwnB w 0 5 d.lv m.log
  mark : RdB F w d.mv m.mark
  tail : RdB F w d.tl m.tail
  torn : TornV F w d.tv m.torn
  elt : ∀ k, d.E k → k < w.heap.size
  eown : ∀ k, d.E k → ¬ dfoot D d k

def DiskAt (w : World) (D : Nat) (E F : Foot) (m : DM) : Prop := ∃ d : DV, F = dfoot D d ∧ d.E = E ∧ DRep w D (dfootE D d) m d ∧ m.Wf

section
variable {w w' : World} {D : Nat} {E F F' : Foot} {m : DM} {d : DV}

theorem PgV.keep {v : Value} {b : Bytes} (h : PgV F w v b) (hk : ∀ k, k < w.heap.size → ¬ F k → w'.heap[k]? = w.heap[k]?) (hF : ∀ k, k < w.heap.size → F' k → F k) : PgV F' w' v b := h.imp id (fun h => RdV.keep h hk hF)

theorem TornV.keep {v : Value} {t : Option (Nat × Bytes)} (h : TornV F w v t) (hk : ∀ k, k < w.heap.size → ¬ F k → w'.heap[k]? = w.heap[k]?) (hF : ∀ k, k < w.heap.size → F' k → F k) : TornV F' w' v t := by
  cases t with
  | none => exact h
  | some p =>
    obtain ⟨t, sv, hv, ht, hh, hr⟩ := h
    have hlt := (Array.getElem?_eq_some_iff.1 hh).1
    exact ⟨t, sv, hv, fun h' => ht (hF t hlt h'), (hk t hlt ht).trans hh, RdV.keep hr hk hF⟩

theorem ownsRow_keep {base : Nat} {e : TypeId} {size n : Nat} {v : Value} {xs : List Value} (h : w.ownsRow base e size v n xs) (hk : ∀ k, v.ownBlock = some k → w'.heap[k]? = w.heap[k]?) : w'.ownsRow base e size v n xs := by
  refine ⟨h.1, ?_⟩
  rcases h.2 with hn | ⟨g, cap, cur, rfl, hbg, hg, rest⟩
  · exact .inl hn
  · exact .inr ⟨g, cap, cur, rfl, hbg, by rw [hk g rfl]; exact hg, rest⟩

theorem ownsRow_blk {base : Nat} {e : TypeId} {size n k : Nat} {v : Value} {xs : List Value} (h : w.ownsRow base e size v n xs) (hk : v.ownBlock = some k) : ∃ cur, w.heap[k]? = some (.cells cur e (0, 0)) := by
  rcases h.2 with ⟨rfl, _⟩ | ⟨g, cap, cur, rfl, hbg, hg, rest⟩
  · simp [Value.ownBlock] at hk
  · simp only [Value.ownBlock, Option.some.injEq] at hk
    subst hk
    exact ⟨cur, hg⟩

theorem blk_ne {k k' : Nat} {c c' : Array Value} {e e' : TypeId} {fr fr' : Nat × Nat} (h : w.heap[k]? = some (.cells c e fr)) (h' : w.heap[k']? = some (.cells c' e' fr')) (hne : e ≠ e') : k ≠ k' := by
  rintro rfl
  rw [h] at h'
  injection h' with h'
  injection h' with _ h' _
  exact hne h'

theorem blk_ne_map {k k' : Nat} {c : Array Value} {e : TypeId} {fr : Nat × Nat} {es : List (Int × Value)} (h : w.heap[k]? = some (.cells c e fr)) (h' : IMap w k' es) : k ≠ k' := by
  rintro rfl
  obtain ⟨l, cl, h1, h2⟩ := h'
  have h3 := h1.2.2.2
  rw [h] at h3
  cases h3

theorem DRep.D_lt (h : DRep w D F m d) : D < w.heap.size := (Array.getElem?_eq_some_iff.1 h.blk).1
theorem DRep.neP (h : DRep w D F m d) : D ≠ d.P := blk_ne h.blk h.pgs (by decide)
theorem DRep.neM (h : DRep w D F m d) : D ≠ d.M := blk_ne_map h.blk h.mp
theorem DRep.neW (h : DRep w D F m d) : d.wv.ownBlock ≠ some D := fun e => by obtain ⟨c, hc⟩ := ownsRow_blk h.wrow e; exact blk_ne h.blk hc (by decide) rfl
theorem DRep.neL (h : DRep w D F m d) : d.lv.ownBlock ≠ some D := fun e => by obtain ⟨c, hc⟩ := ownsRow_blk h.log e; exact blk_ne h.blk hc (by decide) rfl
theorem DRep.nePM (h : DRep w D F m d) : d.P ≠ d.M := blk_ne_map h.pgs h.mp
theorem DRep.nePW (h : DRep w D F m d) : d.wv.ownBlock ≠ some d.P := fun e => by obtain ⟨c, hc⟩ := ownsRow_blk h.wrow e; exact blk_ne h.pgs hc (by decide) rfl
theorem DRep.nePL (h : DRep w D F m d) : d.lv.ownBlock ≠ some d.P := fun e => by obtain ⟨c, hc⟩ := ownsRow_blk h.log e; exact blk_ne h.pgs hc (by decide) rfl
theorem DRep.neMW (h : DRep w D F m d) : d.wv.ownBlock ≠ some d.M := fun e => by obtain ⟨c, hc⟩ := ownsRow_blk h.wrow e; exact blk_ne_map hc h.mp rfl
theorem DRep.neML (h : DRep w D F m d) : d.lv.ownBlock ≠ some d.M := fun e => by obtain ⟨c, hc⟩ := ownsRow_blk h.log e; exact blk_ne_map hc h.mp rfl
theorem DRep.neWL (h : DRep w D F m d) (k : Nat) (h1 : d.wv.ownBlock = some k) (h2 : d.lv.ownBlock = some k) : False := by
  obtain ⟨c, hc⟩ := ownsRow_blk h.wrow h1
  obtain ⟨c', hc'⟩ := ownsRow_blk h.log h2
  exact blk_ne hc hc' (by decide) rfl

theorem DiskAt.foot_lt (h : DiskAt w D E F m) (k : Nat) (hk : F k) : k < w.heap.size := by
  obtain ⟨d, rfl, rfl, h, hwf⟩ := h
  rcases hk with rfl | rfl | rfl | hk | hk
  · exact h.D_lt
  · exact (Array.getElem?_eq_some_iff.1 h.pgs).1
  · exact h.mp.lt
  · exact (h.wrow.lt k hk).2
  · exact (h.log.lt k hk).2

theorem DRep.foot_lt (h : DRep w D (dfootE D d) m d) (k : Nat) (hk : dfootE D d k) : k < w.heap.size := by
  rcases hk with (rfl | rfl | rfl | hk | hk) | hk
  · exact h.D_lt
  · exact (Array.getElem?_eq_some_iff.1 h.pgs).1
  · exact h.mp.lt
  · exact (h.wrow.lt k hk).2
  · exact (h.log.lt k hk).2
  · exact h.elt k hk

theorem lt_of_same {w w' : World} {k : Nat} (h : k < w.heap.size) (he : w'.heap[k]? = w.heap[k]?) : k < w'.heap.size := by
  rw [Array.getElem?_eq_getElem h] at he
  exact (Array.getElem?_eq_some_iff.1 he).1

/-- what turns nothing of the device's, and no block that it reads, leaves it -/
theorem DRep.keep (h : DRep w D (dfootE D d) m d) (hk : ∀ k, k < w.heap.size → w'.heap[k]? = w.heap[k]?) : DRep w' D (dfootE D d) m d := by
  have kp : ∀ k, dfoot D d k → w'.heap[k]? = w.heap[k]? := fun k h' => hk k (h.foot_lt k (.inl h'))
  have ko : ∀ k, k < w.heap.size → ¬ dfootE D d k → w'.heap[k]? = w.heap[k]? := fun k h1 _ => hk k h1
  exact ⟨(kp D (.inl rfl)).trans h.blk, (kp _ (.inr (.inl rfl))).trans h.pgs, h.pgn, fun i hi => by
      obtain ⟨v, h1, h2⟩ := h.pgv i hi
      exact ⟨v, h1, h2.keep ko (fun _ _ h => h)⟩,
    ownsRow_keep h.wrow (fun k h' => kp k (.inr (.inr (.inr (.inl h'))))), h.wws, fun p hp => RdV.keep (h.wrd p hp) ko (fun _ _ h => h), h.mp.keep (kp _ (.inr (.inr (.inl rfl)))), h.mpe, h.mpk,
    ownsRow_keep h.log (fun k h' => kp k (.inr (.inr (.inr (.inr h'))))), RdV.keep h.mark ko (fun _ _ h => h), RdV.keep h.tail ko (fun _ _ h => h), h.torn.keep ko (fun _ _ h => h),
    fun k hE => lt_of_same (h.elt k hE) (hk k (h.elt k hE)), h.eown⟩

theorem DRep.below (h : DRep w D (dfootE D d) m d) (hb : Below w.heap.size w w') : DRep w' D (dfootE D d) m d := h.keep hb.block
theorem DRep.alloc (h : DRep w D (dfootE D d) m d) (o : Obj) : DRep (w.alloc o) D (dfootE D d) m d := h.below ((Below.refl _ _).alloc (Nat.le_refl _) o)

theorem DiskAt.keep (h : DiskAt w D E F m) (hk : ∀ k, k < w.heap.size → w'.heap[k]? = w.heap[k]?) : DiskAt w' D E F m := by
  obtain ⟨d, rfl, rfl, h, hwf⟩ := h
  exact ⟨d, rfl, rfl, h.keep hk, hwf⟩

theorem DiskAt.wf (h : DiskAt w D E F m) : m.Wf := by
  obtain ⟨d, rfl, rfl, h, hwf⟩ := h
  exact hwf

theorem DiskAt.below (h : DiskAt w D E F m) (hb : Below w.heap.size w w') : DiskAt w' D E F m := h.keep hb.block

/-- the numbers and the mark alone have turned -/
theorem DRep.scal {m' : DM} (h : DRep w D (dfootE D d) m d) (hsame : ∀ k, k < w.heap.size → k ≠ D → w'.heap[k]? = w.heap[k]?)
    (hblk : w'.heap[D]? = some (.cells (dcells m' m'.base.length d) 95 (0, 0))) (hb : m'.base = m.base) (hw : m'.waiting = m.waiting) (hl : m'.log = m.log) (hm : m'.mark = m.mark) (ht : m'.torn = m.torn) (htl : m'.tail = m.tail) :
    DRep w' D (dfootE D d) m' d := by
  have ko : ∀ k, k < w.heap.size → ¬ dfootE D d k → w'.heap[k]? = w.heap[k]? := fun k h1 h2 => hsame k h1 (fun e => h2 (.inl (.inl e)))
  refine ⟨hblk, (hsame _ (Array.getElem?_eq_some_iff.1 h.pgs).1 (Ne.symm h.neP)).trans h.pgs, by rw [hb]; exact h.pgn, fun i hi => ?_, ownsRow_keep h.wrow (fun k h' => hsame k (h.wrow.lt k h').2 (fun e => h.neW (e ▸ h'))), by rw [hw]; exact h.wws,
    fun p hp => RdV.keep (h.wrd p hp) ko (fun _ _ h => h), h.mp.keep (hsame _ h.mp.lt (Ne.symm h.neM)), h.mpe, h.mpk, by rw [hl]; exact ownsRow_keep h.log (fun k h' => hsame k (h.log.lt k h').2 (fun e => h.neL (e ▸ h'))),
    by rw [hm]; exact RdV.keep h.mark ko (fun _ _ h => h), by rw [htl]; exact RdV.keep h.tail ko (fun _ _ h => h), by rw [ht]; exact h.torn.keep ko (fun _ _ h => h),
    fun k hE => lt_of_same (h.elt k hE) (hsame k (h.elt k hE) (fun e => h.eown k hE (.inl e))), h.eown⟩
  obtain ⟨v, h1, h2⟩ := h.pgv i (by rw [hb] at hi; exact hi)
  refine ⟨v, h1, ?_⟩
  have : m'.base[i] = m.base[i]'(by rw [hb] at hi; exact hi) := by congr 1
  rw [this]
  exact h2.keep ko (fun _ _ h => h)

theorem rdE_chg {d d' : DV} {size n : Nat} {v : Value} {xs : List Value} (h : RdV (dfootE D d) w size v n xs) (hc : Chg (dfoot D d) (dfoot D d') w w') (hE : d'.E = d.E := by rfl) : RdV (dfootE D d') w' size v n xs :=
  h.keep (fun k h1 h2 => hc.block k h1 (fun e => h2 (.inl e))) (fun k h1 h2 => by
    rcases h2 with h2 | h2
    · rcases hc.foot k h2 with h3 | h3
      · exact .inl h3
      · omega
    · exact .inr (hE ▸ h2))

/-- what turns blocks of E alone leaves the device -/
theorem DiskAt.frame (h : DiskAt w D E F m) {E' : Foot} (hk : ∀ k, k < w.heap.size → ¬ E k → w'.heap[k]? = w.heap[k]?) (hs : w.heap.size ≤ w'.heap.size) (hE : ∀ k, E' k → E k ∨ (w.heap.size ≤ k ∧ k < w'.heap.size)) : DiskAt w' D E' F m := by
  obtain ⟨d, rfl, rfl, h, hwf⟩ := h
  have kp : ∀ k, dfoot D d k → w'.heap[k]? = w.heap[k]? := fun k h' => hk k (h.foot_lt k (.inl h')) (fun e => h.eown k e h')
  have ko : ∀ k, k < w.heap.size → ¬ dfootE D d k → w'.heap[k]? = w.heap[k]? := fun k h1 h2 => hk k h1 (fun e => h2 (.inr e))
  have kF : ∀ k, k < w.heap.size → dfootE D { d with E := E' } k → dfootE D d k := fun k h1 h2 => by
    rcases h2 with h2 | h2
    · exact .inl h2
    · rcases hE k h2 with h3 | h3
      · exact .inr h3
      · omega
  refine ⟨{ d with E := E' }, rfl, rfl, ?_, hwf⟩
  refine ⟨(kp D (.inl rfl)).trans h.blk, (kp _ (.inr (.inl rfl))).trans h.pgs, h.pgn, fun i hi => by
      obtain ⟨v, h1, h2⟩ := h.pgv i hi
      exact ⟨v, h1, h2.keep ko kF⟩,
    ownsRow_keep h.wrow (fun k h' => kp k (.inr (.inr (.inr (.inl h'))))), h.wws, fun p hp => RdV.keep (h.wrd p hp) ko kF, h.mp.keep (kp _ (.inr (.inr (.inl rfl)))), h.mpe, h.mpk,
    ownsRow_keep h.log (fun k h' => kp k (.inr (.inr (.inr (.inr h'))))), RdV.keep h.mark ko kF, RdV.keep h.tail ko kF, h.torn.keep ko kF, fun k hk' => ?_, fun k hk' hd => ?_⟩
  · rcases hE k hk' with h3 | h3
    · have := h.elt k h3; omega
    · exact h3.2
  · rcases hE k hk' with h3 | h3
    · exact h.eown k h3 hd
    · have := h.foot_lt k (.inl hd); omega

/-- E grows by blocks that are none of the device's, and that it does not read: new ones -/
theorem DiskAt.chgE (h : DiskAt w D E F m) {E' : Foot} (hc : Chg E E' w w') : DiskAt w' D E' F m :=
  h.frame hc.block hc.size (fun k hk => hc.foot k hk)
theorem DiskAt.sub (h : DiskAt w D E F m) {E' : Foot} (hE : ∀ k, E' k → E k) : DiskAt w D E' F m :=
  h.frame (fun _ _ _ => rfl) (Nat.le_refl _) (fun k hk => .inl (hE k hk))
theorem DiskAt.grow (h : DiskAt w D E F m) {E' : Foot} (hb : Below w.heap.size w w') (hE : ∀ k, E' k → E k ∨ (w.heap.size ≤ k ∧ k < w'.heap.size)) : DiskAt w' D E' F m :=
  h.frame (fun k hk _ => hb.block k hk) hb.size hE
theorem DiskAt.apart (h : DiskAt w D E F m) (k : Nat) (hE : E k) : ¬ F k := by
  obtain ⟨d, rfl, rfl, h, hwf⟩ := h
  exact h.eown k hE
theorem DiskAt.E_lt (h : DiskAt w D E F m) (k : Nat) (hE : E k) : k < w.heap.size := by
  obtain ⟨d, rfl, rfl, h, hwf⟩ := h
  exact h.elt k hE

/-- the cells of a device's block -/
theorem DRep.cell (h : DRep w D F m d) (i : Nat) : w.cell? ⟨D, i, none⟩ = (dcells m m.base.length d)[i]? := cell_of_row w D i _ _ _ h.blk
theorem DRep.frozen (h : DRep w D F m d) (i : Nat) : w.frozen? ⟨D, i, none⟩ = false := by simp [World.frozen?, h.blk]

end
end Mun
end

section
/- Contracts of a device's methods: those that read, and those that turn its numbers alone. -/
set_option maxRecDepth 100000
set_option linter.unusedVariables false
namespace Mun
open Go Go.RowKit
open Go.Proofs

theorem clone6 {F : Foot} (w : World) (v : Value) (l : List UInt8) (hv : RdB F w v l) (hl : l.length ≤ 140737488355328) :
    Calls Try.prog 45 #[v] w fun e w' => e = .returned (.slice (some ⟨w.heap.size, 0, none⟩) l.length l.length) ∧ w.alloc (bobj l) = w' := by
  obtain ⟨a, n, c, rfl, HN, hlc, hcm⟩ := hv.formN
  have hmk := make_bytes0 l.length hl
  have hcp := copied_bytes (ty := 23) hv hl
  rw [← HN.out] at hmk hcp ⊢
  have HR := Lib.hid hcp
  clear hcp hv
  go_enter Try.func45, Try.ntmps45
  go_wp2_with (at_builtin; refine wpList_append_eq rfl rfl HR.out rfl rfl ?_; clear HR)
  go_ret
  exact ⟨rfl, rfl⟩

section
variable (w : World) (D : Nat) (F : Foot) {E : Foot} (m : DM)

theorem d_certain (h : DiskAt w D E F m) : Calls Try.prog 48 #[.pointer (some ⟨D, 0, none⟩)] w fun e w' => e = .returned (.int .i64 m.certain) ∧ w = w' := by
  obtain ⟨d, rfl, rfl, h, hwf⟩ := h
  have c1 := h.cell 5
  simp only [dcells] at c1
  clear h
  go_enter Try.func48, Try.ntmps48
  go_wp2
  go_ret
  exact ⟨rfl, rfl⟩

/-- is n a page? -/
def hasB (k : Nat) (n : Int) : Bool := decide (0 ≤ n ∧ n < k)

theorem setCell_heap (w : World) (a : Addr) (v : Value) (k : Nat) (h : k ≠ a.block) : (w.setCell a v).heap[k]? = w.heap[k]? := Below.heap_setCell w a v k h

theorem setCell_blk {w : World} {D i : Nat} {c : Array Value} {e : TypeId} (h : w.heap[D]? = some (.cells c e (0, 0))) (v : Value) : (w.setCell ⟨D, i, none⟩ v).heap[D]? = some (.cells (c.setIfInBounds i v) e (0, 0)) := by
  simp [World.setCell, Array.getElem?_modify, h]

theorem setCell_size (w : World) (a : Addr) (v : Value) : (w.setCell a v).heap.size = w.heap.size := by simp [World.setCell]

theorem chg_setCell {F : Foot} (w : World) (a : Addr) (v : Value) (hF : F a.block) : Chg F F w (w.setCell a v) :=
  ⟨rfl, rfl, rfl, by rw [setCell_size]; exact Nat.le_refl _, fun k _ hn => setCell_heap w a v k (fun e => hn (e ▸ hF)), fun _ h => .inl h⟩

theorem DRep.set1 {w : World} {D : Nat} {m : DM} {d : DV} (h : DRep w D (dfootE D d) m d) (i : Nat) (v : Value) (m' : DM) (hc : (dcells m m.base.length d).setIfInBounds i v = dcells m' m.base.length d)
    (hb : m'.base = m.base) (hw : m'.waiting = m.waiting) (hl : m'.log = m.log) (hm : m'.mark = m.mark) (ht : m'.torn = m.torn) (htl : m'.tail = m.tail) : DRep (w.setCell ⟨D, i, none⟩ v) D (dfootE D d) m' d :=
  h.scal (fun k _ hk => setCell_heap w _ v k hk) (by rw [setCell_blk h.blk, hc, hb]) hb hw hl hm ht htl

theorem DRep.set2 {w : World} {D : Nat} {m : DM} {d : DV} (h : DRep w D (dfootE D d) m d) (i j : Nat) (v u : Value) (m' : DM) (hc : ((dcells m m.base.length d).setIfInBounds i v).setIfInBounds j u = dcells m' m.base.length d)
    (hb : m'.base = m.base) (hw : m'.waiting = m.waiting) (hl : m'.log = m.log) (hm : m'.mark = m.mark) (ht : m'.torn = m.torn) (htl : m'.tail = m.tail) : DRep ((w.setCell ⟨D, i, none⟩ v).setCell ⟨D, j, none⟩ u) D (dfootE D d) m' d :=
  h.scal (fun k _ hk => (setCell_heap _ _ u k hk).trans (setCell_heap w _ v k hk)) (by rw [setCell_blk (setCell_blk h.blk v), hc, hb]) hb hw hl hm ht htl

theorem d_fuse (h : DiskAt w D E F m) (n : Int) (h1 : -9223372036854775808 ≤ n) (h2 : n ≤ 9223372036854775807) : Calls Try.prog 20 #[.pointer (some ⟨D, 0, none⟩), .int .i64 n] w fun e w' => e = .returned (.tuple #[]) ∧ DiskAt w' D E F (m.setFuse n) ∧ Chg F F w w' := by
  obtain ⟨d, rfl, rfl, h, hwf⟩ := h
  have c1 := h.cell 7
  have f1 := h.frozen 7
  simp only [dcells] at c1
  have HD := Lib.hid h
  clear h
  go_enter Try.func20, Try.ntmps20
  go_wp2
  · go_end0
    refine ⟨rfl, ⟨d, rfl, rfl, HD.out.set1 7 _ _ ?_ rfl rfl rfl rfl rfl rfl, DM.setFuse_wf hwf n h2⟩, chg_setCell _ _ _ (.inl rfl)⟩
    have e : max (-1) n = n := by omega
    simp [dcells, DM.setFuse, e]
  · go_end0
    refine ⟨rfl, ⟨d, rfl, rfl, HD.out.set1 7 _ _ ?_ rfl rfl rfl rfl rfl rfl, DM.setFuse_wf hwf n h2⟩, chg_setCell _ _ _ (.inl rfl)⟩
    have e : max (-1) n = -1 := by omega
    simp [dcells, DM.setFuse, e]

theorem fuse_cases (m : DM) (h : m.Wf) : m.fuse = 0 ∨ 0 < m.fuse ∨ m.fuse < 0 := by omega

/-- counts: with the device's parts at hand -/
theorem d_counts_rep (d : DV) (h : DRep w D (dfootE D d) m d) (hwf : m.Wf) (ho : m.ops < 4398046511104) : Calls Try.prog 67 #[.pointer (some ⟨D, 0, none⟩)] w fun e w' => e = .returned (.bool (decide (m.fuse ≠ 0))) ∧ DRep w' D (dfootE D d) m.spend d ∧ Chg (dfoot D d) (dfoot D d) w w' := by
  have c7 := h.cell 7
  have c8 := h.cell 8
  have c9 := h.cell 9
  have f7 := h.frozen 7
  have f8 := h.frozen 8
  have f9 := h.frozen 9
  simp only [dcells] at c7 c8 c9
  have HD := Lib.hid h
  have hf1 := hwf.fuse1
  have hf2 := hwf.fuse2
  have ho' : (m.ops : Int) < 4398046511104 := by omega
  clear h
  obtain ⟨f, hf⟩ : ∃ f, m.fuse = f := ⟨_, rfl⟩
  have HF := Lib.hid hf
  rw [hf] at c7 hf1 hf2 ⊢
  obtain ⟨o, ho2⟩ : ∃ o, m.ops = o := ⟨_, rfl⟩
  have HO := Lib.hid ho2
  rw [ho2] at c8 ho'
  clear hf ho2 ho
  have HF2 := Lib.hid hf2
  rcases (by omega : f = 0 ∨ 0 < f ∨ f < 0) with h0 | h0 | h0
  · subst h0
    have HS : Hid (m.spend = { m with dead := true }) := by show _ = _; unfold DM.spend; rw [if_pos HF.out]
    go_enter Try.func67, Try.ntmps67
    go_wp2
    go_ret
    refine ⟨rfl, ?_, chg_setCell _ _ _ (.inl rfl)⟩
    rw [HS.out]
    refine HD.out.set1 9 _ _ ?_ rfl rfl rfl rfl rfl rfl
    simp [dcells]
  · have hne : (f == 0) = false := by simp; omega
    have HS : Hid (m.spend = { m with fuse := f - 1, ops := o + 1 }) := by
      show _ = _
      unfold DM.spend
      rw [if_neg (by rw [HF.out]; omega), if_pos (by rw [HF.out]; exact h0), HF.out, HO.out]
    go_enter Try.func67, Try.ntmps67
    go_wp2
    go_ret
    refine ⟨?_, ?_, (chg_setCell _ _ _ (.inl rfl)).trans (chg_setCell _ _ _ (.inl rfl))⟩
    · have : ¬ f = 0 := by omega
      simp [this]
    · rw [HS.out]
      refine HD.out.set2 7 8 _ _ _ ?_ rfl rfl rfl rfl rfl rfl
      simp [dcells]
  · have hf3 : f = -1 := by omega
    subst hf3
    clear hf1 hf2 h0
    have HS : Hid (m.spend = { m with fuse := -1, ops := o + 1 }) := by
      show _ = _
      unfold DM.spend
      rw [if_neg (by rw [HF.out]; omega), if_neg (by rw [HF.out]; omega), HF.out, HO.out]
    go_enter Try.func67, Try.ntmps67
    go_wp2
    go_ret
    refine ⟨rfl, ?_, chg_setCell _ _ _ (.inl rfl)⟩
    rw [HS.out]
    refine HD.out.set1 8 _ _ ?_ rfl rfl rfl rfl rfl rfl
    simp [dcells, HF.out]
end
end Mun
end

section
/- Contracts of a device: a new one; what reads bytes. -/
set_option maxRecDepth 100000
set_option linter.unusedVariables false
namespace Mun
open Go Go.RowKit
open Go.Proofs

theorem info_bs : (Try.prog.info? 23).map (fun i => (i.zero, i.size, i.bytes)) = some (some (.slice none 0 0), 1, 24) := by kernel_rfl

theorem madeCells_one (z : Value) (n : Nat) : madeCells #[z] n = (List.replicate n z).toArray := by
  apply Array.ext
  · simp [madeCells]
  · intro i h1 h2
    simp [madeCells, Nat.mod_one]

theorem make_slots (n : Nat) (hn : n ≤ 65536) (w : World) :
    (Instr.makeSlice 90 (.int .i64 n) (.int .i64 n)).run Try.prog w = .ok (.slice (some ⟨w.heap.size, 0, none⟩) n n) (w.alloc (.cells (List.replicate n (Value.slice none 0 0)).toArray 23)) := by
  obtain ⟨i, hi, hz, h1, h2⟩ := info_of info_bs
  have hr := run_make (P := Try.prog) w _ _ i _ Try.underlying90 hi hz .i64 .i64 n n (by omega) (by omega) (by rw [h2]; omega) (by omega)
  rw [hr, h1]
  simp only [Int.toNat_natCast, Nat.mul_one]
  rw [show (Value.slice none 0 0).cells = #[Value.slice none 0 0] from rfl, madeCells_one]

theorem alloc_get (w : World) (o : Obj) (k : Nat) (h : k < w.heap.size) : (w.alloc o).heap[k]? = w.heap[k]? := by
  simp only [World.alloc, Array.getElem?_push, Nat.ne_of_lt h, if_false]

/-- what New lays -/
def newWorld (w : World) (pages room : Nat) : World :=
  ((w.alloc (.cells (List.replicate pages (Value.slice none 0 0)).toArray 23)).alloc (.map #[] 0)).alloc
    (.cells #[.int .i64 room, .slice (some ⟨w.heap.size, 0, none⟩) pages pages, .slice none 0 0, .map (some (w.heap.size + 1)), .slice none 0 0, .int .i64 (0 : Nat), .slice none 0 0, .int .i64 (-1), .int .i64 (0 : Nat), .bool false, .pointer none, .slice none 0 0] 95)

def newFoot (w : World) : Foot := fun k => k = w.heap.size + 2 ∨ k = w.heap.size ∨ k = w.heap.size + 1

def newDV (w : World) (pages : Nat) (E : Foot) : DV := ⟨w.heap.size, w.heap.size + 1, .slice none 0 0, .slice none 0 0, .slice none 0 0, .pointer none, .slice none 0 0, (List.replicate pages (Value.slice none 0 0)).toArray, [], [], E⟩

theorem new_rep (w : World) (pages room : Nat) (E : Foot) (hE : ∀ k, E k → k < w.heap.size) : DRep (newWorld w pages room) (w.heap.size + 2) (dfootE (w.heap.size + 2) (newDV w pages E)) (DM.new pages room) (newDV w pages E) := by
  have hP : (newWorld w pages room).heap[w.heap.size]? = some (.cells (List.replicate pages (Value.slice none 0 0)).toArray 23 (0, 0)) := by
    unfold newWorld
    rw [alloc_get _ _ _ (by simp only [World.size_alloc]; omega), alloc_get _ _ _ (by simp only [World.size_alloc]; omega)]
    exact heap_alloc_new w _
  have hM : (newWorld w pages room).heap[w.heap.size + 1]? = some (.map #[] 0) := by
    unfold newWorld
    rw [alloc_get _ _ _ (by simp only [World.size_alloc]; omega)]
    have := heap_alloc_new (w.alloc (.cells (List.replicate pages (Value.slice none 0 0)).toArray 23)) (.map #[] 0)
    rwa [World.size_alloc] at this
  have hD : (newWorld w pages room).heap[w.heap.size + 2]? = some (.cells #[.int .i64 room, .slice (some ⟨w.heap.size, 0, none⟩) pages pages, .slice none 0 0, .map (some (w.heap.size + 1)), .slice none 0 0, .int .i64 (0 : Nat), .slice none 0 0, .int .i64 (-1), .int .i64 (0 : Nat), .bool false, .pointer none, .slice none 0 0] 95 (0, 0)) := by
    have := heap_alloc_new ((w.alloc (.cells (List.replicate pages (Value.slice none 0 0)).toArray 23)).alloc (.map #[] 0)) (.cells #[.int .i64 room, .slice (some ⟨w.heap.size, 0, none⟩) pages pages, .slice none 0 0, .map (some (w.heap.size + 1)), .slice none 0 0, .int .i64 (0 : Nat), .slice none 0 0, .int .i64 (-1), .int .i64 (0 : Nat), .bool false, .pointer none, .slice none 0 0] 95)
    rw [World.size_alloc, World.size_alloc] at this
    exact this
  refine ⟨?_, hP, by simp [DM.new, newDV], ?_, World.ownsRow_nil _ _ _ _, rfl, fun p hp => by simp [newDV] at hp, ⟨[], 0, ⟨by simp, by simp, by simp, hM⟩, rfl⟩, fun n => rfl, fun q _ => rfl, World.ownsRow_nil _ _ _ _, RdB.nil _ _, RdB.nil _ _, rfl, fun k hk => ?_, fun k hk hd => ?_⟩
  · rw [hD]
    simp [dcells, DM.new, newDV]
  · intro i hi
    have hi' : i < pages := by simpa [DM.new] using hi
    refine ⟨.slice none 0 0, by simp [newDV, hi'], .inl ⟨rfl, ?_⟩⟩
    simp [DM.new]
  · have := hE k hk
    unfold newWorld
    simp only [World.size_alloc]
    omega
  · have := hE k hk
    rcases hd with h | h | h | h | h
    · omega
    · have : k = w.heap.size := h
      omega
    · have : k = w.heap.size + 1 := h
      omega
    · simp [newDV, Value.ownBlock] at h
    · simp [newDV, Value.ownBlock] at h

theorem new_disk (w : World) (pages room : Nat) {E : Foot} (hE : ∀ k, E k → k < w.heap.size) (h1 : pages ≤ 65536) (h2 : room ≤ 16777216) : DiskAt (newWorld w pages room) (w.heap.size + 2) E (newFoot w) (DM.new pages room) := by
  have e : newFoot w = dfoot (w.heap.size + 2) (newDV w pages E) := by
    funext k
    simp [newFoot, dfoot, Value.ownBlock, newDV]
  rw [e]
  exact ⟨newDV w pages E, rfl, rfl, new_rep w pages room E hE, DM.new_wf _ _ h1 h2⟩

theorem d_fresh (w : World) (pages room : Nat) (h1 : pages ≤ 65536) (h2 : room ≤ 16777216) : Calls Try.prog 43 #[.int .i64 pages, .int .i64 room] w fun e w' => e = .returned (.pointer (some ⟨w.heap.size + 2, 0, none⟩)) ∧ newWorld w pages room = w' := by
  have hmm := @run_makeMap Try.prog
  have hms := make_slots pages h1 w
  clear h1 h2
  go_enter Try.func43, Try.ntmps43
  go_wp2
  go_ret
  exact ⟨rfl, rfl⟩

theorem d_new (w : World) (pages room : Nat) (h0 : 1 ≤ pages) (h1 : pages ≤ 65536) (h2 : room ≤ 16777216) : Calls Try.prog 39 #[.int .i64 pages, .int .i64 room] w fun e w' => e = .returned (.tuple #[.pointer (some ⟨w.heap.size + 2, 0, none⟩), .int .i64 0]) ∧ newWorld w pages room = w' := by
  have hf := d_fresh w pages room h1 h2
  have t1 : (1 : Int) ≤ (pages : Int) := by omega
  have t2 : (pages : Int) ≤ 65536 := by omega
  have t3 : (room : Int) ≤ 16777216 := by omega
  have t4 : (0 : Int) ≤ (room : Int) := by omega
  clear h0 h1 h2
  go_enter Try.func39, Try.ntmps39
  go_wp2_with fail
  refine hf.mono ?_
  rintro e w' ⟨rfl, rfl⟩
  go_wp2
  go_ret2
  exact ⟨rfl, rfl⟩

theorem d_new_no (w : World) (pages room : Int) (h : ¬ (1 ≤ pages ∧ pages ≤ 65536 ∧ 0 ≤ room ∧ room ≤ 16777216)) : Calls Try.prog 39 #[.int .i64 pages, .int .i64 room] w fun e w' => e = .returned (.tuple #[.pointer none, .int .i64 1]) ∧ w = w' := by
  by_cases t1 : pages < 1
  · clear h
    go_enter Try.func39, Try.ntmps39
    go_wp2
    go_ret2
    exact ⟨rfl, rfl⟩
  · by_cases t2 : pages > 65536
    · clear h
      go_enter Try.func39, Try.ntmps39
      go_wp2
      go_ret2
      exact ⟨rfl, rfl⟩
    · by_cases t3 : room < 0
      · clear h
        go_enter Try.func39, Try.ntmps39
        go_wp2
        go_ret2
        exact ⟨rfl, rfl⟩
      · have t4 : room > 16777216 := by omega
        clear h
        go_enter Try.func39, Try.ntmps39
        go_wp2
        go_ret2
        exact ⟨rfl, rfl⟩

section
variable (w : World) (D : Nat) (F : Foot) {E : Foot} (m : DM)

theorem d_log_no (h : DiskAt w D E F m) (hd : m.dead = true) : Calls Try.prog 30 #[.pointer (some ⟨D, 0, none⟩)] w fun e w' => e = .returned (.tuple #[.slice none 0 0, .int .i64 9]) ∧ w = w' := by
  obtain ⟨d, rfl, rfl, h, hwf⟩ := h
  have c9 := h.cell 9
  simp only [dcells, hd] at c9
  clear h hd
  go_enter Try.func30, Try.ntmps30
  go_wp2
  go_ret2
  exact ⟨rfl, rfl⟩

theorem d_log (h : DiskAt w D E F m) (hd : m.dead = false) : Calls Try.prog 30 #[.pointer (some ⟨D, 0, none⟩)] w fun e w' => e = .returned (.tuple #[.slice (some ⟨w.heap.size, 0, none⟩) m.log.length m.log.length, .int .i64 0]) ∧ w.alloc (bobj m.log) = w' := by
  obtain ⟨d, rfl, rfl, h, hwf⟩ := h
  have c9 := h.cell 9
  have c4 := h.cell 4
  simp only [dcells, hd] at c4 c9
  have hrd : RdB NoF w d.lv m.log := h.log.rd (fun _ _ => noF _)
  have hl : m.log.length ≤ 140737488355328 := by have := hwf.room; have := hwf.room24; omega
  have hc := clone6 w d.lv m.log hrd hl
  clear h hd hrd hl
  go_enter Try.func30, Try.ntmps30
  go_wp2_with fail
  refine hc.mono ?_
  rintro e w' ⟨rfl, rfl⟩
  go_wp2
  go_ret2
  exact ⟨rfl, rfl⟩

theorem d_marked_no (h : DiskAt w D E F m) (hd : m.dead = true) : Calls Try.prog 46 #[.pointer (some ⟨D, 0, none⟩)] w fun e w' => e = .returned (.tuple #[.slice none 0 0, .int .i64 9]) ∧ w = w' := by
  obtain ⟨d, rfl, rfl, h, hwf⟩ := h
  have c9 := h.cell 9
  simp only [dcells, hd] at c9
  clear h hd
  go_enter Try.func46, Try.ntmps46
  go_wp2
  go_ret2
  exact ⟨rfl, rfl⟩

theorem d_marked (h : DiskAt w D E F m) (hd : m.dead = false) : Calls Try.prog 46 #[.pointer (some ⟨D, 0, none⟩)] w fun e w' => e = .returned (.tuple #[.slice (some ⟨w.heap.size, 0, none⟩) m.mark.length m.mark.length, .int .i64 0]) ∧ w.alloc (bobj m.mark) = w' := by
  obtain ⟨d, rfl, rfl, h, hwf⟩ := h
  have c9 := h.cell 9
  have c4 := h.cell 6
  simp only [dcells, hd] at c4 c9
  have hl : m.mark.length ≤ 140737488355328 := by have := hwf.mark; omega
  have hc := clone6 w d.mv m.mark h.mark hl
  clear h hd hl
  go_enter Try.func46, Try.ntmps46
  go_wp2_with fail
  refine hc.mono ?_
  rintro e w' ⟨rfl, rfl⟩
  go_wp2
  go_ret2
  exact ⟨rfl, rfl⟩

theorem zero_bs : ∀ w, (zeroValue 23).run Try.prog w = .ok (.slice none 0 0) w := fun w => by kernel_rfl

/-- the page as it was written last: its value, nil where it never was -/
theorem DRep.pageV {w : World} {D : Nat} {F : Foot} {m : DM} {d : DV} (h : DRep w D F m d) (n : Nat) (hn : n < m.base.length) :
    ∃ v, d.pg[n]? = some v ∧ PgV F w (((alook d.es n)).getD v) (m.page n) := by
  obtain ⟨v, h1, h2⟩ := h.pgv n hn
  refine ⟨v, h1, ?_⟩
  have hl : lastW m.waiting n = (lastW d.ws n).map (·.1) := by
    rw [h.wws]
    exact lastW_map (fun p : Bytes × Value => p.1) d.ws n
  rw [h.mpe n, DM.page, hl]
  cases hw : lastW d.ws n with
  | none =>
    simp only [Option.map_none, Option.getD_none, List.getD_eq_getElem?_getD, List.getElem?_eq_getElem hn, Option.getD_some]
    exact h2
  | some p =>
    exact .inr (h.wrd _ (lastW_mem hw))

end
end Mun
end

section
/- Contracts of a device's operations on the log and the mark. -/
set_option maxRecDepth 100000
set_option linter.unusedVariables false
namespace Mun
open Go Go.RowKit
open Go.Proofs

theorem slice_bytes_to {F : Foot} {w : World} {a : Option Addr} {n c : Nat} {l : List UInt8} (h : RdB F w (.slice a n c) l) (hi : Nat) (h2 : hi ≤ l.length) :
    ∃ a1 c1, (∀ W, (Instr.sliceAt 23 (.slice a n c) none (some (.int .i64 hi)) none).run Try.prog W = .ok (.slice a1 hi c1) W) ∧
      RdB F w (.slice a1 hi c1) (l.take hi) := by
  have hp := h.part 0 hi (Nat.zero_le _) h2
  obtain ⟨a', c', hv, hc1, hc2⟩ := h.form
  injection hv with e1 e2 e3
  subst e1 e2 e3
  rw [Nat.sub_zero, List.drop_zero] at hp
  refine ⟨_, _, fun W => ?_, hp⟩
  obtain ⟨i, hi', hz, hs1, hs2⟩ := info_of info_u8
  have he : Try.prog.elem 23 = 5 := by kernel_rfl
  have ht : Try.prog.underlying 23 = some (.slice (Try.prog.elem 23)) := by rw [he]; exact Try.underlying23
  rw [run_sliceAt_slice _ _ _ _ _ _ ht, run_slice_h _ _ _ _ _ ht _ _ (by omega) (by omega), he]
  simp [Go.sizeOf, typeInfo, hi', hs1, sliced]

theorem slice_bytes_from {F : Foot} {w : World} {a : Option Addr} {n c : Nat} {l : List UInt8} (h : RdB F w (.slice a n c) l) (lo : Nat) (h2 : lo ≤ l.length) :
    ∃ a1 c1, (∀ W, (Instr.sliceAt 23 (.slice a n c) (some (.int .i64 lo)) none none).run Try.prog W = .ok (.slice a1 (n - lo) c1) W) ∧
      RdB F w (.slice a1 (n - lo) c1) (l.drop lo) := by
  obtain ⟨a', c', hv, hc1, hc2⟩ := h.form
  have hp := h.part lo l.length h2 (Nat.le_refl _)
  injection hv with e1 e2 e3
  subst e1 e2 e3
  rw [List.take_of_length_le (by rw [List.length_drop]; exact Nat.le_refl _)] at hp
  refine ⟨_, _, fun W => ?_, hp⟩
  obtain ⟨i, hi', hz, hs1, hs2⟩ := info_of info_u8
  have he : Try.prog.elem 23 = 5 := by kernel_rfl
  have ht : Try.prog.underlying 23 = some (.slice (Try.prog.elem 23)) := by rw [he]; exact Try.underlying23
  rw [run_sliceAt_slice _ _ _ _ _ _ ht, run_slice_l _ _ _ _ _ ht _ _ (by omega) (by omega), he]
  simp [Go.sizeOf, typeInfo, hi', hs1, sliced]

section
variable {w w' : World} {D : Nat} {m m' : DM} {d : DV}

theorem dfoot_sub (d : DV) (lv mv tv tl : Value) (n : Nat) (hL : ∀ k, lv.ownBlock = some k → d.lv.ownBlock = some k ∨ n ≤ k) : ∀ k, k < n → dfoot D { d with lv := lv, mv := mv, tv := tv, tl := tl } k → dfoot D d k := by
  intro k hk h
  rcases h with h | h | h | h | h
  · exact .inl h
  · exact .inr (.inl h)
  · exact .inr (.inr (.inl h))
  · exact .inr (.inr (.inr (.inl h)))
  · rcases hL k h with h | h
    · exact .inr (.inr (.inr (.inr h)))
    · omega

theorem dfootE_sub (d : DV) (lv mv tv tl : Value) (n : Nat) (hL : ∀ k, lv.ownBlock = some k → d.lv.ownBlock = some k ∨ n ≤ k) : ∀ k, k < n → dfootE D { d with lv := lv, mv := mv, tv := tv, tl := tl } k → dfootE D d k := by
  intro k hk h
  rcases h with h | h
  · exact .inl (dfoot_sub d lv mv tv tl n hL k hk h)
  · exact .inr h

/-- the log, the mark, the torn write, the tail, the numbers have turned: no page has -/
theorem DRep.upd (h : DRep w D (dfootE D d) m d) (lv mv tv tl : Value)
    (hsame : ∀ k, k < w.heap.size → k ≠ D → d.lv.ownBlock ≠ some k → w'.heap[k]? = w.heap[k]?)
    (hblk : w'.heap[D]? = some (.cells (dcells m' m'.base.length { d with lv := lv, mv := mv, tv := tv, tl := tl }) 95 (0, 0)))
    (hb : m'.base = m.base) (hw : m'.waiting = m.waiting) (hL : ∀ k, lv.ownBlock = some k → d.lv.ownBlock = some k ∨ w.heap.size ≤ k)
    (hlog : OwnB w' 0 5 lv m'.log)
    (hmark : (mv = d.mv ∧ m'.mark = m.mark) ∨ RdB (dfootE D { d with lv := lv, mv := mv, tv := tv, tl := tl }) w' mv m'.mark)
    (htail : (tl = d.tl ∧ m'.tail = m.tail) ∨ RdB (dfootE D { d with lv := lv, mv := mv, tv := tv, tl := tl }) w' tl m'.tail)
    (htorn : (tv = d.tv ∧ m'.torn = m.torn) ∨ TornV (dfootE D { d with lv := lv, mv := mv, tv := tv, tl := tl }) w' tv m'.torn) :
    DRep w' D (dfootE D { d with lv := lv, mv := mv, tv := tv, tl := tl }) m' { d with lv := lv, mv := mv, tv := tv, tl := tl } := by
  have ko : ∀ k, k < w.heap.size → ¬ dfootE D d k → w'.heap[k]? = w.heap[k]? := fun k h1 h2 => hsame k h1 (fun e => h2 (.inl (.inl e))) (fun e => h2 (.inl (.inr (.inr (.inr (.inr e))))))
  have hF := dfootE_sub (D := D) d lv mv tv tl w.heap.size hL
  refine ⟨hblk, (hsame _ (Array.getElem?_eq_some_iff.1 h.pgs).1 (Ne.symm h.neP) h.nePL).trans h.pgs, by rw [hb]; exact h.pgn, fun i hi => ?_,
    ownsRow_keep h.wrow (fun k h' => hsame k (h.wrow.lt k h').2 (fun e => h.neW (e ▸ h')) (fun e => h.neWL k h' e)), by rw [hw]; exact h.wws,
    fun p hp => RdV.keep (h.wrd p hp) ko hF, h.mp.keep (hsame _ h.mp.lt (Ne.symm h.neM) h.neML), h.mpe, h.mpk, hlog, ?_, ?_, ?_,
    fun k hE => lt_of_same (h.elt k hE) (hsame k (h.elt k hE) (fun e => h.eown k hE (.inl e)) (fun e => h.eown k hE (.inr (.inr (.inr (.inr e)))))),
    fun k hE hd => h.eown k hE (dfoot_sub d lv mv tv tl w.heap.size hL k (h.elt k hE) hd)⟩
  · obtain ⟨v, h1, h2⟩ := h.pgv i (by rw [hb] at hi; exact hi)
    refine ⟨v, h1, ?_⟩
    have : m'.base[i] = m.base[i]'(by rw [hb] at hi; exact hi) := by congr 1
    rw [this]
    exact h2.keep ko hF
  · rcases hmark with ⟨h1, h2⟩ | h1
    · show RdB _ w' mv m'.mark
      rw [h1, h2]; subst h1; exact RdV.keep h.mark ko hF
    · exact h1
  · rcases htail with ⟨h1, h2⟩ | h1
    · show RdB _ w' tl m'.tail
      rw [h1, h2]; subst h1; exact RdV.keep h.tail ko hF
    · exact h1
  · rcases htorn with ⟨h1, h2⟩ | h1
    · show TornV _ w' tv m'.torn
      rw [h1, h2]; subst h1; exact h.torn.keep ko hF
    · exact h1

theorem chg_alloc {F : Foot} (w : World) (o : Obj) : Chg F F w (w.alloc o) := Chg.of_below ((Below.refl _ _).alloc (Nat.le_refl _) o) F

/-- a field of the device's block is set to bytes just made -/
theorem same_allocSet (w : World) (o : Obj) (D i : Nat) (v : Value) (k : Nat) (hk : k < w.heap.size) (hD : k ≠ D) : ((w.alloc o).setCell ⟨D, i, none⟩ v).heap[k]? = w.heap[k]? :=
  (setCell_heap _ _ v k hD).trans (alloc_get w o k hk)

theorem blk_allocSet {w : World} (o : Obj) {D i : Nat} {c : Array Value} {e : TypeId} (h : w.heap[D]? = some (.cells c e (0, 0))) (v : Value) :
    ((w.alloc o).setCell ⟨D, i, none⟩ v).heap[D]? = some (.cells (c.setIfInBounds i v) e (0, 0)) :=
  setCell_blk ((alloc_get w o D (Array.getElem?_eq_some_iff.1 h).1).trans h) v

theorem RdB.set {F : Foot} {w : World} {v : Value} {l : List UInt8} (h : RdB F w v l) (a : Addr) (u : Value) (hF : F a.block) : RdB F (w.setCell a u) v l := h.chg (chg_setCell w a u hF)

theorem OwnB.setOther {w : World} {base : Nat} {e : TypeId} {v : Value} {l : List UInt8} (h : OwnB w base e v l) (a : Addr) (u : Value) (hne : v.ownBlock ≠ some a.block) : OwnB (w.setCell a u) base e v l :=
  ownsRow_keep h (fun k hk => setCell_heap w a u k (fun e => hne (e ▸ hk)))

theorem maxLen_ge {n : Nat} (h : n ≤ 140737488355328) : n ≤ maxLen := by unfold maxLen; omega

theorem DRep.setLog (h : DRep w D (dfootE D d) m d) (l : List UInt8) (hl : l.length ≤ 140737488355328) :
    DRep ((w.alloc (bobj l)).setCell ⟨D, 4, none⟩ (.slice (some ⟨w.heap.size, 0, none⟩) l.length l.length)) D (dfootE D { d with lv := .slice (some ⟨w.heap.size, 0, none⟩) l.length l.length }) { m with log := l } { d with lv := .slice (some ⟨w.heap.size, 0, none⟩) l.length l.length } := by
  refine h.upd (.slice (some ⟨w.heap.size, 0, none⟩) l.length l.length) d.mv d.tv d.tl (fun k hk hD _ => same_allocSet w _ D 4 _ k hk hD) ?_ rfl rfl ?_ ?_ (.inl ⟨rfl, rfl⟩) (.inl ⟨rfl, rfl⟩) (.inl ⟨rfl, rfl⟩)
  · rw [blk_allocSet _ h.blk]
    simp [dcells]
  · intro k hk
    simp only [Value.ownBlock, Option.some.injEq] at hk
    exact .inr (by omega)
  · refine OwnB.setOther (bobj_own w l _ 0 rfl (maxLen_ge hl) (Nat.zero_le _)) _ _ ?_
    simp only [Value.ownBlock, ne_eq, Option.some.injEq]
    have := h.D_lt
    omega

theorem chg_setLog (h : DRep w D (dfootE D d) m d) (l : List UInt8) :
    Chg (dfoot D d) (dfoot D { d with lv := .slice (some ⟨w.heap.size, 0, none⟩) l.length l.length }) w ((w.alloc (bobj l)).setCell ⟨D, 4, none⟩ (.slice (some ⟨w.heap.size, 0, none⟩) l.length l.length)) := by
  refine ⟨rfl, rfl, rfl, ?_, fun k hk hn => same_allocSet w _ D 4 _ k hk (fun e => hn (.inl e)), ?_⟩
  · rw [setCell_size, World.size_alloc]; omega
  · intro k hk
    rcases hk with h | h | h | h | h
    · exact .inl (.inl h)
    · exact .inl (.inr (.inl h))
    · exact .inl (.inr (.inr (.inl h)))
    · exact .inl (.inr (.inr (.inr (.inl h))))
    · simp only [Value.ownBlock, Option.some.injEq] at h
      refine .inr ?_
      rw [setCell_size, World.size_alloc]; omega

theorem new_rd (h : DRep w D (dfootE D d) m d) (l : List UInt8) (hl : l.length ≤ 140737488355328) (i : Nat) (u : Value) : RdB (dfootE D d) ((w.alloc (bobj l)).setCell ⟨D, i, none⟩ u) (.slice (some ⟨w.heap.size, 0, none⟩) l.length l.length) l :=
  (bobj_rd w l _ rfl (maxLen_ge hl) (fun hk => absurd (h.foot_lt _ hk) (Nat.lt_irrefl _))).set _ u (.inl (.inl rfl))

theorem DRep.setMark (h : DRep w D (dfootE D d) m d) (l : List UInt8) (hl : l.length ≤ 140737488355328) :
    DRep ((w.alloc (bobj l)).setCell ⟨D, 6, none⟩ (.slice (some ⟨w.heap.size, 0, none⟩) l.length l.length)) D (dfootE D d) { m with mark := l } { d with mv := .slice (some ⟨w.heap.size, 0, none⟩) l.length l.length } := by
  refine h.upd d.lv (.slice (some ⟨w.heap.size, 0, none⟩) l.length l.length) d.tv d.tl (fun k hk hD _ => same_allocSet w _ D 6 _ k hk hD) ?_ rfl rfl (fun k hk => .inl hk) ?_ (.inr ?_) (.inl ⟨rfl, rfl⟩) (.inl ⟨rfl, rfl⟩)
  · rw [blk_allocSet _ h.blk]
    simp [dcells]
  · exact OwnB.setOther (OwnB.below h.log ((Below.refl _ _).alloc (Nat.le_refl _) _)) _ _ h.neL
  · exact new_rd h l hl 6 _

theorem DRep.setTail (h : DRep w D (dfootE D d) m d) (l : List UInt8) (hl : l.length ≤ 140737488355328) :
    DRep ((w.alloc (bobj l)).setCell ⟨D, 11, none⟩ (.slice (some ⟨w.heap.size, 0, none⟩) l.length l.length)) D (dfootE D d) { m with tail := l } { d with tl := .slice (some ⟨w.heap.size, 0, none⟩) l.length l.length } := by
  refine h.upd d.lv d.mv d.tv (.slice (some ⟨w.heap.size, 0, none⟩) l.length l.length) (fun k hk hD _ => same_allocSet w _ D 11 _ k hk hD) ?_ rfl rfl (fun k hk => .inl hk) ?_ (.inl ⟨rfl, rfl⟩) (.inr ?_) (.inl ⟨rfl, rfl⟩)
  · rw [blk_allocSet _ h.blk]
    simp [dcells]
  · exact OwnB.setOther (OwnB.below h.log ((Below.refl _ _).alloc (Nat.le_refl _) _)) _ _ h.neL
  · exact new_rd h l hl 11 _

theorem chg_allocSet (w : World) (o : Obj) (D i : Nat) (v : Value) (d : DV) : Chg (dfoot D d) (dfoot D d) w ((w.alloc o).setCell ⟨D, i, none⟩ v) := (chg_alloc w o).trans (chg_setCell _ _ _ (.inl rfl))

/-- the answer of an operation -/
def DPost (w : World) (D : Nat) (E F : Foot) (r : DM × Int) : Ending → World → Prop := fun e w' => e = .returned (.int .i64 r.2) ∧ ∃ F', DiskAt w' D E F' r.1 ∧ Chg F F' w w'

theorem DPost.same {E F : Foot} {r : DM × Int} {k : Int} (h : DiskAt w D E F m) (hr : r = (m, k)) : DPost w D E F r (.returned (.int .i64 k)) w := by
  subst hr
  exact ⟨rfl, F, h, Chg.refl _ _⟩
theorem DPost.of {d' : DV} {E F F' G : Foot} {r : DM × Int} {k : Int} (hr : r = (m', k)) (h : DRep w' D G m' d') (hF : F' = dfoot D d') (hwf : m'.Wf) (hc : Chg F F' w w') (hG : G = dfootE D d' := by rfl) (hE : d'.E = E := by rfl) : DPost w D E F r (.returned (.int .i64 k)) w' := by
  subst hr
  subst hF
  subst hG
  exact ⟨rfl, _, ⟨d', rfl, hE, h, hwf⟩, hc⟩
end

section
variable (w : World) (D : Nat) (F : Foot) {E : Foot} (m : DM)

theorem spend_base (m : DM) : m.spend.base = m.base := by unfold DM.spend; split <;> rfl
theorem spend_log (m : DM) : m.spend.log = m.log := by unfold DM.spend; split <;> rfl
theorem spend_room (m : DM) : m.spend.room = m.room := by unfold DM.spend; split <;> rfl
theorem spend_tail (m : DM) : m.spend.tail = m.tail := by unfold DM.spend; split <;> rfl
theorem spend_dead {m : DM} (h : m.fuse = 0) : m.spend.dead = true := by unfold DM.spend; rw [if_pos h]
theorem spend_certain (m : DM) : m.spend.certain = m.certain := by unfold DM.spend; split <;> rfl

theorem d_force (h : DiskAt w D E F m) (ho : m.ops < 4398046511104) : Calls Try.prog 41 #[.pointer (some ⟨D, 0, none⟩)] w (DPost w D E F m.force) := by
  have h0 := h
  obtain ⟨d, rfl, rfl, h, hwf⟩ := h
  have c9 := h.cell 9
  simp only [dcells] at c9
  cases hd : m.dead with
  | true =>
    rw [hd] at c9
    have HR : Hid (m.force = (m, 9)) := by show _ = _; simp [DM.force, hd]
    have HO := Lib.hid h0
    clear h0 h hd hwf
    go_enter Try.func41, Try.ntmps41
    go_wp2
    go_ret
    exact DPost.same HO.out HR.out
  | false =>
    rw [hd] at c9
    have hct := d_counts_rep w D m d h hwf ho
    by_cases hf : m.fuse = 0
    · have HR : Hid (m.force = (m.spend, 9)) := by show _ = _; simp [DM.force, hd, hf]
      rw [show decide (m.fuse ≠ 0) = false by simp [hf]] at hct
      clear h0 h hd hf
      have HW := Lib.hid (DM.spend_wf hwf)
      clear hwf
      go_enter Try.func41, Try.ntmps41
      go_wp2_with fail
      refine hct.mono ?_
      rintro e w1 ⟨rfl, hr1, hc1⟩
      have HD := Lib.hid hr1
      have HC := Lib.hid hc1
      clear hr1 hc1 hct
      go_wp2
      go_ret
      exact DPost.of HR.out HD.out rfl HW.out HC.out
    · have HR : Hid (m.force = ({ m.spend with certain := m.log.length }, 0)) := by show _ = _; simp [DM.force, hd, hf]
      rw [show decide (m.fuse ≠ 0) = true by simp [hf]] at hct
      have HW := Lib.hid (DM.spend_wf hwf)
      clear h0 h hd hf hwf
      go_enter Try.func41, Try.ntmps41
      go_wp2_with fail
      refine hct.mono ?_
      rintro e w1 ⟨rfl, hr1, hc1⟩
      have HD := Lib.hid hr1
      have HC := Lib.hid hc1
      have k4 := hr1.cell 4
      have k5 := hr1.cell 5
      have f5 := hr1.frozen 5
      simp only [dcells] at k4 k5
      have hrd : RdB NoF w1 d.lv m.log := by
        have := hr1.log.rd (F := NoF) (fun _ _ => noF _)
        rwa [spend_log] at this
      obtain ⟨a, n, c, hlv, HN, hlc, hcm⟩ := hrd.formN
      rw [hlv] at k4
      clear hr1 hc1 hct hrd
      go_wp2
      go_ret
      rw [HN.out]
      refine DPost.of HR.out (HD.out.set1 5 _ _ ?_ rfl rfl rfl rfl rfl rfl) rfl ⟨by rw [spend_log]; exact Nat.le_refl _, HW.out.room, HW.out.room24, HW.out.pages, HW.out.npages, HW.out.waiting, HW.out.nwait, HW.out.mark, HW.out.fuse1, HW.out.fuse2, HW.out.torn, HW.out.alive⟩ (HC.out.trans (chg_setCell _ _ _ (.inl rfl)))
      simp [dcells]

theorem d_mark (h : DiskAt w D E F m) (ho : m.ops < 4398046511104) (v : Value) (b : Bytes) (hv : RdB F w v b) : Calls Try.prog 59 #[.pointer (some ⟨D, 0, none⟩), v] w (DPost w D E F (m.setMark b)) := by
  have h0 := h
  obtain ⟨d, rfl, rfl, h, hwf⟩ := h
  have c9 := h.cell 9
  simp only [dcells] at c9
  obtain ⟨a, n, c, rfl, HN, hlc, hcm⟩ := hv.formN
  cases hd : m.dead with
  | true =>
    rw [hd] at c9
    have HR : Hid (m.setMark b = (m, 9)) := by show _ = _; simp [DM.setMark, hd]
    have HO := Lib.hid h0
    clear h0 h hd hwf hv
    go_enter Try.func59, Try.ntmps59
    go_wp2
    go_ret
    exact DPost.same HO.out HR.out
  | false =>
    rw [hd] at c9
    by_cases hlen : 64 < n
    · have HR : Hid (m.setMark b = (m, 1)) := by show _ = _; rw [HN.out] at hlen; simp [DM.setMark, hd, hlen]
      have HO := Lib.hid h0
      clear h0 h hd hwf hv
      go_enter Try.func59, Try.ntmps59
      go_wp2
      go_ret
      exact DPost.same HO.out HR.out
    · have hct := d_counts_rep w D m d h hwf ho
      by_cases hf : m.fuse = 0
      · have HR : Hid (m.setMark b = (m.spend, 9)) := by show _ = _; rw [HN.out] at hlen; simp [DM.setMark, hd, hf, hlen]
        rw [show decide (m.fuse ≠ 0) = false by simp [hf]] at hct
        have HW := Lib.hid (DM.spend_wf hwf)
        clear h0 h hd hf hwf hv
        go_enter Try.func59, Try.ntmps59
        go_wp2_with fail
        refine hct.mono ?_
        rintro e w1 ⟨rfl, hr1, hc1⟩
        have HD := Lib.hid hr1
        have HC := Lib.hid hc1
        clear hr1 hc1 hct
        go_wp2
        go_ret
        exact DPost.of HR.out HD.out rfl HW.out HC.out
      · have HR : Hid (m.setMark b = ({ m.spend with mark := b }, 0)) := by show _ = _; rw [HN.out] at hlen; simp [DM.setMark, hd, hf, hlen]
        have HB : Hid (b.length ≤ 64) := by show _ ≤ _; rw [← HN.out]; omega
        rw [show decide (m.fuse ≠ 0) = true by simp [hf]] at hct
        have HW := Lib.hid (DM.spend_wf hwf)
        have HV := Lib.hid hv
        clear h0 h hd hf hwf hv
        go_enter Try.func59, Try.ntmps59
        go_wp2_with fail
        refine hct.mono ?_
        rintro e w1 ⟨rfl, hr1, hc1⟩
        have HD := Lib.hid hr1
        have HC := Lib.hid hc1
        clear hr1 hc1 hct
        go_wp2_with fail
        refine (clone6 w1 _ b (HV.out.chg HC.out) (by have := HB.out; omega)).mono ?_
        rintro e w2 ⟨rfl, hw2⟩
        have hr2 : DRep w2 D (dfootE D d) m.spend d := by rw [← hw2]; exact HD.out.alloc _
        have k6 := hr2.cell 6
        have f6 := hr2.frozen 6
        simp only [dcells] at k6
        have HW2 := Lib.hid hw2
        clear hr2 hw2
        go_wp2
        go_ret
        rw [← HW2.out]
        exact DPost.of HR.out (HD.out.setMark b (by have := HB.out; omega)) rfl ⟨HW.out.certain, HW.out.room, HW.out.room24, HW.out.pages, HW.out.npages, HW.out.waiting, HW.out.nwait, HB.out, HW.out.fuse1, HW.out.fuse2, HW.out.torn, HW.out.alive⟩ (HC.out.trans (chg_allocSet _ _ _ _ _ _))

theorem d_trim (h : DiskAt w D E F m) (ho : m.ops < 4398046511104) (q : Int) : Calls Try.prog 47 #[.pointer (some ⟨D, 0, none⟩), .int .i64 q] w (DPost w D E F (m.trim q)) := by
  have h0 := h
  obtain ⟨d, rfl, rfl, h, hwf⟩ := h
  have c9 := h.cell 9
  have c4 := h.cell 4
  simp only [dcells] at c9 c4
  have hrd : RdB NoF w d.lv m.log := h.log.rd (fun _ _ => noF _)
  have hlm : m.log.length ≤ 140737488355328 := by have := hwf.room; have := hwf.room24; omega
  obtain ⟨a, n, c, hlv, HN, hlc, hcm⟩ := hrd.formN
  rw [hlv] at c4
  have HLV := Lib.hid hlv
  cases hd : m.dead with
  | true =>
    rw [hd] at c9
    have HR : Hid (m.trim q = (m, 9)) := by show _ = _; simp [DM.trim, hd]
    have HO := Lib.hid h0
    clear h0 h hd hwf hrd hlm hlv
    go_enter Try.func47, Try.ntmps47
    go_wp2
    go_ret
    exact DPost.same HO.out HR.out
  | false =>
    rw [hd] at c9
    by_cases hq0 : q < 0
    · have HR : Hid (m.trim q = (m, 1)) := by show _ = _; simp [DM.trim, hd, hq0]
      have HO := Lib.hid h0
      clear h0 h hd hwf hrd hlm hlv
      go_enter Try.func47, Try.ntmps47
      go_wp2
      go_ret
      exact DPost.same HO.out HR.out
    · by_cases hqn : q > n
      · have HR : Hid (m.trim q = (m, 1)) := by show _ = _; rw [HN.out] at hqn; simp [DM.trim, hd]; omega
        have HO := Lib.hid h0
        clear h0 h hd hwf hrd hlm hlv
        go_enter Try.func47, Try.ntmps47
        go_wp2
        go_ret
        exact DPost.same HO.out HR.out
      · have hct := d_counts_rep w D m d h hwf ho
        have hnot : ¬ (q < 0 ∨ (m.log.length : Int) < q) := by rw [HN.out] at hqn; omega
        by_cases hf : m.fuse = 0
        · have HR : Hid (m.trim q = (m.spend, 9)) := by show _ = _; unfold DM.trim; rw [hd, if_neg (by simp), if_neg hnot, if_pos hf]
          rw [show decide (m.fuse ≠ 0) = false by simp [hf]] at hct
          have HW := Lib.hid (DM.spend_wf hwf)
          clear h0 h hd hf hwf hrd hlm hlv hnot
          go_enter Try.func47, Try.ntmps47
          go_wp2_with fail
          refine hct.mono ?_
          rintro e w1 ⟨rfl, hr1, hc1⟩
          have HD := Lib.hid hr1
          have HC := Lib.hid hc1
          clear hr1 hc1 hct
          go_wp2
          go_ret
          exact DPost.of HR.out HD.out rfl HW.out HC.out
        · have HR : Hid (m.trim q = ({ m.spend with log := m.log.take q.toNat, certain := q.toNat }, 0)) := by show _ = _; unfold DM.trim; rw [hd, if_neg (by simp), if_neg hnot, if_neg hf]
          rw [show decide (m.fuse ≠ 0) = true by simp [hf]] at hct
          have HW := Lib.hid (DM.spend_wf hwf)
          obtain ⟨p, rfl⟩ : ∃ p : Nat, q = p := ⟨q.toNat, by omega⟩
          have hpn : p ≤ n := by omega
          have HP : Hid (p ≤ m.log.length) := by show _ ≤ _; rw [← HN.out]; exact hpn
          have HL := Lib.hid hlm
          rw [Int.toNat_natCast] at HR
          obtain ⟨L, hLg⟩ : ∃ L, m.log.take p = L := ⟨_, rfl⟩
          rw [hLg] at HR
          have HLP : Hid (L.length = p) := by show _ = _; rw [← hLg, List.length_take]; exact Nat.min_eq_left HP.out
          have HG := Lib.hid hLg
          have HLL : Hid (L.length ≤ 140737488355328) := by show _ ≤ _; rw [HLP.out]; exact Nat.le_trans HP.out hlm
          clear h0 h hd hf hwf hrd hlm hlv hnot hqn hq0 hLg
          go_enter Try.func47, Try.ntmps47
          go_wp2_with fail
          refine hct.mono ?_
          rintro e w1 ⟨rfl, hr1, hc1⟩
          have HD := Lib.hid hr1
          have HC := Lib.hid hc1
          have k4 := hr1.cell 4
          have k5 := hr1.cell 5
          simp only [dcells] at k4 k5
          rw [HLV.out] at k4
          have hrd1 : RdB NoF w1 d.lv m.log := by
            have := hr1.log.rd (F := NoF) (fun _ _ => noF _)
            rwa [spend_log] at this
          rw [HLV.out] at hrd1
          obtain ⟨a1, c1, hsl, hrd2⟩ := slice_bytes_to hrd1 p HP.out
          rw [HG.out] at hrd2
          have HV := Lib.hid hrd2
          clear hr1 hc1 hct hrd1 hrd2
          go_wp2_with fail
          refine (clone6 w1 _ L HV.out HLL.out).mono ?_
          rintro e w2 ⟨rfl, hw2⟩
          have hr2 : DRep w2 D (dfootE D d) m.spend d := by rw [← hw2]; exact HD.out.alloc _
          have q4 := hr2.cell 4
          have q5 := hr2.cell 5
          have g4 := hr2.frozen 4
          have g5 := hr2.frozen 5
          simp only [dcells] at q4 q5
          have HW2 := Lib.hid hw2
          clear hr2 hw2
          go_wp2
          go_ret
          rw [← HW2.out]
          have hA := HD.out.setLog L HLL.out
          refine DPost.of HR.out (hA.set1 5 _ _ ?_ rfl rfl rfl rfl rfl rfl) rfl ⟨?_, ?_, HW.out.room24, HW.out.pages, HW.out.npages, HW.out.waiting, HW.out.nwait, HW.out.mark, HW.out.fuse1, HW.out.fuse2, HW.out.torn, HW.out.alive⟩ ((HC.out.trans (chg_setLog HD.out _)).trans (chg_setCell _ _ _ (by exact .inl rfl)))
          · rw [HLP.out]; simp [dcells]
          · show p ≤ L.length
            rw [HLP.out]
            exact Nat.le_refl _
          · show L.length + m.spend.tail.length ≤ m.spend.room
            have := HW.out.room
            have hp := HP.out
            rw [spend_log] at this
            rw [HLP.out]
            omega

theorem d_cut (h : DiskAt w D E F m) (ho : m.ops < 4398046511104) (q : Int) (v : Value) (b : Bytes) (hv : RdB F w v b) : Calls Try.prog 53 #[.pointer (some ⟨D, 0, none⟩), .int .i64 q, v] w (DPost w D E F (m.cut q b)) := by
  have h0 := h
  obtain ⟨d, rfl, rfl, h, hwf⟩ := h
  have c9 := h.cell 9
  have c5 := h.cell 5
  simp only [dcells] at c9 c5
  have hlm : m.log.length ≤ 140737488355328 := by have := hwf.room; have := hwf.room24; omega
  have hce := hwf.certain
  obtain ⟨a0, n0, c0, rfl, HN0, hlc0, hcm0⟩ := hv.formN
  obtain ⟨ce, hce'⟩ : ∃ ce, m.certain = ce := ⟨_, rfl⟩
  have HCE := Lib.hid hce'
  rw [hce'] at c5 hce
  clear hce'
  cases hd : m.dead with
  | true =>
    rw [hd] at c9
    have HR : Hid (m.cut q b = (m, 9)) := by show _ = _; simp [DM.cut, hd]
    have HO := Lib.hid h0
    clear h0 h hd hwf hv hlm hce
    go_enter Try.func53, Try.ntmps53
    go_wp2
    go_ret
    exact DPost.same HO.out HR.out
  | false =>
    rw [hd] at c9
    by_cases hbad : q < 0 ∨ ce < q ∨ 64 < n0
    · have HR : Hid (m.cut q b = (m, 1)) := by show _ = _; rw [HN0.out, ← HCE.out] at hbad; unfold DM.cut; rw [hd, if_neg (by simp), if_pos hbad]
      have HO := Lib.hid h0
      clear h0 h hd hwf hv hlm hce
      rcases hbad with hb | hb | hb
      · go_enter Try.func53, Try.ntmps53
        go_wp2
        go_ret
        exact DPost.same HO.out HR.out
      · by_cases hq : q < 0
        · omega
        · go_enter Try.func53, Try.ntmps53
          go_wp2
          go_ret
          exact DPost.same HO.out HR.out
      · by_cases hq : q < 0
        · go_enter Try.func53, Try.ntmps53
          go_wp2
          go_ret
          exact DPost.same HO.out HR.out
        · by_cases hq2 : ce < q
          · go_enter Try.func53, Try.ntmps53
            go_wp2
            go_ret
            exact DPost.same HO.out HR.out
          · go_enter Try.func53, Try.ntmps53
            go_wp2
            go_ret
            exact DPost.same HO.out HR.out
    · have hnot : ¬ (q < 0 ∨ (m.certain : Int) < q ∨ 64 < b.length) := by rw [HN0.out, ← HCE.out] at hbad; exact hbad
      have b1 : ¬ q < 0 := by omega
      have b2 : ¬ (ce : Int) < q := by omega
      have b3 : ¬ 64 < n0 := by omega
      clear hbad
      have hct := d_counts_rep w D m d h hwf ho
      by_cases hf : m.fuse = 0
      · have HR : Hid (m.cut q b = (m.spend, 9)) := by show _ = _; unfold DM.cut; rw [hd, if_neg (by simp), if_neg hnot, if_pos hf]
        rw [show decide (m.fuse ≠ 0) = false by simp [hf]] at hct
        have HW := Lib.hid (DM.spend_wf hwf)
        clear h0 h hd hf hwf hlm hnot hv hce
        go_enter Try.func53, Try.ntmps53
        go_wp2_with fail
        refine hct.mono ?_
        rintro e w1 ⟨rfl, hr1, hc1⟩
        have HD := Lib.hid hr1
        have HC := Lib.hid hc1
        clear hr1 hc1 hct
        go_wp2
        go_ret
        exact DPost.of HR.out HD.out rfl HW.out HC.out
      · have HR : Hid (m.cut q b = ({ m.spend with log := m.log.drop q.toNat, certain := m.certain - q.toNat, mark := b }, 0)) := by show _ = _; unfold DM.cut; rw [hd, if_neg (by simp), if_neg hnot, if_neg hf]
        rw [show decide (m.fuse ≠ 0) = true by simp [hf]] at hct
        have HW := Lib.hid (DM.spend_wf hwf)
        obtain ⟨p, rfl⟩ : ∃ p : Nat, q = p := ⟨q.toNat, by omega⟩
        have HP : Hid (p ≤ m.log.length) := by show _ ≤ _; omega
        have HPC : Hid (p ≤ m.certain) := by show _ ≤ _; rw [HCE.out]; omega
        have HL := Lib.hid hlm
        have HV0 := Lib.hid hv
        have HB : Hid (b.length ≤ 64) := by show _ ≤ _; rw [← HN0.out]; omega
        rw [Int.toNat_natCast] at HR
        have hpc : p ≤ ce := by omega
        have hc24 : (ce : Int) ≤ 16777216 := by have := hwf.room; have := hwf.room24; omega
        obtain ⟨L, hLg⟩ : ∃ L, m.log.drop p = L := ⟨_, rfl⟩
        rw [hLg] at HR
        have HLP : Hid (L.length = m.log.length - p) := by show _ = _; rw [← hLg, List.length_drop]
        have HG := Lib.hid hLg
        have HLL : Hid (L.length ≤ 140737488355328) := by show _ ≤ _; rw [HLP.out]; omega
        clear h0 h hd hf hwf hlm hnot hv hce hLg
        go_enter Try.func53, Try.ntmps53
        go_wp2_with fail
        refine hct.mono ?_
        rintro e w1 ⟨rfl, hr1, hc1⟩
        have HD := Lib.hid hr1
        have HC := Lib.hid hc1
        have k4 := hr1.cell 4
        simp only [dcells] at k4
        have hrd1 : RdB (dfootE D d) w1 d.lv m.log ∨ True := .inr trivial
        have hrd1 : RdB NoF w1 d.lv m.log := by
          have := hr1.log.rd (F := NoF) (fun _ _ => noF _)
          rwa [spend_log] at this
        obtain ⟨a, n, c, hlv, HN, hlc, hcm⟩ := hrd1.formN
        rw [hlv] at k4 hrd1
        have hpn : p ≤ n := by rw [HN.out]; exact HP.out
        obtain ⟨a1, c1, hsl, hrd2⟩ := slice_bytes_from hrd1 p HP.out
        rw [HG.out] at hrd2
        have HV := Lib.hid hrd2
        have HLV := Lib.hid hlv
        clear hr1 hc1 hct hrd1 hrd2 hlv
        go_wp2_with fail
        refine (clone6 w1 _ L HV.out HLL.out).mono ?_
        rintro e w2 ⟨rfl, hw2⟩
        have hr2 : DRep w2 D (dfootE D d) m.spend d := by rw [← hw2]; exact HD.out.alloc _
        have q4 := hr2.cell 4
        have q5 := hr2.cell 5
        have g4 := hr2.frozen 4
        have g5 := hr2.frozen 5
        simp only [dcells, spend_certain] at q4 q5
        rw [HCE.out] at q5
        have HW2 := Lib.hid hw2
        clear hr2 hw2
        go_wp2_with fail
        refine (clone6 _ _ b (RdB.set (RdB.set (F := dfoot D d) ?_ _ _ (.inl rfl)) _ _ (.inl rfl)) (by have := HB.out; omega)).mono ?_
        · rw [← HW2.out]
          exact (HV0.out.chg HC.out).alloc _
        rintro e w3 ⟨rfl, hw3⟩
        have hA := HD.out.setLog L HLL.out
        have hB := hA.set1 5 (.int .i64 (ce - p)) { m.spend with log := L, certain := m.certain - p } (by
          show _ = dcells _ _ _
          simp [dcells, HCE.out, Int.ofNat_sub hpc]) rfl rfl rfl rfl rfl rfl
        have hC := hB.setMark b (by have := HB.out; omega)
        have r3 := hB.alloc (bobj b)
        rw [HW2.out, hw3] at r3
        have g6 := r3.frozen 6
        have q6 := r3.cell 6
        simp only [dcells] at q6
        rw [HW2.out, hw3] at hC
        have HC3 := Lib.hid hC
        have hwc := ((HC.out.trans (chg_setLog HD.out L)).trans (chg_setCell _ ⟨D, 5, none⟩ (.int .i64 (ce - p)) (.inl rfl))).trans (chg_alloc _ (bobj b))
        rw [HW2.out, hw3] at hwc
        have HCC := Lib.hid (hwc.trans (chg_setCell w3 ⟨D, 6, none⟩ (.slice (some ⟨w2.heap.size, 0, none⟩) b.length b.length) (.inl rfl)))
        clear hwc hC r3 hB hA hw3
        simp only [World.size_setCell] at HC3 ⊢
        go_wp2
        go_ret
        refine DPost.of HR.out HC3.out rfl ⟨?_, ?_, HW.out.room24, HW.out.pages, HW.out.npages, HW.out.waiting, HW.out.nwait, HB.out, HW.out.fuse1, HW.out.fuse2, HW.out.torn, HW.out.alive⟩ HCC.out
        · show m.certain - p ≤ L.length
          have := HW.out.certain
          rw [spend_certain, spend_log] at this
          rw [HLP.out]
          omega
        · show L.length + m.spend.tail.length ≤ m.spend.room
          have := HW.out.room
          rw [spend_log] at this
          rw [HLP.out]
          omega
end
end Mun
end

section
/- Contract of a device's Append. -/
set_option maxRecDepth 100000
set_option linter.unusedVariables false
namespace Mun
open Go Go.RowKit
open Go.Proofs

theorem DRep.drewN {w : World} {D : Nat} {m : DM} {d : DV} (h : DRep w D (dfootE D d) m d) (k : Nat) : DRep (w.drewN k) D (dfootE D d) m d := h.keep (fun _ _ => rfl)
theorem chg_drewN {F : Foot} (w : World) (k : Nat) : Chg F F w (w.drewN k) := ⟨rfl, rfl, rfl, Nat.le_refl _, fun _ _ _ => rfl, fun _ h => .inl h⟩
theorem DiskAt.drewN {w : World} {D : Nat} {E F : Foot} {m : DM} (h : DiskAt w D E F m) (k : Nat) : DiskAt (w.drewN k) D E F m := h.keep (fun _ _ => rfl)
theorem DPost.drewN {w w' : World} {D : Nat} {E F : Foot} {r : DM × Int} {e : Ending} {k : Nat} (h : DPost (w.drewN k) D E F r e w') : DPost w D E F r e w' := by
  obtain ⟨h1, F', h2, h3⟩ := h
  exact ⟨h1, F', h2, (chg_drewN w k).trans h3⟩

section
variable (w : World) (D : Nat) (F : Foot) {E : Foot} (m : DM)

theorem d_append (h : DiskAt w D E F m) (ho : m.ops < 4398046511104) (v : Value) (b : Bytes) (hv : RdB F w v b) : Calls Try.prog 40 #[.pointer (some ⟨D, 0, none⟩), v] w (DPost w D E F (m.append b)) := by
  have h0 := h
  obtain ⟨d, rfl, rfl, h, hwf⟩ := h
  have c9 := h.cell 9
  have c4 := h.cell 4
  have c0 := h.cell 0
  simp only [dcells] at c9 c4 c0
  have hrd : RdB NoF w d.lv m.log := h.log.rd (fun _ _ => noF _)
  have hlr0 := hwf.room
  have hlr : m.log.length ≤ m.room := by omega
  clear hlr0
  have hr24 := hwf.room24
  obtain ⟨a, n, c, hlv, HN, hlc, hcm⟩ := hrd.formN
  rw [hlv] at c4
  have HLV := Lib.hid hlv
  obtain ⟨a0, n0, c0', rfl, HN0, hlc0, hcm0⟩ := hv.formN
  cases hd : m.dead with
  | true =>
    rw [hd] at c9
    have HR : Hid (m.append b = (m, 9)) := by show _ = _; simp [DM.append, hd]
    have HO := Lib.hid h0
    clear h0 h hd hwf hrd hlv hv
    go_enter Try.func40, Try.ntmps40
    go_wp2
    go_ret
    exact DPost.same HO.out HR.out
  | false =>
    rw [hd] at c9
    rw [← HN.out] at hlr
    obtain ⟨R, hRr⟩ : ∃ R, m.room = R := ⟨_, rfl⟩
    have HRR := Lib.hid hRr
    rw [hRr] at c0 hlr hr24
    by_cases hfull : R < n + n0
    · have HR : Hid (m.append b = (m, 7)) := by show _ = _; rw [HN.out, HN0.out, ← hRr] at hfull; simp [DM.append, hd, hfull]
      have HO := Lib.hid h0
      have ht : (n0 : Int) > (R : Int) - (n : Int) := by omega
      clear h0 h hd hwf hrd hlv hv hRr hfull
      go_enter Try.func40, Try.ntmps40
      go_wp2
      go_quiet (fail)
      go_wp2
      go_ret
      exact DPost.drewN (DPost.same (HO.out.drewN _) HR.out)
    · have hnot : ¬ m.room < m.log.length + b.length := by rw [HN.out, HN0.out, ← hRr] at hfull; exact hfull
      have ht : ¬ (n0 : Int) > (R : Int) - (n : Int) := by omega
      have HS : Hid (m.log.length + b.length ≤ 16777216) := by show _ ≤ _; rw [← HN.out, ← HN0.out]; omega
      have hct := fun k => d_counts_rep (w.drewN k) D m d (h.drewN k) hwf ho
      by_cases hf : m.fuse = 0
      · have HR : Hid (m.append b = ({ m.spend with tail := b }, 9)) := by show _ = _; unfold DM.append; rw [hd, if_neg (by simp), if_neg hnot, if_pos hf]
        rw [show decide (m.fuse ≠ 0) = false by simp [hf]] at hct
        have HW := Lib.hid (DM.spend_wf hwf)
        have HV := Lib.hid hv
        have HSD := Lib.hid (spend_dead hf)
        have HNR : Hid (m.log.length + b.length ≤ m.room) := by show _ ≤ _; omega
        clear h0 h hd hf hwf hrd hlv hv hRr hfull hnot
        go_enter Try.func40, Try.ntmps40
        go_wp2
        go_quiet (fail)
        go_wp2_with fail
        refine (hct _).mono ?_
        rintro e w1 ⟨rfl, hr1, hc1⟩
        have HD := Lib.hid hr1
        have HC := Lib.hid hc1
        clear hr1 hc1 hct
        go_wp2_with fail
        refine (clone6 w1 _ b ((HV.out.drewN _).chg HC.out) (by have := HS.out; omega)).mono ?_
        rintro e w2 ⟨rfl, hw2⟩
        have hr2 : DRep w2 D (dfootE D d) m.spend d := by rw [← hw2]; exact HD.out.alloc _
        have k6 := hr2.cell 11
        have f6 := hr2.frozen 11
        simp only [dcells] at k6
        have HW2 := Lib.hid hw2
        clear hr2 hw2
        go_wp2
        go_ret
        rw [← HW2.out]
        refine DPost.drewN (DPost.of HR.out (HD.out.setTail b (by have := HS.out; omega)) rfl ⟨HW.out.certain, ?_, HW.out.room24, HW.out.pages, HW.out.npages, HW.out.waiting, HW.out.nwait, HW.out.mark, HW.out.fuse1, HW.out.fuse2, HW.out.torn, fun h => by rw [show m.spend.dead = true from HSD.out] at h; cases h⟩ (HC.out.trans (chg_allocSet _ _ _ _ _ _)))
        show m.spend.log.length + b.length ≤ m.spend.room
        rw [spend_log, spend_room]
        exact HNR.out
      · have HR : Hid (m.append b = ({ m.spend with log := m.log ++ b }, 0)) := by show _ = _; unfold DM.append; rw [hd, if_neg (by simp), if_neg hnot, if_neg hf]
        have HNR : Hid (m.log.length + b.length ≤ m.room) := by show _ ≤ _; omega
        have HTL : Hid (m.spend.tail = []) := by show _ = _; rw [spend_tail]; exact (hwf.alive hd).1
        rw [show decide (m.fuse ≠ 0) = true by simp [hf]] at hct
        have HW := Lib.hid (DM.spend_wf hwf)
        have HV := Lib.hid hv
        clear h0 h hd hf hwf hrd hlv hv hRr hfull hnot
        go_enter Try.func40, Try.ntmps40
        go_wp2
        go_quiet (fail)
        go_wp2_with fail
        refine (hct _).mono ?_
        rintro e w1 ⟨rfl, hr1, hc1⟩
        have HD := Lib.hid hr1
        have HC := Lib.hid hc1
        have k4 := hr1.cell 4
        simp only [dcells] at k4
        have hL := hr1.log
        rw [spend_log] at hL
        obtain ⟨lv2, w2, hrun, hL2, hgr, hwh, -⟩ := append_bytes (ty := 23) hL ((HV.out.drewN _).chg HC.out) (by have := HS.out; omega) (Nat.zero_le _)
        obtain ⟨a2, n2, c2, hlv2, HN2, -, -⟩ := (OwnB.rd (F := NoF) hL2 (fun _ _ => noF _)).formN
        subst hlv2
        have HRUN := Lib.hid hrun
        have k4' : w2.cell? ⟨D, 4, none⟩ = some d.lv := by
          have := cell_of_row w2 D 4 _ _ _ ((hgr.block D hr1.D_lt (Ne.symm hr1.neL)).trans hr1.blk)
          exact this
        have f4 : w2.frozen? ⟨D, 4, none⟩ = false := by
          have : w2.heap[D]? = _ := (hgr.block D hr1.D_lt (Ne.symm hr1.neL)).trans hr1.blk
          simp [World.frozen?, this]
        have HH := Lib.hid hgr
        have HL2 := Lib.hid hL2
        have HWH := Lib.hid hwh
        clear hr1 hc1 hct hrun hgr hL hL2 hwh
        go_wp2_with (at_builtin; refine wpList_append_eq rfl rfl HRUN.out rfl rfl ?_; clear HRUN)
        go_ret
        have hsame : ∀ k, k < w1.heap.size → k ≠ D → d.lv.ownBlock ≠ some k → (w2.setCell ⟨D, 4, none⟩ (.slice a2 n2 c2)).heap[k]? = w1.heap[k]? := fun k h1 h2 h3 => (setCell_heap w2 _ (.slice a2 n2 c2) k h2).trans (HH.out.block k h1 (Ne.symm h3))
        have hLv : ∀ k, (Value.slice a2 n2 c2).ownBlock = some k → d.lv.ownBlock = some k ∨ w1.heap.size ≤ k := by
          intro k hk
          rcases HWH.out with e | e
          · exact .inl (e ▸ hk)
          · rw [e] at hk
            injection hk with hk
            exact .inr (by omega)
        have hLw : ∀ k, (Value.slice a2 n2 c2).ownBlock = some k → k < w2.heap.size := fun k hk => (HL2.out.lt k hk).2
        have hne : (Value.slice a2 n2 c2).ownBlock ≠ some D := by
          intro e
          rcases hLv D e with h | h
          · exact HD.out.neL h
          · have := HD.out.D_lt; omega
        refine DPost.drewN (DPost.of HR.out (HD.out.upd (.slice a2 n2 c2) d.mv d.tv d.tl hsame ?_ rfl rfl hLv (OwnB.setOther HL2.out _ _ hne) (.inl ⟨rfl, rfl⟩) (.inl ⟨rfl, rfl⟩) (.inl ⟨rfl, rfl⟩)) rfl ⟨?_, ?_, HW.out.room24, HW.out.pages, HW.out.npages, HW.out.waiting, HW.out.nwait, HW.out.mark, HW.out.fuse1, HW.out.fuse2, HW.out.torn, HW.out.alive⟩ (HC.out.trans ⟨HH.out.os, HH.out.tape, HH.out.output, ?_, ?_, ?_⟩))
        · rw [setCell_blk ((HH.out.block D HD.out.D_lt (Ne.symm HD.out.neL)).trans HD.out.blk)]
          simp [dcells]
        · show m.spend.certain ≤ (m.log ++ b).length
          have := HW.out.certain
          rw [spend_log] at this
          rw [List.length_append]
          omega
        · show (m.log ++ b).length + m.spend.tail.length ≤ m.spend.room
          rw [HTL.out, spend_room, List.length_append]
          exact HNR.out
        · rw [setCell_size]; exact HH.out.size
        · intro k hk hn
          exact hsame k hk (fun e => hn (.inl e)) (fun e => hn (.inr (.inr (.inr (.inr e)))))
        · intro k hk
          rcases hk with h | h | h | h | h
          · exact .inl (.inl h)
          · exact .inl (.inr (.inl h))
          · exact .inl (.inr (.inr (.inl h)))
          · exact .inl (.inr (.inr (.inr (.inl h))))
          · rcases hLv k h with h' | h'
            · exact .inl (.inr (.inr (.inr (.inr h'))))
            · refine .inr ⟨h', ?_⟩
              rw [setCell_size]
              exact hLw k h
end
end Mun
end

section
/- Contract of a device's Write. -/
set_option maxRecDepth 100000
set_option linter.unusedVariables false
namespace Mun
open Go Go.RowKit
open Go.Proofs

theorem info_write : (Try.prog.info? 99).map (fun i => (i.zero, i.size, i.bytes)) = some (some (.agg #[.int .i64 0, .slice none 0 0]), 2, 32) := by kernel_rfl

section
variable {w w' : World} {D : Nat} {m m' : DM} {d : DV}

/-- a write has come to those that wait -/
theorem DRep.written (h : DRep w D (dfootE D d) m d) (n : Nat) (b : Bytes) (sv wv : Value) (es : List (Int × Value))
    (hsame : ∀ k, k < w.heap.size → k ≠ D → d.wv.ownBlock ≠ some k → k ≠ d.M → w'.heap[k]? = w.heap[k]?)
    (hblk : w'.heap[D]? = some (.cells (dcells m' m'.base.length { d with wv := wv, ws := d.ws ++ [(n, (b, sv))], es := es }) 95 (0, 0)))
    (hrow : w'.ownsRow 0 99 2 wv (d.ws.length + 1) (wcells d.ws ++ [.int .i64 n, sv]))
    (hW : ∀ k, wv.ownBlock = some k → d.wv.ownBlock = some k ∨ w.heap.size ≤ k)
    (hmp : IMap w' d.M es) (hes : ∀ q, alook es q = if q = (n : Int) then some sv else alook d.es q) (hrd : RdB (dfootE D d) w sv b)
    (hb : m'.base = m.base) (hw : m'.waiting = m.waiting ++ [(n, b)]) (hl : m'.log = m.log) (hm : m'.mark = m.mark) (ht : m'.torn = m.torn) (htl : m'.tail = m.tail) :
    DRep w' D (dfootE D { d with wv := wv, ws := d.ws ++ [(n, (b, sv))], es := es }) m' { d with wv := wv, ws := d.ws ++ [(n, (b, sv))], es := es } := by
  have ko : ∀ k, k < w.heap.size → ¬ dfootE D d k → w'.heap[k]? = w.heap[k]? := fun k h1 h2 => hsame k h1 (fun e => h2 (.inl (.inl e))) (fun e => h2 (.inl (.inr (.inr (.inr (.inl e)))))) (fun e => h2 (.inl (.inr (.inr (.inl e)))))
  have hF0 : ∀ k, k < w.heap.size → dfoot D { d with wv := wv, ws := d.ws ++ [(n, (b, sv))], es := es } k → dfoot D d k := by
    intro k hk h
    rcases h with h | h | h | h | h
    · exact .inl h
    · exact .inr (.inl h)
    · exact .inr (.inr (.inl h))
    · rcases hW k h with h | h
      · exact .inr (.inr (.inr (.inl h)))
      · omega
    · exact .inr (.inr (.inr (.inr h)))
  have hF : ∀ k, k < w.heap.size → dfootE D { d with wv := wv, ws := d.ws ++ [(n, (b, sv))], es := es } k → dfootE D d k := fun k hk h => h.imp (hF0 k hk) id
  refine ⟨hblk, (hsame _ (Array.getElem?_eq_some_iff.1 h.pgs).1 (Ne.symm h.neP) h.nePW h.nePM).trans h.pgs, by rw [hb]; exact h.pgn, fun i hi => ?_, ?_, ?_, ?_, hmp, ?_, fun q hq => ?_, ?_, ?_, ?_, ?_,
    fun k hE => lt_of_same (h.elt k hE) (hsame k (h.elt k hE) (fun e => h.eown k hE (.inl e)) (fun e => h.eown k hE (.inr (.inr (.inr (.inl e))))) (fun e => h.eown k hE (.inr (.inr (.inl e))))), fun k hE hd => h.eown k hE (hF0 k (h.elt k hE) hd)⟩
  · obtain ⟨v, h1, h2⟩ := h.pgv i (by rw [hb] at hi; exact hi)
    refine ⟨v, h1, ?_⟩
    have : m'.base[i] = m.base[i]'(by rw [hb] at hi; exact hi) := by congr 1
    rw [this]
    exact h2.keep ko hF
  · simpa [wcells] using hrow
  · rw [hw, h.wws]; simp
  · intro p hp
    rcases List.mem_append.1 hp with hp | hp
    · exact RdV.keep (h.wrd p hp) ko hF
    · obtain rfl : p = (n, (b, sv)) := by simpa using hp
      exact RdV.keep hrd ko hF
  · intro q
    rw [hes, lastW_snoc, h.mpe q]
    by_cases hq : n = q
    · subst hq; simp
    · have : ¬ (q : Int) = (n : Int) := by omega
      simp [this, hq]
  · rw [hes, if_neg (by omega)]
    exact h.mpk q hq
  · rw [hl]
    exact ownsRow_keep h.log (fun k h' => hsame k (h.log.lt k h').2 (fun e => h.neL (e ▸ h')) (fun e => h.neWL k e h') (fun e => h.neML (e ▸ h')))
  · rw [hm]; exact RdV.keep h.mark ko hF
  · rw [htl]; exact RdV.keep h.tail ko hF
  · rw [ht]; exact h.torn.keep ko hF
end

section
variable (w : World) (D : Nat) (F : Foot) {E : Foot} (m : DM)

theorem spend_waiting (m : DM) : m.spend.waiting = m.waiting := by unfold DM.spend; split <;> rfl
theorem spend_ops {m : DM} (h : m.fuse ≠ 0) : m.spend.ops = m.ops + 1 := by unfold DM.spend; rw [if_neg h]

end
end Mun
end

section
/- Contract of a device's Sync. -/
set_option maxRecDepth 100000
set_option linter.unusedVariables false
namespace Mun
open Go Go.RowKit
open Go.Proofs

theorem nodup_inj {α β : Type} {f : α → β} : ∀ {l : List α}, (l.map f).Nodup → ∀ {x y : α}, x ∈ l → y ∈ l → f x = f y → x = y
  | [], _, x, y, hx, _, _ => by simp at hx
  | a :: l, h, x, y, hx, hy, e => by
    simp only [List.map_cons, List.nodup_cons] at h
    rcases List.mem_cons.1 hx with rfl | hx' <;> rcases List.mem_cons.1 hy with rfl | hy'
    · rfl
    · exact absurd (e ▸ List.mem_map_of_mem hy') h.1
    · exact absurd (e ▸ List.mem_map_of_mem hx') h.1
    · exact nodup_inj h.2 hx' hy' e

theorem filter_lt {α : Type} (f g : α → Bool) : ∀ (l : List α), (∀ x ∈ l, g x = true → f x = true) → (∃ x ∈ l, f x = true ∧ g x = false) → (l.filter g).length < (l.filter f).length
  | [], _, ⟨x, hx, _⟩ => by simp at hx
  | a :: l, hs, hex => by
    have hle : (l.filter g).length ≤ (l.filter f).length := by
      clear hex
      induction l with
      | nil => simp
      | cons b l ih =>
        have ih' := ih (fun x hx => hs x (by rcases List.mem_cons.1 hx with h | h <;> simp [h]))
        have hb := hs b (by simp)
        simp only [List.filter_cons]
        cases hg : g b with
        | true => simp [hb hg]; exact ih'
        | false => cases f b <;> simp <;> omega
    obtain ⟨x, hx, hf, hg⟩ := hex
    simp only [List.filter_cons]
    rcases List.mem_cons.1 hx with rfl | hx
    · simp [hf, hg]; omega
    · have ih := filter_lt f g l (fun y hy => hs y (by simp [hy])) ⟨x, hx, hf, hg⟩
      have ha := hs a (by simp)
      cases hga : g a with
      | true => simp [ha hga]; exact ih
      | false => cases f a <;> simp <;> omega

/-- a round of Sync's loop -/
structure SyncR (w3 : World) (D : Nat) (m : DM) (d : DV) (l : List ((Int × Value) × Nat)) (c : Nat) (seen : Array Nat) (pg : Array Value) (wr : World) : Prop where
  it : wr.heap[w3.heap.size]? = some (.mapIter (some d.M) c seen c)
  size : wr.heap.size = w3.heap.size + 1
  same : ∀ k, k < w3.heap.size → k ≠ d.P → wr.heap[k]? = w3.heap[k]?
  pgs : wr.heap[d.P]? = some (.cells pg 23 (0, 0))
  pgn : pg.size = m.base.length
  pg1 : ∀ p ∈ l, seen.contains p.2 = true → ∀ i : Nat, p.1.1 = i → pg[i]? = some p.1.2
  pg2 : ∀ i : Nat, (∀ p ∈ l, p.1.1 = i → seen.contains p.2 = false) → pg[i]? = d.pg[i]?
  os : wr.os = w3.os
  tape : wr.tape = w3.tape
  output : wr.output = w3.output

def unseen (l : List ((Int × Value) × Nat)) (r : Nat) (w : World) : Nat :=
  match w.heap[r]? with
  | some (.mapIter _ _ seen _) => (l.filter fun p => !seen.contains p.2).length
  | _ => 0

section
variable {w3 wr : World} {D : Nat} {m : DM} {d : DV} {l : List ((Int × Value) × Nat)} {c : Nat} {seen : Array Nat} {pg : Array Value}

theorem SyncR.start (h : DRep w3 D (dfootE D d) m d) (hl : IMapC w3 d.M l c) : SyncR w3 D m d l c #[] d.pg (w3.alloc (.mapIter (some d.M) c #[] c)) :=
  ⟨heap_alloc_new w3 _, World.size_alloc _ _, fun k hk _ => alloc_get w3 _ k hk, (alloc_get w3 _ _ (Array.getElem?_eq_some_iff.1 h.pgs).1).trans h.pgs, h.pgn, fun p _ hs => by simp at hs, fun _ _ => rfl, rfl, rfl, rfl⟩

theorem SyncR.drew (h : SyncR w3 D m d l c seen pg wr) : SyncR w3 D m d l c seen pg wr.drew := ⟨h.it, h.size, h.same, h.pgs, h.pgn, h.pg1, h.pg2, h.os, h.tape, h.output⟩

/-- one page more -/
theorem SyncR.step (h : SyncR w3 D m d l c seen pg wr) (hd : DRep w3 D (dfootE D d) m d) (hl : IMapC w3 d.M l c) {p : (Int × Value) × Nat} (hp : p ∈ l) (q : Nat) (hq : p.1.1 = q) (hn : q < m.base.length) :
    SyncR w3 D m d l c (seen.push p.2) (pg.setIfInBounds q p.1.2) ((setObjW wr w3.heap.size (.mapIter (some d.M) c (seen.push p.2) c)).setCell ⟨d.P, q, none⟩ p.1.2) := by
  have hPr : d.P ≠ w3.heap.size := by have := (Array.getElem?_eq_some_iff.1 hd.pgs).1; omega
  refine ⟨?_, by rw [setCell_size, setObjW_size]; exact h.size, ?_, ?_, by simp [h.pgn], ?_, ?_, h.os, h.tape, h.output⟩
  · rw [setCell_heap _ _ _ _ (Ne.symm hPr), setObjW_same h.it]
  · intro k hk hkP
    rw [setCell_heap _ _ _ _ hkP, setObjW_other _ _ _ _ (by omega)]
    exact h.same k hk hkP
  · rw [setCell_blk (e := 23) (c := pg)]
    rw [setObjW_other _ _ _ _ hPr]
    exact h.pgs
  · intro p' hp' hs i hi
    have hk := hl.1
    by_cases e : p'.1.1 = p.1.1
    · have hpp : p' = p := by
        exact nodup_inj hk hp' hp e
      subst hpp
      obtain rfl : i = q := by omega
      rw [Array.getElem?_setIfInBounds]
      simp [h.pgn, hn]
    · have hiq : ¬ q = i := by omega
      rw [Array.getElem?_setIfInBounds, if_neg hiq]
      refine h.pg1 p' hp' ?_ i hi
      have hb := hl.2.1
      have hne : p'.2 ≠ p.2 := fun e' => e (by rw [nodup_inj hb hp' hp e'])
      simpa [hne] using hs
  · intro i hi
    have hiq : ¬ q = i := by
      rintro rfl
      have := hi p hp hq
      simp at this
    rw [Array.getElem?_setIfInBounds, if_neg hiq]
    refine h.pg2 i (fun p' hp' hpi => ?_)
    have := hi p' hp' hpi
    simp at this ⊢
    exact this.1

theorem alook_mem (es : List (Int × Value)) (h : (es.map (·.1)).Nodup) {p : Int × Value} (hp : p ∈ es) : alook es p.1 = some p.2 := by
  unfold alook
  have : es.find? (·.1 == p.1) = some p := by
    induction es with
    | nil => simp at hp
    | cons a es ih =>
      simp only [List.map_cons, List.nodup_cons] at h
      simp only [List.find?_cons]
      rcases List.mem_cons.1 hp with rfl | hp
      · simp
      · have : (a.1 == p.1) = false := by
          simp only [beq_eq_false_iff_ne]
          intro e
          exact h.1 (e ▸ List.mem_map_of_mem hp)
        rw [this]
        exact ih h.2 hp
  rw [this]; rfl

/-- a key of the map is a page -/
theorem DRep.keyIn (h : DRep w3 D (dfootE D d) m d) (hwf : m.Wf) (hl : IMapC w3 d.M l c) (hes : l.map (·.1) = d.es) {p : (Int × Value) × Nat} (hp : p ∈ l) : ∃ q : Nat, p.1.1 = q ∧ q < m.base.length := by
  have hmem : p.1 ∈ d.es := by rw [← hes]; exact List.mem_map_of_mem hp
  have hnd : (d.es.map (·.1)).Nodup := by rw [← hes, List.map_map]; exact hl.1
  have ha := alook_mem d.es hnd hmem
  have h0 : 0 ≤ p.1.1 := by
    rcases Int.lt_or_le p.1.1 0 with hlt | hge
    · rw [h.mpk _ hlt] at ha; cases ha
    · exact hge
  obtain ⟨q, hq⟩ : ∃ q : Nat, p.1.1 = q := ⟨p.1.1.toNat, by omega⟩
  refine ⟨q, hq, ?_⟩
  rw [hq, h.mpe] at ha
  cases hw : lastW d.ws q with
  | none => rw [hw] at ha; cases ha
  | some x =>
    have hm := lastW_mem hw
    exact (hwf.waiting (q, x.1) (by rw [h.wws]; exact List.mem_map.2 ⟨_, hm, rfl⟩)).1

/-- what Sync has laid: all pages as they were written last -/
theorem SyncR.done (h : SyncR w3 D m d l c seen pg wr) (hd : DRep w3 D (dfootE D d) m d) (hl : IMapC w3 d.M l c) (hes : l.map (·.1) = d.es) (hall : ∀ p ∈ l, seen.contains p.2 = true) (i : Nat) (hi : i < m.base.length) :
    ∃ v, pg[i]? = some v ∧ PgV (dfootE D d) w3 v (m.page i) := by
  obtain ⟨v, h1, h2⟩ := hd.pageV i hi
  have hnd : (d.es.map (·.1)).Nodup := by rw [← hes, List.map_map]; exact hl.1
  cases ha : alook d.es i with
  | none =>
    rw [ha] at h2
    refine ⟨v, ?_, h2⟩
    rw [h.pg2 i ?_, h1]
    intro p hp hpi
    have := alook_mem d.es hnd (p := p.1) (by rw [← hes]; exact List.mem_map_of_mem hp)
    rw [hpi, ha] at this
    cases this
  | some u =>
    rw [ha] at h2
    refine ⟨u, ?_, h2⟩
    obtain ⟨p, hp, hpe⟩ : ∃ p ∈ l, p.1 = ((i : Int), u) := by
      unfold alook at ha
      obtain ⟨y, hy, hyu⟩ := Option.map_eq_some_iff.1 ha
      have e1 := List.find?_some hy
      have e2 := List.mem_of_find?_eq_some hy
      rw [← hes] at e2
      obtain ⟨p, hp, rfl⟩ := List.mem_map.1 e2
      simp only [beq_iff_eq] at e1
      exact ⟨p, hp, by rw [← e1, ← hyu]⟩
    have := h.pg1 p hp (hall p hp) i (by rw [hpe])
    rw [this, hpe]

theorem settled_length (m : DM) : m.settled.length = m.base.length := by simp [DM.settled]
theorem settled_get (m : DM) (i : Nat) (h : i < m.settled.length) : m.settled[i] = m.page i := by simp [DM.settled]
theorem page_spend (m : DM) (i : Nat) : m.spend.page i = m.page i := by unfold DM.page; rw [spend_waiting, spend_base]

/-- the device behind a Sync -/
theorem DRep.synced {m' : DM} (hd : DRep w3 D (dfootE D d) m d) (hpn : pg.size = m.base.length) (hpv : ∀ i, i < m.base.length → ∃ v, pg[i]? = some v ∧ PgV (dfootE D d) w3 v (m.page i))
    (hsame : ∀ k, k < w3.heap.size → k ≠ D → k ≠ d.P → k ≠ d.M → wr.heap[k]? = w3.heap[k]?)
    (hblk : wr.heap[D]? = some (.cells (dcells m' m'.base.length { d with wv := .slice none 0 0, ws := [], es := [], pg := pg }) 95 (0, 0)))
    (hpg : wr.heap[d.P]? = some (.cells pg 23 (0, 0))) (hmp : IMap wr d.M [])
    (hb : m'.base = m.settled) (hw : m'.waiting = []) (hl : m'.log = m.log) (hm : m'.mark = m.mark) (ht : m'.torn = m.torn) (htl : m'.tail = m.tail) :
    DRep wr D (dfootE D { d with wv := .slice none 0 0, ws := [], es := [], pg := pg }) m' { d with wv := .slice none 0 0, ws := [], es := [], pg := pg } := by
  have ko : ∀ k, k < w3.heap.size → ¬ dfootE D d k → wr.heap[k]? = w3.heap[k]? := fun k h1 h2 => hsame k h1 (fun e => h2 (.inl (.inl e))) (fun e => h2 (.inl (.inr (.inl e)))) (fun e => h2 (.inl (.inr (.inr (.inl e)))))
  have hF0 : ∀ k, k < w3.heap.size → dfoot D { d with wv := .slice none 0 0, ws := [], es := [], pg := pg } k → dfoot D d k := by
    intro k hk h
    rcases h with h | h | h | h | h
    · exact .inl h
    · exact .inr (.inl h)
    · exact .inr (.inr (.inl h))
    · simp [Value.ownBlock] at h
    · exact .inr (.inr (.inr (.inr h)))
  have hF : ∀ k, k < w3.heap.size → dfootE D { d with wv := .slice none 0 0, ws := [], es := [], pg := pg } k → dfootE D d k := fun k hk h => h.imp (hF0 k hk) id
  refine ⟨hblk, hpg, by rw [hb, settled_length]; exact hpn, fun i hi => ?_, World.ownsRow_nil _ _ _ _, hw, by simp, hmp, fun _ => rfl, fun _ _ => rfl, ?_, ?_, ?_, ?_,
    fun k hE => lt_of_same (hd.elt k hE) (hsame k (hd.elt k hE) (fun e => hd.eown k hE (.inl e)) (fun e => hd.eown k hE (.inr (.inl e))) (fun e => hd.eown k hE (.inr (.inr (.inl e))))), fun k hE h => hd.eown k hE (hF0 k (hd.elt k hE) h)⟩
  · have hi' : i < m.base.length := by rw [hb, settled_length] at hi; exact hi
    obtain ⟨v, h1, h2⟩ := hpv i hi'
    refine ⟨v, h1, ?_⟩
    have : m'.base[i] = m.page i := by
      rw [← settled_get m i (by rw [settled_length]; exact hi')]
      congr 1
    rw [this]
    exact h2.keep ko hF
  · rw [hl]
    exact ownsRow_keep hd.log (fun k h' => hsame k (hd.log.lt k h').2 (fun e => hd.neL (e ▸ h')) (fun e => hd.nePL (e ▸ h')) (fun e => hd.neML (e ▸ h')))
  · rw [hm]; exact RdV.keep hd.mark ko hF
  · rw [htl]; exact RdV.keep hd.tail ko hF
  · rw [ht]; exact hd.torn.keep ko hF
end

section
variable (w : World) (D : Nat) (F : Foot) {E : Foot} (m : DM)

end
end Mun
end

section
/- Contracts of the laws' own: ones, Ask. -/
set_option maxRecDepth 100000
set_option linter.unusedVariables false
namespace Mun
open Go Go.RowKit
open Go.Proofs

def onesL : Bytes := List.replicate 512 1
theorem onesL_length : onesL.length = 512 := List.length_replicate
def onesUpto (i : Nat) : Bytes := List.replicate i 1 ++ List.replicate (512 - i) 0
theorem onesUpto_length (i : Nat) (h : i ≤ 512) : (onesUpto i).length = 512 := by simp [onesUpto]; omega
theorem onesUpto_zero : onesUpto 0 = List.replicate 512 0 := by simp [onesUpto]
theorem onesUpto_all : onesUpto 512 = onesL := by simp [onesUpto, onesL]
theorem onesUpto_set (i : Nat) (h : i < 512) : (onesUpto i).set i 1 = onesUpto (i + 1) := by
  unfold onesUpto
  obtain ⟨k, hk⟩ : ∃ k, 512 - i = k + 1 := ⟨511 - i, by omega⟩
  have hk2 : 512 - (i + 1) = k := by omega
  rw [hk, hk2, List.replicate_succ, List.set_append_right _ _ (by simp), List.length_replicate, Nat.sub_self, List.set_cons_zero, List.replicate_succ', List.append_assoc]
  rfl

/-- the device of awake, with its page written -/
def awakeM : DM := ((DM.new 4 10).write 1 onesL).1
theorem awakeM_write : (DM.new 4 10).write 1 onesL = (awakeM, 0) := by
  unfold awakeM DM.write
  rw [if_neg (by simp [DM.new]), if_neg (by simp [DM.new, onesL_length]), if_neg (by simp [DM.new])]
theorem awakeM_eq : awakeM = { (DM.new 4 10).spend with waiting := [(1, onesL)] } := by
  unfold awakeM DM.write
  rw [if_neg (by simp [DM.new]), if_neg (by simp [DM.new, onesL_length]), if_neg (by simp [DM.new])]
  rfl
theorem awakeM_page : awakeM.page 1 = onesL := by rw [awakeM_eq]; rfl

def DM.ask (m : DM) (op n : Int) (b : Bytes) : DM × Int :=
  if op = 0 then m.write n b else if op = 1 then m.sync else if op = 2 then m.append b else if op = 3 then m.force else if op = 4 then m.cut n b else if op = 5 then m.trim n else m.setMark b

section
variable (w : World) (D : Nat) (F : Foot) {E : Foot} (m : DM)

end
end Mun
end

section
/- A device's Crash: its law in plain Lean; what the steps do to the new device. -/
set_option maxRecDepth 100000
set_option linter.unusedVariables false
namespace Mun
open Go Go.RowKit
open Go.Proofs

def chAt (c : Bytes) (i : Nat) : Nat := (c.getD i 0).toNat
theorem chAt_lt (c : Bytes) (i : Nat) : chAt c i < 256 := (c.getD i 0).toNat_lt

/-- the pages with the first j writes laid over them, as the choice says -/
def crashBase (m : DM) (c : Bytes) : Nat → List Bytes
  | 0 => m.base
  | j + 1 => match m.waiting[j]? with
    | some p => if chAt c j % 2 = 0 then (crashBase m c j).set p.1 p.2 else crashBase m c j
    | none => crashBase m c j

def DM.tornBytes (m : DM) (c : Bytes) (old b : Bytes) : Bytes := b.take (chAt c m.waiting.length / 2 % 5 * 128) ++ old.drop (chAt c m.waiting.length / 2 % 5 * 128)

def DM.crashPages (m : DM) (c : Bytes) : List Bytes :=
  match m.torn with
  | none => crashBase m c m.waiting.length
  | some p => (crashBase m c m.waiting.length).set p.1 (m.tornBytes c ((crashBase m c m.waiting.length).getD p.1 page0) p.2)

def DM.rest (m : DM) : Bytes := m.log.drop m.certain ++ m.tail
def DM.left (m : DM) (c : Bytes) : Nat := (chAt c 0 + 256 * chAt c 1) % (m.rest.length + 1)
def DM.crashLog (m : DM) (c : Bytes) : Bytes := m.log.take m.certain ++ m.rest.take (m.left c)

def DM.crash (m : DM) (c : Bytes) : DM :=
  { room := m.room, base := m.crashPages c, waiting := [], log := m.crashLog c, certain := (m.crashLog c).length, mark := m.mark, fuse := -1, ops := 0, dead := false, torn := none, tail := [] }

theorem crashBase_length (m : DM) (c : Bytes) : ∀ j, (crashBase m c j).length = m.base.length
  | 0 => rfl
  | j + 1 => by
    have ih := crashBase_length m c j
    unfold crashBase
    split
    · split
      · rw [List.length_set, ih]
      · exact ih
    · exact ih

theorem mem_set_or {α : Type} {l : List α} {i : Nat} {a b : α} (h : b ∈ l.set i a) : b ∈ l ∨ b = a := List.mem_or_eq_of_mem_set h

theorem crashBase_pages {m : DM} (h : m.Wf) (c : Bytes) : ∀ j, ∀ b ∈ crashBase m c j, b.length = 512
  | 0 => h.pages
  | j + 1 => by
    have ih := crashBase_pages h c j
    unfold crashBase
    split
    · rename_i p hp
      split
      · intro b hb
        rcases mem_set_or hb with hb | rfl
        · exact ih b hb
        · exact (h.waiting p (List.mem_of_getElem? hp)).2
      · exact ih
    · exact ih

theorem crashBase_get {m : DM} (h : m.Wf) (c : Bytes) (j n : Nat) (hn : n < m.base.length) : ((crashBase m c j).getD n page0).length = 512 := by
  have hlt : n < (crashBase m c j).length := by rw [crashBase_length]; exact hn
  rw [List.getD_eq_getElem?_getD, List.getElem?_eq_getElem hlt, Option.getD_some]
  exact crashBase_pages h c j _ (List.getElem_mem hlt)

theorem tornBytes_length {m : DM} (c old b : Bytes) (h1 : old.length = 512) (h2 : b.length = 512) : (m.tornBytes c old b).length = 512 := by
  unfold DM.tornBytes
  have := Nat.mod_lt (chAt c m.waiting.length / 2) (by decide : 0 < 5)
  rw [List.length_append, List.length_take, List.length_drop]
  omega

theorem crashPages_length (m : DM) (c : Bytes) : (m.crashPages c).length = m.base.length := by
  unfold DM.crashPages
  split
  · exact crashBase_length _ _ _
  · rw [List.length_set]; exact crashBase_length _ _ _

theorem rest_length {m : DM} (h : m.Wf) : m.rest.length = m.log.length - m.certain + m.tail.length := by
  unfold DM.rest
  rw [List.length_append, List.length_drop]

theorem left_le {m : DM} (c : Bytes) : m.left c ≤ m.rest.length := by
  unfold DM.left
  have := Nat.mod_lt (chAt c 0 + 256 * chAt c 1) (by omega : 0 < m.rest.length + 1)
  omega

theorem crashLog_length {m : DM} (h : m.Wf) (c : Bytes) : (m.crashLog c).length = m.certain + m.left c := by
  unfold DM.crashLog
  have := left_le (m := m) c
  have := h.certain
  rw [List.length_append, List.length_take, List.length_take]
  omega

theorem DM.crash_wf {m : DM} (h : m.Wf) (c : Bytes) : (m.crash c).Wf := by
  refine ⟨Nat.le_refl _, ?_, h.room24, ?_, ?_, by simp [DM.crash], by simp [DM.crash], h.mark, by simp [DM.crash], by simp [DM.crash], by simp [DM.crash], fun _ => ⟨rfl, rfl⟩⟩
  · show (m.crashLog c).length + 0 ≤ m.room
    rw [crashLog_length h]
    have := left_le (m := m) c
    have := rest_length h
    have := h.certain
    have := h.room
    omega
  · show ∀ b ∈ m.crashPages c, b.length = 512
    unfold DM.crashPages
    cases ht : m.torn with
    | none => exact crashBase_pages h c _
    | some p =>
      have hp := h.torn p ht
      intro b hb
      rcases mem_set_or hb with hb | rfl
      · exact crashBase_pages h c _ b hb
      · exact tornBytes_length c _ _ (crashBase_get h c _ _ hp.1) hp.2
  · show (m.crashPages c).length ≤ 65536
    rw [crashPages_length]
    exact h.npages

theorem chAt_any {F : Foot} (w : World) (v : Value) (c : Bytes) (hv : RdB F w v c) (i : Nat) (hi : i ≤ 4398046511104) :
    Calls Try.prog 44 #[v, .int .i64 i] w fun e w' => e = .returned (.int .i64 (chAt c i)) ∧ w = w' := by
  obtain ⟨a, n, cp, rfl, HN, hlc, hcm⟩ := hv.formN
  by_cases hlt : i < n
  · have hil : i < c.length := by rw [← HN.out]; exact hlt
    obtain ⟨g, off, cp', hva, _, _, _, _, hc⟩ := RdV.at_ hv (by omega)
    injection hva with e1 e2 e3
    subst e1 e3
    have hcell := hc i (.int .u8 (c[i].toNat : Int)) (by rw [bv_getElem?, List.getElem?_eq_getElem hil]; rfl)
    have hR : chAt c i = c[i].toNat := by unfold chAt; rw [List.getD_eq_getElem?_getD, List.getElem?_eq_getElem hil]; rfl
    obtain ⟨z, hz⟩ : ∃ z : Nat, c[i].toNat = z := ⟨_, rfl⟩
    have hz256 : (z : Int) < 256 := by have := c[i].toNat_lt; omega
    rw [hz] at hcell
    have HZ : Hid (chAt c i = z) := by show _ = _; rw [hR, hz]
    clear hv hc e2 hz hR hil
    have hti : (i : Int) < (n : Int) := by omega
    have h0i : (0 : Int) ≤ (i : Int) := by omega
    go_enter Try.func44, Try.ntmps44
    go_wp2
    go_ret
    rw [HZ.out]
    exact ⟨rfl, rfl⟩
  · have HR : Hid (chAt c i = 0) := by
      show _ = _
      unfold chAt
      rw [List.getD_eq_getElem?_getD, List.getElem?_eq_none (by rw [← HN.out]; omega)]
      rfl
    have hti : ¬ (i : Int) < (n : Int) := by omega
    clear hv
    go_enter Try.func44, Try.ntmps44
    go_wp2
    go_ret
    rw [HR.out]
    exact ⟨rfl, rfl⟩

section
variable {w w' : World} {D : Nat} {m m' : DM} {d : DV}

/-- the pages have turned -/
theorem DRep.pages (h : DRep w D (dfootE D d) m d) (pg : Array Value) (base : List Bytes)
    (hsame : ∀ k, k < w.heap.size → k ≠ d.P → w'.heap[k]? = w.heap[k]?) (hpg : w'.heap[d.P]? = some (.cells pg 23 (0, 0)))
    (hn : pg.size = m.base.length) (hb : base.length = m.base.length) (hv : ∀ i (hi : i < base.length), ∃ v, pg[i]? = some v ∧ PgV (dfootE D d) w' v base[i]) :
    DRep w' D (dfootE D { d with pg := pg }) { m with base := base } { d with pg := pg } := by
  have ko : ∀ k, k < w.heap.size → ¬ dfootE D d k → w'.heap[k]? = w.heap[k]? := fun k h1 h2 => hsame k h1 (fun e => h2 (.inl (.inr (.inl e))))
  refine ⟨?_, hpg, by rw [hn]; exact hb.symm, hv, ownsRow_keep h.wrow (fun k h' => hsame k (h.wrow.lt k h').2 (fun e => h.nePW (e ▸ h'))), h.wws, fun p hp => RdV.keep (h.wrd p hp) ko (fun _ _ h => h),
    h.mp.keep (hsame _ h.mp.lt (Ne.symm h.nePM)), h.mpe, h.mpk, ownsRow_keep h.log (fun k h' => hsame k (h.log.lt k h').2 (fun e => h.nePL (e ▸ h'))), RdV.keep h.mark ko (fun _ _ h => h), RdV.keep h.tail ko (fun _ _ h => h), h.torn.keep ko (fun _ _ h => h),
    fun k hE => lt_of_same (h.elt k hE) (hsame k (h.elt k hE) (fun e => h.eown k hE (.inr (.inl e)))), h.eown⟩
  rw [hsame D h.D_lt h.neP, h.blk]
  show some (Obj.cells (dcells m m.base.length d) _ _) = some (Obj.cells (dcells { m with base := base } base.length { d with pg := pg }) _ _)
  rw [hb]
  rfl

/-- one page is laid -/
theorem DRep.setPage (h : DRep w D (dfootE D d) m d) (n : Nat) (hn : n < m.base.length) (v : Value) (b : Bytes) (hv : RdB (dfootE D d) w v b) :
    DRep (w.setCell ⟨d.P, n, none⟩ v) D (dfootE D { d with pg := d.pg.setIfInBounds n v }) { m with base := m.base.set n b } { d with pg := d.pg.setIfInBounds n v } := by
  have ho : ∀ k, k < w.heap.size → ¬ dfootE D d k → (w.setCell ⟨d.P, n, none⟩ v).heap[k]? = w.heap[k]? := fun k h1 h2 => setCell_heap _ _ _ _ (fun e => h2 (.inl (.inr (.inl e))))
  refine h.pages _ _ (fun k _ hk => setCell_heap _ _ _ _ hk) (setCell_blk h.pgs v) (by simp [h.pgn]) (by simp) (fun i hi => ?_)
  rw [List.length_set] at hi
  obtain ⟨u, hu1, hu2⟩ := h.pgv i hi
  by_cases hin : n = i
  · subst hin
    refine ⟨v, ?_, ?_⟩
    · rw [Array.getElem?_setIfInBounds]; simp [h.pgn, hn]
    · rw [List.getElem_set_self]; exact .inr (RdV.keep hv ho (fun _ _ h => h))
  · refine ⟨u, ?_, ?_⟩
    · rw [Array.getElem?_setIfInBounds, if_neg hin]; exact hu1
    · rw [List.getElem_set_ne hin]; exact hu2.keep ho (fun _ _ h => h)
end
end Mun
end

section
/- Plain: a beginning of a log's bytes is whole records and a torn one; what a crash leaves of a log. -/
set_option linter.unusedVariables false
namespace Mun

/-- where a beginning of n bytes ends: j whole records, and a part of the next one -/
theorem encL_take (rs : List PR) : ∀ (b n : Nat), ∃ j, j ≤ rs.length ∧ lenL (rs.take j) ≤ n ∧ ∃ tail, (encL b rs).take n = encL b (rs.take j) ++ tail ∧
    (tail ≠ [] → ∃ (h : j < rs.length) (k : Nat), k < recLen rs[j] ∧ tail = (recB rs[j] (b + lenL (rs.take j))).take k) ∧ (∀ i, i ≤ rs.length → lenL (rs.take i) ≤ n → i ≤ j) := by
  induction rs with
  | nil => intro b n; exact ⟨0, Nat.le_refl _, by simp [lenL], [], by simp [encL], fun h => absurd rfl h, fun i hi _ => hi⟩
  | cons r rs ih =>
    intro b n
    by_cases hn : n < recLen r
    · refine ⟨0, Nat.zero_le _, by simp [lenL], (recB r b).take n, ?_, fun _ => ⟨by simp, n, hn, by simp [lenL]⟩, fun i hi h => ?_⟩
      · simp only [encL, List.take_zero, List.nil_append]
        rw [List.take_append_of_le_length (by rw [recB_len]; omega)]
      · cases i with
        | zero => omega
        | succ i => simp only [List.take_succ_cons, lenL] at h; omega
    · obtain ⟨j, h1, h2, tail, h3, h4, h5⟩ := ih (b + recLen r) (n - recLen r)
      refine ⟨j + 1, by simp; omega, by simp only [List.take_succ_cons, lenL]; omega, tail, ?_, ?_, fun i hi h => ?_⟩
      · simp only [encL, List.take_succ_cons, List.append_assoc]
        rw [← h3, List.take_append, recB_len, List.take_of_length_le (by rw [recB_len]; omega)]
      · intro ht
        obtain ⟨hj, k, hk, e⟩ := h4 ht
        refine ⟨by simp; omega, k, by simpa using hk, ?_⟩
        rw [e]
        simp only [List.take_succ_cons, lenL, List.getElem_cons_succ]
        congr 2
        omega
      · cases i with
        | zero => omega
        | succ i =>
          simp only [List.take_succ_cons, lenL] at h
          have := h5 i (by simpa using hi) (by omega)
          omega

theorem crashLog_take {m : DM} (h : m.certain ≤ m.log.length) (c : Bytes) : m.crashLog c = (m.log ++ m.tail).take (m.certain + m.left c) := by
  unfold DM.crashLog DM.rest
  have e : m.log ++ m.tail = m.log.take m.certain ++ (m.log.drop m.certain ++ m.tail) := by rw [← List.append_assoc, List.take_append_drop]
  have hl : (m.log.take m.certain).length = m.certain := by rw [List.length_take]; omega
  rw [e]
  have e2 : m.certain + m.left c = (m.log.take m.certain).length + m.left c := by rw [hl]
  rw [e2, List.take_length_add_append]

/-- all of it certain: a crash leaves it -/
theorem crashLog_all {m : DM} (h : m.certain = m.log.length) (ht : m.tail = []) (c : Bytes) : m.crashLog c = m.log := by
  rw [crashLog_take (by omega), ht, List.append_nil, List.take_of_length_le (by omega)]
end Mun
end

section
/- Plain: the low bits of an int. -/
set_option maxRecDepth 100000
set_option linter.unusedVariables false
namespace Mun
open Go Go.RowKit
open Go.Proofs

theorem i64_and_low (n : Int) (k : Nat) (hk : k < 63) (c : Int) (hc : c = ((2 ^ k - 1 : Nat) : Int)) (hcb : (BitVec.ofInt 64 c).toNat = 2 ^ k - 1) : bits .and .i64 n c = n % ((2 ^ k : Nat) : Int) := by
  have key : (BitVec.ofInt 64 n &&& BitVec.ofInt 64 c).toNat = (n % ((2 ^ 64 : Nat) : Int)).toNat % 2 ^ k := by
    rw [BitVec.toNat_and, BitVec.toNat_ofInt, hcb, Nat.and_two_pow_sub_one_eq_mod]
  show IntKind.i64.wrap ((BitVec.ofInt 64 n &&& BitVec.ofInt 64 c).toNat : Nat) = _
  rw [key, IntKind.wrap_i64]
  have h2 : (2 : Nat) ^ k < 2 ^ 63 := Nat.pow_lt_pow_right (by decide) hk
  have hpos : 0 < (2 : Nat) ^ k := Nat.two_pow_pos k
  have hm : (n % ((2 ^ 64 : Nat) : Int)).toNat % 2 ^ k < 2 ^ k := Nat.mod_lt _ hpos
  have hd : ((2 ^ k : Nat) : Int) ∣ ((2 ^ 64 : Nat) : Int) := Int.natCast_dvd_natCast.2 (Nat.pow_dvd_pow 2 (by omega))
  have e1 : (((n % ((2 ^ 64 : Nat) : Int)).toNat % 2 ^ k : Nat) : Int) = n % ((2 ^ k : Nat) : Int) := by
    rw [Int.natCast_emod, Int.toNat_of_nonneg (Int.emod_nonneg _ (by decide)), Int.emod_emod_of_dvd _ hd]
  rw [e1]
  have hlo : 0 ≤ n % ((2 ^ k : Nat) : Int) := Int.emod_nonneg _ (by omega)
  have hhi : n % ((2 ^ k : Nat) : Int) < ((2 ^ k : Nat) : Int) := Int.emod_lt_of_pos _ (by omega)
  omega

theorem i64_and15 (n : Int) : ∃ q : Nat, bits .and .i64 n 15 = (q : Int) ∧ q ≤ 15 := by
  refine ⟨(n % 16).toNat, ?_, by omega⟩
  rw [i64_and_low n 4 (by decide) 15 (by decide) (by decide)]
  omega

end Mun
end
