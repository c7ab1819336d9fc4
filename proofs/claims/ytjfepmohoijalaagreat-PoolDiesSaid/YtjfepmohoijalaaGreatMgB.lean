/- Texts of mine, one behind the other: DiskM, DiskR, DiskA, DiskB. -/
import Derived.Test.YtjfepmohoijalaaGreatMgA
section
/- Plain: a device as data. No program in sight. -/
namespace Mun

abbrev Bytes := List UInt8

def page0 : Bytes := List.replicate 512 0
theorem page0_length : page0.length = 512 := List.length_replicate

structure DM where
  room : Nat
  base : List Bytes
  waiting : List (Nat × Bytes)
  log : Bytes
  certain : Nat
  mark : Bytes
  fuse : Int
  ops : Nat
  dead : Bool
  torn : Option (Nat × Bytes)
  tail : Bytes

/-- the last of the writes to a page -/
def lastW {α : Type} (ws : List (Nat × α)) (n : Nat) : Option α := (ws.reverse.find? (·.1 == n)).map (·.2)

theorem lastW_nil {α : Type} (n : Nat) : lastW ([] : List (Nat × α)) n = none := rfl
theorem lastW_snoc {α : Type} (ws : List (Nat × α)) (p : Nat × α) (n : Nat) : lastW (ws ++ [p]) n = if p.1 = n then some p.2 else lastW ws n := by
  simp only [lastW, List.reverse_append, List.reverse_cons, List.reverse_nil, List.nil_append, List.cons_append, List.find?_cons]
  by_cases h : p.1 = n
  · simp [h]
  · have : (p.1 == n) = false := by simpa using h
    simp [this, h]
theorem lastW_map {α β : Type} (f : α → β) (ws : List (Nat × α)) (n : Nat) : lastW (ws.map fun p => (p.1, f p.2)) n = (lastW ws n).map f := by
  simp only [lastW, ← List.map_reverse, List.find?_map, Option.map_map]
  congr 1
theorem lastW_mem {α : Type} {ws : List (Nat × α)} {n : Nat} {x : α} (h : lastW ws n = some x) : (n, x) ∈ ws := by
  simp only [lastW, Option.map_eq_some_iff] at h
  obtain ⟨p, hp, rfl⟩ := h
  have h1 := List.find?_some hp
  have h2 := List.mem_of_find?_eq_some hp
  simp only [beq_iff_eq] at h1
  subst h1
  simpa using h2

def DM.page (m : DM) (n : Nat) : Bytes := (lastW m.waiting n).getD (m.base.getD n page0)

/-- an operation is counted (where the fuse is out: the device dies) -/
def DM.spend (m : DM) : DM :=
  if m.fuse = 0 then { m with dead := true } else { m with fuse := if 0 < m.fuse then m.fuse - 1 else m.fuse, ops := m.ops + 1 }

def DM.setFuse (m : DM) (n : Int) : DM := { m with fuse := max (-1) n }

structure DM.Wf (m : DM) : Prop where
  certain : m.certain ≤ m.log.length
  room : m.log.length + m.tail.length ≤ m.room
  room24 : m.room ≤ 16777216
  pages : ∀ b ∈ m.base, b.length = 512
  npages : m.base.length ≤ 65536
  waiting : ∀ p ∈ m.waiting, p.1 < m.base.length ∧ p.2.length = 512
  nwait : m.waiting.length ≤ m.ops
  mark : m.mark.length ≤ 64
  fuse1 : -1 ≤ m.fuse
  fuse2 : m.fuse ≤ 9223372036854775807
  torn : ∀ p, m.torn = some p → p.1 < m.base.length ∧ p.2.length = 512
  alive : m.dead = false → m.tail = [] ∧ m.torn = none

def DM.new (pages room : Nat) : DM :=
  { room, base := List.replicate pages page0, waiting := [], log := [], certain := 0, mark := [], fuse := -1, ops := 0, dead := false, torn := none, tail := [] }

theorem DM.new_wf (pages room : Nat) (h1 : pages ≤ 65536) (h2 : room ≤ 16777216) : (DM.new pages room).Wf :=
  ⟨Nat.le_refl _, Nat.zero_le _, h2, fun b hb => by simp only [DM.new, List.mem_replicate] at hb; rw [hb.2, page0_length], by simpa [DM.new] using h1, by simp [DM.new], by simp [DM.new], by simp [DM.new], by simp [DM.new], by simp [DM.new], by simp [DM.new], fun _ => ⟨rfl, rfl⟩⟩

def DM.write (m : DM) (n : Int) (b : Bytes) : DM × Int :=
  if m.dead then (m, 9)
  else if ¬ (0 ≤ n ∧ n < m.base.length) ∨ b.length ≠ 512 then (m, 1)
  else if m.fuse = 0 then ({ m.spend with torn := some (n.toNat, b) }, 9)
  else ({ m.spend with waiting := m.waiting ++ [(n.toNat, b)] }, 0)

def DM.settled (m : DM) : List Bytes := (List.range m.base.length).map m.page

def DM.sync (m : DM) : DM × Int :=
  if m.dead then (m, 9)
  else if m.fuse = 0 then (m.spend, 9)
  else ({ m.spend with base := m.settled, waiting := [] }, 0)

def DM.append (m : DM) (b : Bytes) : DM × Int :=
  if m.dead then (m, 9)
  else if m.room < m.log.length + b.length then (m, 7)
  else if m.fuse = 0 then ({ m.spend with tail := b }, 9)
  else ({ m.spend with log := m.log ++ b }, 0)

def DM.force (m : DM) : DM × Int :=
  if m.dead then (m, 9)
  else if m.fuse = 0 then (m.spend, 9)
  else ({ m.spend with certain := m.log.length }, 0)

def DM.cut (m : DM) (n : Int) (b : Bytes) : DM × Int :=
  if m.dead then (m, 9)
  else if n < 0 ∨ m.certain < n ∨ 64 < b.length then (m, 1)
  else if m.fuse = 0 then (m.spend, 9)
  else ({ m.spend with log := m.log.drop n.toNat, certain := m.certain - n.toNat, mark := b }, 0)

def DM.trim (m : DM) (n : Int) : DM × Int :=
  if m.dead then (m, 9)
  else if n < 0 ∨ m.log.length < n then (m, 1)
  else if m.fuse = 0 then (m.spend, 9)
  else ({ m.spend with log := m.log.take n.toNat, certain := n.toNat }, 0)

def DM.setMark (m : DM) (b : Bytes) : DM × Int :=
  if m.dead then (m, 9)
  else if 64 < b.length then (m, 1)
  else if m.fuse = 0 then (m.spend, 9)
  else ({ m.spend with mark := b }, 0)

theorem DM.spend_wf {m : DM} (h : m.Wf) : m.spend.Wf := by
  unfold DM.spend
  split
  · exact ⟨h.certain, h.room, h.room24, h.pages, h.npages, h.waiting, h.nwait, h.mark, h.fuse1, h.fuse2, h.torn, fun h' => by cases h'⟩
  · refine ⟨h.certain, h.room, h.room24, h.pages, h.npages, h.waiting, Nat.le_succ_of_le h.nwait, h.mark, ?_, ?_, h.torn, h.alive⟩
    · have := h.fuse1
      show -1 ≤ (if 0 < m.fuse then m.fuse - 1 else m.fuse)
      split <;> omega
    · have := h.fuse2
      show (if 0 < m.fuse then m.fuse - 1 else m.fuse) ≤ _
      split <;> omega

theorem DM.setFuse_wf {m : DM} (h : m.Wf) (n : Int) (hn : n ≤ 9223372036854775807) : (m.setFuse n).Wf :=
  ⟨h.certain, h.room, h.room24, h.pages, h.npages, h.waiting, h.nwait, h.mark, Int.le_max_left _ _, Int.max_le.2 ⟨by omega, hn⟩, h.torn, h.alive⟩

theorem DM.page_length {m : DM} (h : m.Wf) (n : Nat) (hn : n < m.base.length) : (m.page n).length = 512 := by
  unfold DM.page
  cases hl : lastW m.waiting n with
  | some b => exact (h.waiting _ (lastW_mem hl)).2
  | none =>
    simp only [Option.getD_none, List.getD_eq_getElem?_getD, List.getElem?_eq_getElem hn, Option.getD_some]
    exact h.pages _ (List.getElem_mem hn)

end Mun
end

section
/- How a device lies in memory. -/
set_option maxRecDepth 100000
set_option linter.unusedVariables false
namespace Mun
open Go Go.RowKit
open Go.Proofs

/-- the values behind a device: the block of its pages, of its map; its rows -/
structure DV where
  P : Nat
  M : Nat
  wv : Value
  lv : Value
  mv : Value
  tv : Value
  tl : Value
  pg : Array Value
  ws : List (Nat × (Bytes × Value))
  es : List (Int × Value)
  E : Foot

/-- the blocks that a device turns -/
def dfoot (D : Nat) (d : DV) : Foot := fun k => k = D ∨ k = d.P ∨ k = d.M ∨ d.wv.ownBlock = some k ∨ d.lv.ownBlock = some k
/-- and those that it reads nothing of -/
def dfootE (D : Nat) (d : DV) : Foot := fun k => dfoot D d k ∨ d.E k

def dcells (m : DM) (n : Nat) (d : DV) : Array Value :=
  #[.int .i64 m.room, .slice (some ⟨d.P, 0, none⟩) n n, d.wv, .map (some d.M), d.lv, .int .i64 m.certain, d.mv, .int .i64 m.fuse, .int .i64 m.ops, .bool m.dead, d.tv, d.tl]

def wcells (ws : List (Nat × (Bytes × Value))) : List Value := ws.flatMap fun p => [.int .i64 p.1, p.2.2]

/-- a page's slot: nil is a page of noughts -/
def PgV (F : Foot) (w : World) (v : Value) (b : Bytes) : Prop := (v = .slice none 0 0 ∧ b = page0) ∨ RdB F w v b

def TornV (F : Foot) (w : World) (v : Value) : Option (Nat × Bytes) → Prop
  | none => v = .pointer none
  | some p => ∃ t sv, v = .pointer (some ⟨t, 0, none⟩) ∧ ¬ F t ∧ w.heap[t]? = some (.cells #[.int .i64 p.1, sv] 116 (0, 0)) ∧ RdB F w sv p.2

structure DRep (w : World) (D : Nat) (F : Foot) (m : DM) (d : DV) : Prop where
  blk : w.heap[D]? = some (.cells (dcells m m.base.length d) 95 (0, 0))
  pgs : w.heap[d.P]? = some (.cells d.pg 41 (0, 0))
  pgn : d.pg.size = m.base.length
  pgv : ∀ i (h : i < m.base.length), ∃ v, d.pg[i]? = some v ∧ PgV F w v m.base[i]
  wrow : w.ownsRow 0 116 2 d.wv d.ws.length (wcells d.ws)
  wws : m.waiting = d.ws.map fun p => (p.1, p.2.1)
  wrd : ∀ p ∈ d.ws, RdB F w p.2.2 p.2.1
  mp : IMap w d.M d.es
  mpe : ∀ n : Nat, alook d.es n = (lastW d.ws n).map (·.2)
  mpk : ∀ q : Int, q < 0 → alook d.es q = none
  log : OwnB w 0 5 d.lv m.log
  mark : RdB F w d.mv m.mark
  tail : RdB F w d.tl m.tail
  torn : TornV F w d.tv m.torn
  elt : ∀ k, d.E k → k < w.heap.size
  eown : ∀ k, d.E k → ¬ dfoot D d k

def DiskAt (w : World) (D : Nat) (E F : Foot) (m : DM) : Prop := ∃ d : DV, F = dfoot D d ∧ d.E = E ∧ DRep w D (dfootE D d) m d ∧ m.Wf

section
variable {w w' : World} {D : Nat} {E F F' : Foot} {m : DM} {d : DV}

theorem PgV.keep {v : Value} {b : Bytes} (h : PgV F w v b) (hk : ∀ k, k < w.heap.size → ¬ F k → w'.heap[k]? = w.heap[k]?) (hF : ∀ k, k < w.heap.size → F' k → F k) : PgV F' w' v b := h.imp id (fun h => RdV.keep h hk hF)

theorem TornV.keep {v : Value} {t : Option (Nat × Bytes)} (h : TornV F w v t) (hk : ∀ k, k < w.heap.size → ¬ F k → w'.heap[k]? = w.heap[k]?) (hF : ∀ k, k < w.heap.size → F' k → F k) : TornV F' w' v t := by
  cases t with
  | none => exact h
  | some p =>
    obtain ⟨t, sv, hv, ht, hh, hr⟩ := h
    have hlt := (Array.getElem?_eq_some_iff.1 hh).1
    exact ⟨t, sv, hv, fun h' => ht (hF t hlt h'), (hk t hlt ht).trans hh, RdV.keep hr hk hF⟩

theorem ownsRow_keep {base : Nat} {e : TypeId} {size n : Nat} {v : Value} {xs : List Value} (h : w.ownsRow base e size v n xs) (hk : ∀ k, v.ownBlock = some k → w'.heap[k]? = w.heap[k]?) : w'.ownsRow base e size v n xs := by
  refine ⟨h.1, ?_⟩
  rcases h.2 with hn | ⟨g, cap, cur, rfl, hbg, hg, rest⟩
  · exact .inl hn
  · exact .inr ⟨g, cap, cur, rfl, hbg, by rw [hk g rfl]; exact hg, rest⟩

theorem ownsRow_blk {base : Nat} {e : TypeId} {size n k : Nat} {v : Value} {xs : List Value} (h : w.ownsRow base e size v n xs) (hk : v.ownBlock = some k) : ∃ cur, w.heap[k]? = some (.cells cur e (0, 0)) := by
  rcases h.2 with ⟨rfl, _⟩ | ⟨g, cap, cur, rfl, hbg, hg, rest⟩
  · simp [Value.ownBlock] at hk
  · simp only [Value.ownBlock, Option.some.injEq] at hk
    subst hk
    exact ⟨cur, hg⟩

theorem blk_ne {k k' : Nat} {c c' : Array Value} {e e' : TypeId} {fr fr' : Nat × Nat} (h : w.heap[k]? = some (.cells c e fr)) (h' : w.heap[k']? = some (.cells c' e' fr')) (hne : e ≠ e') : k ≠ k' := by
  rintro rfl
  rw [h] at h'
  injection h' with h'
  injection h' with _ h' _
  exact hne h'

theorem blk_ne_map {k k' : Nat} {c : Array Value} {e : TypeId} {fr : Nat × Nat} {es : List (Int × Value)} (h : w.heap[k]? = some (.cells c e fr)) (h' : IMap w k' es) : k ≠ k' := by
  rintro rfl
  obtain ⟨l, cl, h1, h2⟩ := h'
  have h3 := h1.2.2.2
  rw [h] at h3
  cases h3

theorem DRep.D_lt (h : DRep w D F m d) : D < w.heap.size := (Array.getElem?_eq_some_iff.1 h.blk).1
theorem DRep.neP (h : DRep w D F m d) : D ≠ d.P := blk_ne h.blk h.pgs (by decide)
theorem DRep.neM (h : DRep w D F m d) : D ≠ d.M := blk_ne_map h.blk h.mp
theorem DRep.neW (h : DRep w D F m d) : d.wv.ownBlock ≠ some D := fun e => by obtain ⟨c, hc⟩ := ownsRow_blk h.wrow e; exact blk_ne h.blk hc (by decide) rfl
theorem DRep.neL (h : DRep w D F m d) : d.lv.ownBlock ≠ some D := fun e => by obtain ⟨c, hc⟩ := ownsRow_blk h.log e; exact blk_ne h.blk hc (by decide) rfl
theorem DRep.nePM (h : DRep w D F m d) : d.P ≠ d.M := blk_ne_map h.pgs h.mp
theorem DRep.nePW (h : DRep w D F m d) : d.wv.ownBlock ≠ some d.P := fun e => by obtain ⟨c, hc⟩ := ownsRow_blk h.wrow e; exact blk_ne h.pgs hc (by decide) rfl
theorem DRep.nePL (h : DRep w D F m d) : d.lv.ownBlock ≠ some d.P := fun e => by obtain ⟨c, hc⟩ := ownsRow_blk h.log e; exact blk_ne h.pgs hc (by decide) rfl
theorem DRep.neMW (h : DRep w D F m d) : d.wv.ownBlock ≠ some d.M := fun e => by obtain ⟨c, hc⟩ := ownsRow_blk h.wrow e; exact blk_ne_map hc h.mp rfl
theorem DRep.neML (h : DRep w D F m d) : d.lv.ownBlock ≠ some d.M := fun e => by obtain ⟨c, hc⟩ := ownsRow_blk h.log e; exact blk_ne_map hc h.mp rfl
theorem DRep.neWL (h : DRep w D F m d) (k : Nat) (h1 : d.wv.ownBlock = some k) (h2 : d.lv.ownBlock = some k) : False := by
  obtain ⟨c, hc⟩ := ownsRow_blk h.wrow h1
  obtain ⟨c', hc'⟩ := ownsRow_blk h.log h2
  exact blk_ne hc hc' (by decide) rfl

theorem DiskAt.foot_lt (h : DiskAt w D E F m) (k : Nat) (hk : F k) : k < w.heap.size := by
  obtain ⟨d, rfl, rfl, h, hwf⟩ := h
  rcases hk with rfl | rfl | rfl | hk | hk
  · exact h.D_lt
  · exact (Array.getElem?_eq_some_iff.1 h.pgs).1
  · exact h.mp.lt
  · exact (h.wrow.lt k hk).2
  · exact (h.log.lt k hk).2

theorem DRep.foot_lt (h : DRep w D (dfootE D d) m d) (k : Nat) (hk : dfootE D d k) : k < w.heap.size := by
  rcases hk with (rfl | rfl | rfl | hk | hk) | hk
  · exact h.D_lt
  · exact (Array.getElem?_eq_some_iff.1 h.pgs).1
  · exact h.mp.lt
  · exact (h.wrow.lt k hk).2
  · exact (h.log.lt k hk).2
  · exact h.elt k hk

theorem lt_of_same {w w' : World} {k : Nat} (h : k < w.heap.size) (he : w'.heap[k]? = w.heap[k]?) : k < w'.heap.size := by
  rw [Array.getElem?_eq_getElem h] at he
  exact (Array.getElem?_eq_some_iff.1 he).1

/-- what turns nothing of the device's, and no block that it reads, leaves it -/
theorem DRep.keep (h : DRep w D (dfootE D d) m d) (hk : ∀ k, k < w.heap.size → w'.heap[k]? = w.heap[k]?) : DRep w' D (dfootE D d) m d := by
  have kp : ∀ k, dfoot D d k → w'.heap[k]? = w.heap[k]? := fun k h' => hk k (h.foot_lt k (.inl h'))
  have ko : ∀ k, k < w.heap.size → ¬ dfootE D d k → w'.heap[k]? = w.heap[k]? := fun k h1 _ => hk k h1
  exact ⟨(kp D (.inl rfl)).trans h.blk, (kp _ (.inr (.inl rfl))).trans h.pgs, h.pgn, fun i hi => by
      obtain ⟨v, h1, h2⟩ := h.pgv i hi
      exact ⟨v, h1, h2.keep ko (fun _ _ h => h)⟩,
    ownsRow_keep h.wrow (fun k h' => kp k (.inr (.inr (.inr (.inl h'))))), h.wws, fun p hp => RdV.keep (h.wrd p hp) ko (fun _ _ h => h), h.mp.keep (kp _ (.inr (.inr (.inl rfl)))), h.mpe, h.mpk,
    ownsRow_keep h.log (fun k h' => kp k (.inr (.inr (.inr (.inr h'))))), RdV.keep h.mark ko (fun _ _ h => h), RdV.keep h.tail ko (fun _ _ h => h), h.torn.keep ko (fun _ _ h => h),
    fun k hE => lt_of_same (h.elt k hE) (hk k (h.elt k hE)), h.eown⟩

theorem DRep.below (h : DRep w D (dfootE D d) m d) (hb : Below w.heap.size w w') : DRep w' D (dfootE D d) m d := h.keep hb.block
theorem DRep.alloc (h : DRep w D (dfootE D d) m d) (o : Obj) : DRep (w.alloc o) D (dfootE D d) m d := h.below ((Below.refl _ _).alloc (Nat.le_refl _) o)

theorem DiskAt.keep (h : DiskAt w D E F m) (hk : ∀ k, k < w.heap.size → w'.heap[k]? = w.heap[k]?) : DiskAt w' D E F m := by
  obtain ⟨d, rfl, rfl, h, hwf⟩ := h
  exact ⟨d, rfl, rfl, h.keep hk, hwf⟩

theorem DiskAt.wf (h : DiskAt w D E F m) : m.Wf := by
  obtain ⟨d, rfl, rfl, h, hwf⟩ := h
  exact hwf

theorem DiskAt.below (h : DiskAt w D E F m) (hb : Below w.heap.size w w') : DiskAt w' D E F m := h.keep hb.block

/-- the numbers and the mark alone have turned -/
theorem DRep.scal {m' : DM} (h : DRep w D (dfootE D d) m d) (hsame : ∀ k, k < w.heap.size → k ≠ D → w'.heap[k]? = w.heap[k]?)
    (hblk : w'.heap[D]? = some (.cells (dcells m' m'.base.length d) 95 (0, 0))) (hb : m'.base = m.base) (hw : m'.waiting = m.waiting) (hl : m'.log = m.log) (hm : m'.mark = m.mark) (ht : m'.torn = m.torn) (htl : m'.tail = m.tail) :
    DRep w' D (dfootE D d) m' d := by
  have ko : ∀ k, k < w.heap.size → ¬ dfootE D d k → w'.heap[k]? = w.heap[k]? := fun k h1 h2 => hsame k h1 (fun e => h2 (.inl (.inl e)))
  refine ⟨hblk, (hsame _ (Array.getElem?_eq_some_iff.1 h.pgs).1 (Ne.symm h.neP)).trans h.pgs, by rw [hb]; exact h.pgn, fun i hi => ?_, ownsRow_keep h.wrow (fun k h' => hsame k (h.wrow.lt k h').2 (fun e => h.neW (e ▸ h'))), by rw [hw]; exact h.wws,
    fun p hp => RdV.keep (h.wrd p hp) ko (fun _ _ h => h), h.mp.keep (hsame _ h.mp.lt (Ne.symm h.neM)), h.mpe, h.mpk, by rw [hl]; exact ownsRow_keep h.log (fun k h' => hsame k (h.log.lt k h').2 (fun e => h.neL (e ▸ h'))),
    by rw [hm]; exact RdV.keep h.mark ko (fun _ _ h => h), by rw [htl]; exact RdV.keep h.tail ko (fun _ _ h => h), by rw [ht]; exact h.torn.keep ko (fun _ _ h => h),
    fun k hE => lt_of_same (h.elt k hE) (hsame k (h.elt k hE) (fun e => h.eown k hE (.inl e))), h.eown⟩
  obtain ⟨v, h1, h2⟩ := h.pgv i (by rw [hb] at hi; exact hi)
  refine ⟨v, h1, ?_⟩
  have : m'.base[i] = m.base[i]'(by rw [hb] at hi; exact hi) := by congr 1
  rw [this]
  exact h2.keep ko (fun _ _ h => h)

theorem rdE_chg {d d' : DV} {size n : Nat} {v : Value} {xs : List Value} (h : RdV (dfootE D d) w size v n xs) (hc : Chg (dfoot D d) (dfoot D d') w w') (hE : d'.E = d.E := by rfl) : RdV (dfootE D d') w' size v n xs :=
  h.keep (fun k h1 h2 => hc.block k h1 (fun e => h2 (.inl e))) (fun k h1 h2 => by
    rcases h2 with h2 | h2
    · rcases hc.foot k h2 with h3 | h3
      · exact .inl h3
      · omega
    · exact .inr (hE ▸ h2))

/-- what turns blocks of E alone leaves the device -/
theorem DiskAt.frame (h : DiskAt w D E F m) {E' : Foot} (hk : ∀ k, k < w.heap.size → ¬ E k → w'.heap[k]? = w.heap[k]?) (hs : w.heap.size ≤ w'.heap.size) (hE : ∀ k, E' k → E k ∨ (w.heap.size ≤ k ∧ k < w'.heap.size)) : DiskAt w' D E' F m := by
  obtain ⟨d, rfl, rfl, h, hwf⟩ := h
  have kp : ∀ k, dfoot D d k → w'.heap[k]? = w.heap[k]? := fun k h' => hk k (h.foot_lt k (.inl h')) (fun e => h.eown k e h')
  have ko : ∀ k, k < w.heap.size → ¬ dfootE D d k → w'.heap[k]? = w.heap[k]? := fun k h1 h2 => hk k h1 (fun e => h2 (.inr e))
  have kF : ∀ k, k < w.heap.size → dfootE D { d with E := E' } k → dfootE D d k := fun k h1 h2 => by
    rcases h2 with h2 | h2
    · exact .inl h2
    · rcases hE k h2 with h3 | h3
      · exact .inr h3
      · omega
  refine ⟨{ d with E := E' }, rfl, rfl, ?_, hwf⟩
  refine ⟨(kp D (.inl rfl)).trans h.blk, (kp _ (.inr (.inl rfl))).trans h.pgs, h.pgn, fun i hi => by
      obtain ⟨v, h1, h2⟩ := h.pgv i hi
      exact ⟨v, h1, h2.keep ko kF⟩,
    ownsRow_keep h.wrow (fun k h' => kp k (.inr (.inr (.inr (.inl h'))))), h.wws, fun p hp => RdV.keep (h.wrd p hp) ko kF, h.mp.keep (kp _ (.inr (.inr (.inl rfl)))), h.mpe, h.mpk,
    ownsRow_keep h.log (fun k h' => kp k (.inr (.inr (.inr (.inr h'))))), RdV.keep h.mark ko kF, RdV.keep h.tail ko kF, h.torn.keep ko kF, fun k hk' => ?_, fun k hk' hd => ?_⟩
  · rcases hE k hk' with h3 | h3
    · have := h.elt k h3; omega
    · exact h3.2
  · rcases hE k hk' with h3 | h3
    · exact h.eown k h3 hd
    · have := h.foot_lt k (.inl hd); omega

/-- E grows by blocks that are none of the device's, and that it does not read: new ones -/
theorem DiskAt.chgE (h : DiskAt w D E F m) {E' : Foot} (hc : Chg E E' w w') : DiskAt w' D E' F m :=
  h.frame hc.block hc.size (fun k hk => hc.foot k hk)
theorem DiskAt.sub (h : DiskAt w D E F m) {E' : Foot} (hE : ∀ k, E' k → E k) : DiskAt w D E' F m :=
  h.frame (fun _ _ _ => rfl) (Nat.le_refl _) (fun k hk => .inl (hE k hk))
theorem DiskAt.grow (h : DiskAt w D E F m) {E' : Foot} (hb : Below w.heap.size w w') (hE : ∀ k, E' k → E k ∨ (w.heap.size ≤ k ∧ k < w'.heap.size)) : DiskAt w' D E' F m :=
  h.frame (fun k hk _ => hb.block k hk) hb.size hE
theorem DiskAt.apart (h : DiskAt w D E F m) (k : Nat) (hE : E k) : ¬ F k := by
  obtain ⟨d, rfl, rfl, h, hwf⟩ := h
  exact h.eown k hE
theorem DiskAt.E_lt (h : DiskAt w D E F m) (k : Nat) (hE : E k) : k < w.heap.size := by
  obtain ⟨d, rfl, rfl, h, hwf⟩ := h
  exact h.elt k hE

/-- the cells of a device's block -/
theorem DRep.cell (h : DRep w D F m d) (i : Nat) : w.cell? ⟨D, i, none⟩ = (dcells m m.base.length d)[i]? := cell_of_row w D i _ _ _ h.blk
theorem DRep.frozen (h : DRep w D F m d) (i : Nat) : w.frozen? ⟨D, i, none⟩ = false := by simp [World.frozen?, h.blk]

end
end Mun
end

section
/- Contracts of a device's methods: those that read, and those that turn its numbers alone. -/
set_option maxRecDepth 100000
set_option linter.unusedVariables false
namespace Mun
open Go Go.RowKit
open Go.Proofs

theorem clone6 {F : Foot} (w : World) (v : Value) (l : List UInt8) (hv : RdB F w v l) (hl : l.length ≤ 140737488355328) :
    Calls Tryz.prog 51 #[v] w fun e w' => e = .returned (.slice (some ⟨w.heap.size, 0, none⟩) l.length l.length) ∧ w.alloc (bobj l) = w' := by
  obtain ⟨a, n, c, rfl, HN, hlc, hcm⟩ := hv.formN
  have hmk := make_bytes0 l.length hl
  have hcp := copied_bytes (ty := 41) hv hl
  rw [← HN.out] at hmk hcp ⊢
  have HR := Lib.hid hcp
  clear hcp hv
  go_enter Tryz.func51, Tryz.ntmps51
  go_wp2_with (at_builtin; refine wpList_append_eq rfl rfl HR.out rfl rfl ?_; clear HR)
  go_ret
  exact ⟨rfl, rfl⟩

section
variable (w : World) (D : Nat) (F : Foot) {E : Foot} (m : DM)

theorem d_pages (h : DiskAt w D E F m) : Calls Tryz.prog 41 #[.pointer (some ⟨D, 0, none⟩)] w fun e w' => e = .returned (.int .i64 m.base.length) ∧ w = w' := by
  obtain ⟨d, rfl, rfl, h, hwf⟩ := h
  have c1 := h.cell 1
  simp only [dcells] at c1
  clear h
  go_enter Tryz.func41, Tryz.ntmps41
  go_wp2
  go_ret
  exact ⟨rfl, rfl⟩

theorem d_certain (h : DiskAt w D E F m) : Calls Tryz.prog 72 #[.pointer (some ⟨D, 0, none⟩)] w fun e w' => e = .returned (.int .i64 m.certain) ∧ w = w' := by
  obtain ⟨d, rfl, rfl, h, hwf⟩ := h
  have c1 := h.cell 5
  simp only [dcells] at c1
  clear h
  go_enter Tryz.func72, Tryz.ntmps72
  go_wp2
  go_ret
  exact ⟨rfl, rfl⟩

theorem d_dead (h : DiskAt w D E F m) : Calls Tryz.prog 14 #[.pointer (some ⟨D, 0, none⟩)] w fun e w' => e = .returned (.bool m.dead) ∧ w = w' := by
  obtain ⟨d, rfl, rfl, h, hwf⟩ := h
  have c1 := h.cell 9
  simp only [dcells] at c1
  clear h
  go_enter Tryz.func14, Tryz.ntmps14
  go_wp2
  go_ret
  exact ⟨rfl, rfl⟩

/-- is n a page? -/
def hasB (k : Nat) (n : Int) : Bool := decide (0 ≤ n ∧ n < k)

theorem d_has (h : DiskAt w D E F m) (n : Int) : Calls Tryz.prog 52 #[.pointer (some ⟨D, 0, none⟩), .int .i64 n] w fun e w' => e = .returned (.bool (hasB m.base.length n)) ∧ w = w' := by
  obtain ⟨d, rfl, rfl, h, hwf⟩ := h
  have c1 := h.cell 1
  simp only [dcells] at c1
  clear h
  generalize m.base.length = k at c1
  by_cases h0 : 0 ≤ n
  · by_cases h1 : n < k
    · have H : Hid (hasB k n = true) := by show _ = _; exact decide_eq_true ⟨h0, h1⟩
      go_enter Tryz.func52, Tryz.ntmps52
      go_wp2
      go_ret
      exact ⟨congrArg (fun b => Ending.returned (.bool b)) H.out.symm, rfl⟩
    · have H : Hid (hasB k n = false) := by show _ = _; exact decide_eq_false (fun h => h1 h.2)
      go_enter Tryz.func52, Tryz.ntmps52
      go_wp2
      go_ret
      exact ⟨congrArg (fun b => Ending.returned (.bool b)) H.out.symm, rfl⟩
  · have H : Hid (hasB k n = false) := by show _ = _; exact decide_eq_false (fun h => h0 h.1)
    go_enter Tryz.func52, Tryz.ntmps52
    go_wp2
    go_ret
    exact ⟨congrArg (fun b => Ending.returned (.bool b)) H.out.symm, rfl⟩

theorem setCell_heap (w : World) (a : Addr) (v : Value) (k : Nat) (h : k ≠ a.block) : (w.setCell a v).heap[k]? = w.heap[k]? := Below.heap_setCell w a v k h

theorem setCell_blk {w : World} {D i : Nat} {c : Array Value} {e : TypeId} (h : w.heap[D]? = some (.cells c e (0, 0))) (v : Value) : (w.setCell ⟨D, i, none⟩ v).heap[D]? = some (.cells (c.setIfInBounds i v) e (0, 0)) := by
  simp [World.setCell, Array.getElem?_modify, h]

theorem setCell_size (w : World) (a : Addr) (v : Value) : (w.setCell a v).heap.size = w.heap.size := by simp [World.setCell]

theorem chg_setCell {F : Foot} (w : World) (a : Addr) (v : Value) (hF : F a.block) : Chg F F w (w.setCell a v) :=
  ⟨rfl, rfl, rfl, by rw [setCell_size]; exact Nat.le_refl _, fun k _ hn => setCell_heap w a v k (fun e => hn (e ▸ hF)), fun _ h => .inl h⟩

theorem DRep.set1 {w : World} {D : Nat} {m : DM} {d : DV} (h : DRep w D (dfootE D d) m d) (i : Nat) (v : Value) (m' : DM) (hc : (dcells m m.base.length d).setIfInBounds i v = dcells m' m.base.length d)
    (hb : m'.base = m.base) (hw : m'.waiting = m.waiting) (hl : m'.log = m.log) (hm : m'.mark = m.mark) (ht : m'.torn = m.torn) (htl : m'.tail = m.tail) : DRep (w.setCell ⟨D, i, none⟩ v) D (dfootE D d) m' d :=
  h.scal (fun k _ hk => setCell_heap w _ v k hk) (by rw [setCell_blk h.blk, hc, hb]) hb hw hl hm ht htl

theorem DRep.set2 {w : World} {D : Nat} {m : DM} {d : DV} (h : DRep w D (dfootE D d) m d) (i j : Nat) (v u : Value) (m' : DM) (hc : ((dcells m m.base.length d).setIfInBounds i v).setIfInBounds j u = dcells m' m.base.length d)
    (hb : m'.base = m.base) (hw : m'.waiting = m.waiting) (hl : m'.log = m.log) (hm : m'.mark = m.mark) (ht : m'.torn = m.torn) (htl : m'.tail = m.tail) : DRep ((w.setCell ⟨D, i, none⟩ v).setCell ⟨D, j, none⟩ u) D (dfootE D d) m' d :=
  h.scal (fun k _ hk => (setCell_heap _ _ u k hk).trans (setCell_heap w _ v k hk)) (by rw [setCell_blk (setCell_blk h.blk v), hc, hb]) hb hw hl hm ht htl

theorem d_fuse (h : DiskAt w D E F m) (n : Int) (h1 : -9223372036854775808 ≤ n) (h2 : n ≤ 9223372036854775807) : Calls Tryz.prog 13 #[.pointer (some ⟨D, 0, none⟩), .int .i64 n] w fun e w' => e = .returned (.tuple #[]) ∧ DiskAt w' D E F (m.setFuse n) ∧ Chg F F w w' := by
  obtain ⟨d, rfl, rfl, h, hwf⟩ := h
  have c1 := h.cell 7
  have f1 := h.frozen 7
  simp only [dcells] at c1
  have HD := Lib.hid h
  clear h
  go_enter Tryz.func13, Tryz.ntmps13
  go_wp2
  · go_end0
    refine ⟨rfl, ⟨d, rfl, rfl, HD.out.set1 7 _ _ ?_ rfl rfl rfl rfl rfl rfl, DM.setFuse_wf hwf n h2⟩, chg_setCell _ _ _ (.inl rfl)⟩
    have e : max (-1) n = n := by omega
    simp [dcells, DM.setFuse, e]
  · go_end0
    refine ⟨rfl, ⟨d, rfl, rfl, HD.out.set1 7 _ _ ?_ rfl rfl rfl rfl rfl rfl, DM.setFuse_wf hwf n h2⟩, chg_setCell _ _ _ (.inl rfl)⟩
    have e : max (-1) n = -1 := by omega
    simp [dcells, DM.setFuse, e]

theorem fuse_cases (m : DM) (h : m.Wf) : m.fuse = 0 ∨ 0 < m.fuse ∨ m.fuse < 0 := by omega

/-- counts: with the device's parts at hand -/
theorem d_counts_rep (d : DV) (h : DRep w D (dfootE D d) m d) (hwf : m.Wf) (ho : m.ops < 4398046511104) : Calls Tryz.prog 86 #[.pointer (some ⟨D, 0, none⟩)] w fun e w' => e = .returned (.bool (decide (m.fuse ≠ 0))) ∧ DRep w' D (dfootE D d) m.spend d ∧ Chg (dfoot D d) (dfoot D d) w w' := by
  have c7 := h.cell 7
  have c8 := h.cell 8
  have c9 := h.cell 9
  have f7 := h.frozen 7
  have f8 := h.frozen 8
  have f9 := h.frozen 9
  simp only [dcells] at c7 c8 c9
  have HD := Lib.hid h
  have hf1 := hwf.fuse1
  have hf2 := hwf.fuse2
  have ho' : (m.ops : Int) < 4398046511104 := by omega
  clear h
  obtain ⟨f, hf⟩ : ∃ f, m.fuse = f := ⟨_, rfl⟩
  have HF := Lib.hid hf
  rw [hf] at c7 hf1 hf2 ⊢
  obtain ⟨o, ho2⟩ : ∃ o, m.ops = o := ⟨_, rfl⟩
  have HO := Lib.hid ho2
  rw [ho2] at c8 ho'
  clear hf ho2 ho
  have HF2 := Lib.hid hf2
  rcases (by omega : f = 0 ∨ 0 < f ∨ f < 0) with h0 | h0 | h0
  · subst h0
    have HS : Hid (m.spend = { m with dead := true }) := by show _ = _; unfold DM.spend; rw [if_pos HF.out]
    go_enter Tryz.func86, Tryz.ntmps86
    go_wp2
    go_ret
    refine ⟨rfl, ?_, chg_setCell _ _ _ (.inl rfl)⟩
    rw [HS.out]
    refine HD.out.set1 9 _ _ ?_ rfl rfl rfl rfl rfl rfl
    simp [dcells]
  · have hne : (f == 0) = false := by simp; omega
    have HS : Hid (m.spend = { m with fuse := f - 1, ops := o + 1 }) := by
      show _ = _
      unfold DM.spend
      rw [if_neg (by rw [HF.out]; omega), if_pos (by rw [HF.out]; exact h0), HF.out, HO.out]
    go_enter Tryz.func86, Tryz.ntmps86
    go_wp2
    go_ret
    refine ⟨?_, ?_, (chg_setCell _ _ _ (.inl rfl)).trans (chg_setCell _ _ _ (.inl rfl))⟩
    · have : ¬ f = 0 := by omega
      simp [this]
    · rw [HS.out]
      refine HD.out.set2 7 8 _ _ _ ?_ rfl rfl rfl rfl rfl rfl
      simp [dcells]
  · have hf3 : f = -1 := by omega
    subst hf3
    clear hf1 hf2 h0
    have HS : Hid (m.spend = { m with fuse := -1, ops := o + 1 }) := by
      show _ = _
      unfold DM.spend
      rw [if_neg (by rw [HF.out]; omega), if_neg (by rw [HF.out]; omega), HF.out, HO.out]
    go_enter Tryz.func86, Tryz.ntmps86
    go_wp2
    go_ret
    refine ⟨rfl, ?_, chg_setCell _ _ _ (.inl rfl)⟩
    rw [HS.out]
    refine HD.out.set1 8 _ _ ?_ rfl rfl rfl rfl rfl rfl
    simp [dcells, HF.out]
end
end Mun
end

section
/- Contracts of a device: a new one; what reads bytes. -/
set_option maxRecDepth 100000
set_option linter.unusedVariables false
namespace Mun
open Go Go.RowKit
open Go.Proofs

theorem info_bs : (Tryz.prog.info? 41).map (fun i => (i.zero, i.size, i.bytes)) = some (some (.slice none 0 0), 1, 24) := by kernel_rfl

theorem madeCells_one (z : Value) (n : Nat) : madeCells #[z] n = (List.replicate n z).toArray := by
  apply Array.ext
  · simp [madeCells]
  · intro i h1 h2
    simp [madeCells, Nat.mod_one]

theorem make_slots (n : Nat) (hn : n ≤ 65536) (w : World) :
    (Instr.makeSlice 33 (.int .i64 n) (.int .i64 n)).run Tryz.prog w = .ok (.slice (some ⟨w.heap.size, 0, none⟩) n n) (w.alloc (.cells (List.replicate n (Value.slice none 0 0)).toArray 41)) := by
  obtain ⟨i, hi, hz, h1, h2⟩ := info_of info_bs
  have hr := run_make (P := Tryz.prog) w _ _ i _ Tryz.underlying33 hi hz .i64 .i64 n n (by omega) (by omega) (by rw [h2]; omega) (by omega)
  rw [hr, h1]
  simp only [Int.toNat_natCast, Nat.mul_one]
  rw [show (Value.slice none 0 0).cells = #[Value.slice none 0 0] from rfl, madeCells_one]

theorem alloc_get (w : World) (o : Obj) (k : Nat) (h : k < w.heap.size) : (w.alloc o).heap[k]? = w.heap[k]? := by
  simp only [World.alloc, Array.getElem?_push, Nat.ne_of_lt h, if_false]

/-- what New lays -/
def newWorld (w : World) (pages room : Nat) : World :=
  ((w.alloc (.cells (List.replicate pages (Value.slice none 0 0)).toArray 41)).alloc (.map #[] 0)).alloc
    (.cells #[.int .i64 room, .slice (some ⟨w.heap.size, 0, none⟩) pages pages, .slice none 0 0, .map (some (w.heap.size + 1)), .slice none 0 0, .int .i64 (0 : Nat), .slice none 0 0, .int .i64 (-1), .int .i64 (0 : Nat), .bool false, .pointer none, .slice none 0 0] 95)

def newFoot (w : World) : Foot := fun k => k = w.heap.size + 2 ∨ k = w.heap.size ∨ k = w.heap.size + 1

def newDV (w : World) (pages : Nat) (E : Foot) : DV := ⟨w.heap.size, w.heap.size + 1, .slice none 0 0, .slice none 0 0, .slice none 0 0, .pointer none, .slice none 0 0, (List.replicate pages (Value.slice none 0 0)).toArray, [], [], E⟩

theorem new_rep (w : World) (pages room : Nat) (E : Foot) (hE : ∀ k, E k → k < w.heap.size) : DRep (newWorld w pages room) (w.heap.size + 2) (dfootE (w.heap.size + 2) (newDV w pages E)) (DM.new pages room) (newDV w pages E) := by
  have hP : (newWorld w pages room).heap[w.heap.size]? = some (.cells (List.replicate pages (Value.slice none 0 0)).toArray 41 (0, 0)) := by
    unfold newWorld
    rw [alloc_get _ _ _ (by simp only [World.size_alloc]; omega), alloc_get _ _ _ (by simp only [World.size_alloc]; omega)]
    exact heap_alloc_new w _
  have hM : (newWorld w pages room).heap[w.heap.size + 1]? = some (.map #[] 0) := by
    unfold newWorld
    rw [alloc_get _ _ _ (by simp only [World.size_alloc]; omega)]
    have := heap_alloc_new (w.alloc (.cells (List.replicate pages (Value.slice none 0 0)).toArray 41)) (.map #[] 0)
    rwa [World.size_alloc] at this
  have hD : (newWorld w pages room).heap[w.heap.size + 2]? = some (.cells #[.int .i64 room, .slice (some ⟨w.heap.size, 0, none⟩) pages pages, .slice none 0 0, .map (some (w.heap.size + 1)), .slice none 0 0, .int .i64 (0 : Nat), .slice none 0 0, .int .i64 (-1), .int .i64 (0 : Nat), .bool false, .pointer none, .slice none 0 0] 95 (0, 0)) := by
    have := heap_alloc_new ((w.alloc (.cells (List.replicate pages (Value.slice none 0 0)).toArray 41)).alloc (.map #[] 0)) (.cells #[.int .i64 room, .slice (some ⟨w.heap.size, 0, none⟩) pages pages, .slice none 0 0, .map (some (w.heap.size + 1)), .slice none 0 0, .int .i64 (0 : Nat), .slice none 0 0, .int .i64 (-1), .int .i64 (0 : Nat), .bool false, .pointer none, .slice none 0 0] 95)
    rw [World.size_alloc, World.size_alloc] at this
    exact this
  refine ⟨?_, hP, by simp [DM.new, newDV], ?_, World.ownsRow_nil _ _ _ _, rfl, fun p hp => by simp [newDV] at hp, ⟨[], 0, ⟨by simp, by simp, by simp, hM⟩, rfl⟩, fun n => rfl, fun q _ => rfl, World.ownsRow_nil _ _ _ _, RdB.nil _ _, RdB.nil _ _, rfl, fun k hk => ?_, fun k hk hd => ?_⟩
  · rw [hD]
    simp [dcells, DM.new, newDV]
  · intro i hi
    have hi' : i < pages := by simpa [DM.new] using hi
    refine ⟨.slice none 0 0, by simp [newDV, hi'], .inl ⟨rfl, ?_⟩⟩
    simp [DM.new]
  · have := hE k hk
    unfold newWorld
    simp only [World.size_alloc]
    omega
  · have := hE k hk
    rcases hd with h | h | h | h | h
    · omega
    · have : k = w.heap.size := h
      omega
    · have : k = w.heap.size + 1 := h
      omega
    · simp [newDV, Value.ownBlock] at h
    · simp [newDV, Value.ownBlock] at h

theorem new_disk (w : World) (pages room : Nat) {E : Foot} (hE : ∀ k, E k → k < w.heap.size) (h1 : pages ≤ 65536) (h2 : room ≤ 16777216) : DiskAt (newWorld w pages room) (w.heap.size + 2) E (newFoot w) (DM.new pages room) := by
  have e : newFoot w = dfoot (w.heap.size + 2) (newDV w pages E) := by
    funext k
    simp [newFoot, dfoot, Value.ownBlock, newDV]
  rw [e]
  exact ⟨newDV w pages E, rfl, rfl, new_rep w pages room E hE, DM.new_wf _ _ h1 h2⟩

theorem d_fresh (w : World) (pages room : Nat) (h1 : pages ≤ 65536) (h2 : room ≤ 16777216) : Calls Tryz.prog 49 #[.int .i64 pages, .int .i64 room] w fun e w' => e = .returned (.pointer (some ⟨w.heap.size + 2, 0, none⟩)) ∧ newWorld w pages room = w' := by
  have hmm := @run_makeMap Tryz.prog
  have hms := make_slots pages h1 w
  clear h1 h2
  go_enter Tryz.func49, Tryz.ntmps49
  go_wp2
  go_ret
  exact ⟨rfl, rfl⟩

theorem d_new (w : World) (pages room : Nat) (h0 : 1 ≤ pages) (h1 : pages ≤ 65536) (h2 : room ≤ 16777216) : Calls Tryz.prog 30 #[.int .i64 pages, .int .i64 room] w fun e w' => e = .returned (.tuple #[.pointer (some ⟨w.heap.size + 2, 0, none⟩), .int .i64 0]) ∧ newWorld w pages room = w' := by
  have hf := d_fresh w pages room h1 h2
  have t1 : (1 : Int) ≤ (pages : Int) := by omega
  have t2 : (pages : Int) ≤ 65536 := by omega
  have t3 : (room : Int) ≤ 16777216 := by omega
  have t4 : (0 : Int) ≤ (room : Int) := by omega
  clear h0 h1 h2
  go_enter Tryz.func30, Tryz.ntmps30
  go_wp2_with fail
  refine hf.mono ?_
  rintro e w' ⟨rfl, rfl⟩
  go_wp2
  go_ret2
  exact ⟨rfl, rfl⟩

theorem d_new_no (w : World) (pages room : Int) (h : ¬ (1 ≤ pages ∧ pages ≤ 65536 ∧ 0 ≤ room ∧ room ≤ 16777216)) : Calls Tryz.prog 30 #[.int .i64 pages, .int .i64 room] w fun e w' => e = .returned (.tuple #[.pointer none, .int .i64 1]) ∧ w = w' := by
  by_cases t1 : pages < 1
  · clear h
    go_enter Tryz.func30, Tryz.ntmps30
    go_wp2
    go_ret2
    exact ⟨rfl, rfl⟩
  · by_cases t2 : pages > 65536
    · clear h
      go_enter Tryz.func30, Tryz.ntmps30
      go_wp2
      go_ret2
      exact ⟨rfl, rfl⟩
    · by_cases t3 : room < 0
      · clear h
        go_enter Tryz.func30, Tryz.ntmps30
        go_wp2
        go_ret2
        exact ⟨rfl, rfl⟩
      · have t4 : room > 16777216 := by omega
        clear h
        go_enter Tryz.func30, Tryz.ntmps30
        go_wp2
        go_ret2
        exact ⟨rfl, rfl⟩

section
variable (w : World) (D : Nat) (F : Foot) {E : Foot} (m : DM)

theorem d_log_no (h : DiskAt w D E F m) (hd : m.dead = true) : Calls Tryz.prog 68 #[.pointer (some ⟨D, 0, none⟩)] w fun e w' => e = .returned (.tuple #[.slice none 0 0, .int .i64 9]) ∧ w = w' := by
  obtain ⟨d, rfl, rfl, h, hwf⟩ := h
  have c9 := h.cell 9
  simp only [dcells, hd] at c9
  clear h hd
  go_enter Tryz.func68, Tryz.ntmps68
  go_wp2
  go_ret2
  exact ⟨rfl, rfl⟩

theorem d_log (h : DiskAt w D E F m) (hd : m.dead = false) : Calls Tryz.prog 68 #[.pointer (some ⟨D, 0, none⟩)] w fun e w' => e = .returned (.tuple #[.slice (some ⟨w.heap.size, 0, none⟩) m.log.length m.log.length, .int .i64 0]) ∧ w.alloc (bobj m.log) = w' := by
  obtain ⟨d, rfl, rfl, h, hwf⟩ := h
  have c9 := h.cell 9
  have c4 := h.cell 4
  simp only [dcells, hd] at c4 c9
  have hrd : RdB NoF w d.lv m.log := h.log.rd (fun _ _ => noF _)
  have hl : m.log.length ≤ 140737488355328 := by have := hwf.room; have := hwf.room24; omega
  have hc := clone6 w d.lv m.log hrd hl
  clear h hd hrd hl
  go_enter Tryz.func68, Tryz.ntmps68
  go_wp2_with fail
  refine hc.mono ?_
  rintro e w' ⟨rfl, rfl⟩
  go_wp2
  go_ret2
  exact ⟨rfl, rfl⟩

theorem d_marked_no (h : DiskAt w D E F m) (hd : m.dead = true) : Calls Tryz.prog 67 #[.pointer (some ⟨D, 0, none⟩)] w fun e w' => e = .returned (.tuple #[.slice none 0 0, .int .i64 9]) ∧ w = w' := by
  obtain ⟨d, rfl, rfl, h, hwf⟩ := h
  have c9 := h.cell 9
  simp only [dcells, hd] at c9
  clear h hd
  go_enter Tryz.func67, Tryz.ntmps67
  go_wp2
  go_ret2
  exact ⟨rfl, rfl⟩

theorem d_marked (h : DiskAt w D E F m) (hd : m.dead = false) : Calls Tryz.prog 67 #[.pointer (some ⟨D, 0, none⟩)] w fun e w' => e = .returned (.tuple #[.slice (some ⟨w.heap.size, 0, none⟩) m.mark.length m.mark.length, .int .i64 0]) ∧ w.alloc (bobj m.mark) = w' := by
  obtain ⟨d, rfl, rfl, h, hwf⟩ := h
  have c9 := h.cell 9
  have c4 := h.cell 6
  simp only [dcells, hd] at c4 c9
  have hl : m.mark.length ≤ 140737488355328 := by have := hwf.mark; omega
  have hc := clone6 w d.mv m.mark h.mark hl
  clear h hd hl
  go_enter Tryz.func67, Tryz.ntmps67
  go_wp2_with fail
  refine hc.mono ?_
  rintro e w' ⟨rfl, rfl⟩
  go_wp2
  go_ret2
  exact ⟨rfl, rfl⟩

theorem d_read_dead (h : DiskAt w D E F m) (hd : m.dead = true) (n : Int) : Calls Tryz.prog 18 #[.pointer (some ⟨D, 0, none⟩), .int .i64 n] w fun e w' => e = .returned (.tuple #[.slice none 0 0, .int .i64 9]) ∧ w = w' := by
  obtain ⟨d, rfl, rfl, h, hwf⟩ := h
  have c9 := h.cell 9
  simp only [dcells, hd] at c9
  clear h hd
  go_enter Tryz.func18, Tryz.ntmps18
  go_wp2
  go_ret2
  exact ⟨rfl, rfl⟩

theorem d_read_no (h : DiskAt w D E F m) (hd : m.dead = false) (n : Int) (hn : hasB m.base.length n = false) : Calls Tryz.prog 18 #[.pointer (some ⟨D, 0, none⟩), .int .i64 n] w fun e w' => e = .returned (.tuple #[.slice none 0 0, .int .i64 1]) ∧ w = w' := by
  have hh := d_has w D F m h n
  rw [hn] at hh
  obtain ⟨d, rfl, rfl, h, hwf⟩ := h
  have c9 := h.cell 9
  simp only [dcells, hd] at c9
  clear h hd hn
  go_enter Tryz.func18, Tryz.ntmps18
  go_wp2_with fail
  refine hh.mono ?_
  rintro e w' ⟨rfl, rfl⟩
  go_wp2
  go_ret2
  exact ⟨rfl, rfl⟩

theorem zero_bs : ∀ w, (zeroValue 41).run Tryz.prog w = .ok (.slice none 0 0) w := fun w => by kernel_rfl

/-- the page as it was written last: its value, nil where it never was -/
theorem DRep.pageV {w : World} {D : Nat} {F : Foot} {m : DM} {d : DV} (h : DRep w D F m d) (n : Nat) (hn : n < m.base.length) :
    ∃ v, d.pg[n]? = some v ∧ PgV F w (((alook d.es n)).getD v) (m.page n) := by
  obtain ⟨v, h1, h2⟩ := h.pgv n hn
  refine ⟨v, h1, ?_⟩
  have hl : lastW m.waiting n = (lastW d.ws n).map (·.1) := by
    rw [h.wws]
    exact lastW_map (fun p : Bytes × Value => p.1) d.ws n
  rw [h.mpe n, DM.page, hl]
  cases hw : lastW d.ws n with
  | none =>
    simp only [Option.map_none, Option.getD_none, List.getD_eq_getElem?_getD, List.getElem?_eq_getElem hn, Option.getD_some]
    exact h2
  | some p =>
    exact .inr (h.wrd _ (lastW_mem hw))

theorem d_read (h : DiskAt w D E F m) (hd : m.dead = false) (n : Nat) (hn : n < m.base.length) : Calls Tryz.prog 18 #[.pointer (some ⟨D, 0, none⟩), .int .i64 n] w fun e w' => e = .returned (.tuple #[.slice (some ⟨w.heap.size, 0, none⟩) 512 512, .int .i64 0]) ∧ w.alloc (bobj (m.page n)) = w' := by
  have hh := d_has w D F m h n
  rw [show hasB m.base.length n = true by unfold hasB; exact decide_eq_true (by omega)] at hh
  obtain ⟨d, rfl, rfl, h, hwf⟩ := h
  have hlen := DM.page_length hwf n hn
  obtain ⟨v, hv1, hv2⟩ := h.pageV n hn
  have hv1' := hv1
  have hL := imap_lookup (P := Tryz.prog) Tryz.underlying92 Tryz.underlying3 (zero_bs w) h.mp n
  have hcellP : w.cell? ⟨d.P, n, none⟩ = some v := by
    rw [cell_of_row w d.P n _ _ _ h.pgs, hv1]
  have c9 := h.cell 9
  have c1 := h.cell 1
  have c3 := h.cell 3
  simp only [dcells, hd] at c9 c1 c3
  have hlt : (n : Int) < (m.base.length : Int) := by omega
  have h0 : (0 : Int) ≤ (n : Int) := by omega
  have hm0 : (Instr.makeSlice 41 (.int .i64 512) (.int .i64 512)).run Tryz.prog w = .ok (.slice (some ⟨w.heap.size, 0, none⟩) 512 512) (w.alloc (bobj page0)) := make_bytes 512 512 (Nat.le_refl _) (by decide) w
  have heq := fun a k c => Lib.run_eql_slice_nil (P := Tryz.prog) w _ _ a k c 0 0 Tryz.underlying41
  obtain ⟨u, hu⟩ : ∃ u, (alook d.es n).getD v = u := ⟨_, rfl⟩
  rw [hu] at hv2
  rcases hv2 with ⟨rfl, hpg⟩ | hrd
  · have HG := Lib.hid hpg
    clear hpg h hn hlen hv1 hv1' hd
    cases hE : alook d.es n with
    | none =>
      rw [hE] at hL hu
      simp only [Option.getD_none, Option.isSome_none] at hL hu
      subst hu
      clear hE
      go_enter Tryz.func18, Tryz.ntmps18
      go_wp2_with fail
      refine hh.mono ?_
      rintro e w' ⟨rfl, rfl⟩
      go_wp2
      go_ret2
      rw [HG.out]
      exact ⟨rfl, rfl⟩
    | some x =>
      rw [hE] at hL hu
      simp only [Option.getD_some, Option.isSome_some] at hL hu
      subst hu
      clear hE
      go_enter Tryz.func18, Tryz.ntmps18
      go_wp2_with fail
      refine hh.mono ?_
      rintro e w' ⟨rfl, rfl⟩
      go_wp2
      go_ret2
      rw [HG.out]
      exact ⟨rfl, rfl⟩
  · have hc := clone6 w u _ hrd (by omega)
    obtain ⟨g, off, c, rfl, -⟩ := hrd.at_ (by omega)
    rw [hlen] at hc hu
    have HL := Lib.hid hlen
    clear h hn hlen hv1 hv1' hd hrd hm0
    cases hE : alook d.es n with
    | none =>
      rw [hE] at hL hu
      simp only [Option.getD_none, Option.isSome_none] at hL hu
      subst hu
      clear hE
      go_enter Tryz.func18, Tryz.ntmps18
      go_wp2_with fail
      refine hh.mono ?_
      rintro e w' ⟨rfl, rfl⟩
      go_wp2_with fail
      refine hc.mono ?_
      rintro e w' ⟨rfl, rfl⟩
      go_wp2
      go_ret2
      exact ⟨rfl, rfl⟩
    | some x =>
      rw [hE] at hL hu
      simp only [Option.getD_some, Option.isSome_some] at hL hu
      subst hu
      clear hE
      go_enter Tryz.func18, Tryz.ntmps18
      go_wp2_with fail
      refine hh.mono ?_
      rintro e w' ⟨rfl, rfl⟩
      go_wp2_with fail
      refine hc.mono ?_
      rintro e w' ⟨rfl, rfl⟩
      go_wp2
      go_ret2
      exact ⟨rfl, rfl⟩
end
end Mun
end
