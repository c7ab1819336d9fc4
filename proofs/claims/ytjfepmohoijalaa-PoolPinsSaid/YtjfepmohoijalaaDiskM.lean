/- Plain: a device as data. No program in sight. -/
namespace Mun

abbrev Bytes := List UInt8

def page0 : Bytes := List.replicate 512 0
theorem page0_length : page0.length = 512 := List.length_replicate

structure DM where
  room : Nat
  base : List Bytes
  waiting : List (Nat × Bytes)
  log : Bytes
  certain : Nat
  mark : Bytes
  fuse : Int
  ops : Nat
  dead : Bool
  torn : Option (Nat × Bytes)
  tail : Bytes

/-- the last of the writes to a page -/
def lastW {α : Type} (ws : List (Nat × α)) (n : Nat) : Option α := (ws.reverse.find? (·.1 == n)).map (·.2)

theorem lastW_nil {α : Type} (n : Nat) : lastW ([] : List (Nat × α)) n = none := rfl
theorem lastW_snoc {α : Type} (ws : List (Nat × α)) (p : Nat × α) (n : Nat) : lastW (ws ++ [p]) n = if p.1 = n then some p.2 else lastW ws n := by
  simp only [lastW, List.reverse_append, List.reverse_cons, List.reverse_nil, List.nil_append, List.cons_append, List.find?_cons]
  by_cases h : p.1 = n
  · simp [h]
  · have : (p.1 == n) = false := by simpa using h
    simp [this, h]
theorem lastW_map {α β : Type} (f : α → β) (ws : List (Nat × α)) (n : Nat) : lastW (ws.map fun p => (p.1, f p.2)) n = (lastW ws n).map f := by
  simp only [lastW, ← List.map_reverse, List.find?_map, Option.map_map]
  congr 1
theorem lastW_mem {α : Type} {ws : List (Nat × α)} {n : Nat} {x : α} (h : lastW ws n = some x) : (n, x) ∈ ws := by
  simp only [lastW, Option.map_eq_some_iff] at h
  obtain ⟨p, hp, rfl⟩ := h
  have h1 := List.find?_some hp
  have h2 := List.mem_of_find?_eq_some hp
  simp only [beq_iff_eq] at h1
  subst h1
  simpa using h2

def DM.page (m : DM) (n : Nat) : Bytes := (lastW m.waiting n).getD (m.base.getD n page0)

/-- an operation is counted (where the fuse is out: the device dies) -/
def DM.spend (m : DM) : DM :=
  if m.fuse = 0 then { m with dead := true } else { m with fuse := if 0 < m.fuse then m.fuse - 1 else m.fuse, ops := m.ops + 1 }

def DM.setFuse (m : DM) (n : Int) : DM := { m with fuse := max (-1) n }

structure DM.Wf (m : DM) : Prop where
  certain : m.certain ≤ m.log.length
  room : m.log.length + m.tail.length ≤ m.room
  room24 : m.room ≤ 16777216
  pages : ∀ b ∈ m.base, b.length = 512
  npages : m.base.length ≤ 65536
  waiting : ∀ p ∈ m.waiting, p.1 < m.base.length ∧ p.2.length = 512
  nwait : m.waiting.length ≤ m.ops
  mark : m.mark.length ≤ 64
  fuse1 : -1 ≤ m.fuse
  fuse2 : m.fuse ≤ 9223372036854775807
  torn : ∀ p, m.torn = some p → p.1 < m.base.length ∧ p.2.length = 512
  alive : m.dead = false → m.tail = [] ∧ m.torn = none

def DM.new (pages room : Nat) : DM :=
  { room, base := List.replicate pages page0, waiting := [], log := [], certain := 0, mark := [], fuse := -1, ops := 0, dead := false, torn := none, tail := [] }

theorem DM.new_wf (pages room : Nat) (h1 : pages ≤ 65536) (h2 : room ≤ 16777216) : (DM.new pages room).Wf :=
  ⟨Nat.le_refl _, Nat.zero_le _, h2, fun b hb => by simp only [DM.new, List.mem_replicate] at hb; rw [hb.2, page0_length], by simpa [DM.new] using h1, by simp [DM.new], by simp [DM.new], by simp [DM.new], by simp [DM.new], by simp [DM.new], by simp [DM.new], fun _ => ⟨rfl, rfl⟩⟩

def DM.write (m : DM) (n : Int) (b : Bytes) : DM × Int :=
  if m.dead then (m, 9)
  else if ¬ (0 ≤ n ∧ n < m.base.length) ∨ b.length ≠ 512 then (m, 1)
  else if m.fuse = 0 then ({ m.spend with torn := some (n.toNat, b) }, 9)
  else ({ m.spend with waiting := m.waiting ++ [(n.toNat, b)] }, 0)

def DM.settled (m : DM) : List Bytes := (List.range m.base.length).map m.page

def DM.sync (m : DM) : DM × Int :=
  if m.dead then (m, 9)
  else if m.fuse = 0 then (m.spend, 9)
  else ({ m.spend with base := m.settled, waiting := [] }, 0)

def DM.append (m : DM) (b : Bytes) : DM × Int :=
  if m.dead then (m, 9)
  else if m.room < m.log.length + b.length then (m, 7)
  else if m.fuse = 0 then ({ m.spend with tail := b }, 9)
  else ({ m.spend with log := m.log ++ b }, 0)

def DM.force (m : DM) : DM × Int :=
  if m.dead then (m, 9)
  else if m.fuse = 0 then (m.spend, 9)
  else ({ m.spend with certain := m.log.length }, 0)

def DM.cut (m : DM) (n : Int) (b : Bytes) : DM × Int :=
  if m.dead then (m, 9)
  else if n < 0 ∨ m.certain < n ∨ 64 < b.length then (m, 1)
  else if m.fuse = 0 then (m.spend, 9)
  else ({ m.spend with log := m.log.drop n.toNat, certain := m.certain - n.toNat, mark := b }, 0)

def DM.trim (m : DM) (n : Int) : DM × Int :=
  if m.dead then (m, 9)
  else if n < 0 ∨ m.log.length < n then (m, 1)
  else if m.fuse = 0 then (m.spend, 9)
  else ({ m.spend with log := m.log.take n.toNat, certain := n.toNat }, 0)

def DM.setMark (m : DM) (b : Bytes) : DM × Int :=
  if m.dead then (m, 9)
  else if 64 < b.length then (m, 1)
  else if m.fuse = 0 then (m.spend, 9)
  else ({ m.spend with mark := b }, 0)

theorem DM.spend_wf {m : DM} (h : m.Wf) : m.spend.Wf := by
  unfold DM.spend
  split
  · exact ⟨h.certain, h.room, h.room24, h.pages, h.npages, h.waiting, h.nwait, h.mark, h.fuse1, h.fuse2, h.torn, fun h' => by cases h'⟩
  · refine ⟨h.certain, h.room, h.room24, h.pages, h.npages, h.waiting, Nat.le_succ_of_le h.nwait, h.mark, ?_, ?_, h.torn, h.alive⟩
    · have := h.fuse1
      show -1 ≤ (if 0 < m.fuse then m.fuse - 1 else m.fuse)
      split <;> omega
    · have := h.fuse2
      show (if 0 < m.fuse then m.fuse - 1 else m.fuse) ≤ _
      split <;> omega

theorem DM.setFuse_wf {m : DM} (h : m.Wf) (n : Int) (hn : n ≤ 9223372036854775807) : (m.setFuse n).Wf :=
  ⟨h.certain, h.room, h.room24, h.pages, h.npages, h.waiting, h.nwait, h.mark, Int.le_max_left _ _, Int.max_le.2 ⟨by omega, hn⟩, h.torn, h.alive⟩

theorem DM.page_length {m : DM} (h : m.Wf) (n : Nat) (hn : n < m.base.length) : (m.page n).length = 512 := by
  unfold DM.page
  cases hl : lastW m.waiting n with
  | some b => exact (h.waiting _ (lastW_mem hl)).2
  | none =>
    simp only [Option.getD_none, List.getD_eq_getElem?_getD, List.getElem?_eq_getElem hn, Option.getD_some]
    exact h.pages _ (List.getElem_mem hn)

end Mun
