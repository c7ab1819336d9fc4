/- Texts of mine, one behind the other: PoolP, PoolI, PoolR, PoolS, PoolQ, Bits, PoolT, PoolK. -/
import Derived.Test.YtjfepmohoijalaaGreatMgG
import Derived.Test.YtjfepmohoijalaaGreatMgC
import Derived.Laws.Append
import Derived.Test.YtjfepmohoijalaaGreatMgD
section
/- Plain: pages that are pinned, and frames; what stays true in PoolPins. -/
set_option maxRecDepth 100000
set_option linter.unusedVariables false
set_option linter.unusedSimpArgs false
namespace Mun
open Go Go.RowKit

theorem nodup_sub_len : ∀ (a b : List Int), a.Nodup → (∀ x ∈ a, x ∈ b) → a.length ≤ b.length
  | [], b, _, _ => Nat.zero_le _
  | x :: a, b, hn, hs => by
    rw [List.nodup_cons] at hn
    have hx := hs x (List.mem_cons_self ..)
    have h1 := nodup_sub_len a (b.erase x) hn.2 (fun y hy => by
      have hne : y ≠ x := fun e => hn.1 (e ▸ hy)
      exact (List.mem_erase_of_ne hne).2 (hs y (List.mem_cons_of_mem _ hy)))
    have h2 := List.length_erase_of_mem hx
    have h3 := List.length_pos_of_mem hx
    simp only [List.length_cons]
    omega

theorem pgs_nodup {fs : List FV} {es : List (Int × Value)} (h : MapOk fs es) (ha : ∀ x ∈ fs, 0 ≤ x.1.pg) : (fs.map fun x => x.1.pg).Nodup := by
  rw [List.Nodup, List.pairwise_iff_getElem]
  intro i j hi hj hij e
  simp only [List.length_map] at hi hj
  simp only [List.getElem_map] at e
  have := h.one (List.getElem?_eq_getElem hi) (List.getElem?_eq_getElem hj) e (ha _ (List.getElem_mem hi))
  omega

structure PinI (fs : List FV) (held : List Int) (k m : Nat) : Prop where
  len : fs.length = k
  ok : ∀ x ∈ fs, x.1.pg < 0 ∨ (x.1.chg = false ∧ x.1.pg < m ∧ x.1.b = page0)
  pins : ∀ x ∈ fs, x.1.pins = if x.1.pg ∈ held then 1 else 0
  nd : held.Nodup
  rng : ∀ h ∈ held, 0 ≤ h ∧ h < m
  in_ : ∀ h ∈ held, ∃ x ∈ fs, x.1.pg = h

section
variable {fs : List FV} {es : List (Int × Value)} {held : List Int} {k m : Nat}

/-- one that is pinned has a frame -/
theorem PinI.at_ (h : PinI fs held k m) {n : Int} (hn : n ∈ held) : ∃ (i : Nat) (x : FV), fs[i]? = some x ∧ x.1.pg = n ∧ x.1.pins = 1 ∧ x.1.b = page0 ∧ x.1.chg = false := by
  obtain ⟨x, hx, hp⟩ := h.in_ n hn
  obtain ⟨i, hi, rfl⟩ := List.getElem_of_mem hx
  have h1 := h.pins _ hx
  rw [hp, if_pos hn] at h1
  rcases h.ok _ hx with h2 | h2
  · have := (h.rng n hn).1; omega
  · exact ⟨i, _, List.getElem?_eq_getElem hi, hp, h1, h2.2.2, h2.1⟩

/-- a frame turned: its page, bytes as they were, pinned as the new list says -/
theorem PinI.set (h : PinI fs held k m) (hm : MapOk fs es) {i : Nat} {x y : FV} (hx : fs[i]? = some x) (hpg : y.1.pg = x.1.pg) (hb : y.1.b = x.1.b) (hc : y.1.chg = x.1.chg) (h0 : 0 ≤ x.1.pg) {held' : List Int}
    (hy : y.1.pins = if x.1.pg ∈ held' then 1 else 0) (hnd : held'.Nodup) (hr : ∀ h ∈ held', 0 ≤ h ∧ h < m) (ho : ∀ n, n ≠ x.1.pg → (n ∈ held' ↔ n ∈ held)) : PinI (fs.set i y) held' k m := by
  have hil := (List.getElem?_eq_some_iff.1 hx).1
  have hxm := List.mem_of_getElem? hx
  refine ⟨by rw [List.length_set]; exact h.len, fun z hz => ?_, fun z hz => ?_, hnd, hr, fun n hn => ?_⟩
  · rcases List.mem_or_eq_of_mem_set hz with h1 | h1
    · exact h.ok z h1
    · subst h1; rw [hpg, hb, hc]; exact h.ok x hxm
  · obtain ⟨j, hj, rfl⟩ := List.getElem_of_mem hz
    by_cases hij : i = j
    · subst hij
      rw [List.getElem_set_self]
      rw [hpg]; exact hy
    · rw [List.getElem_set_ne hij]
      have hj' : j < fs.length := by rw [List.length_set] at hj; exact hj
      rw [h.pins _ (List.getElem_mem hj')]
      have hne : fs[j].1.pg ≠ x.1.pg := fun e => hij (hm.one hx (List.getElem?_eq_getElem hj') e.symm h0)
      have hiff := ho _ hne
      by_cases hh : fs[j].1.pg ∈ held
      · rw [if_pos hh, if_pos (hiff.2 hh)]
      · rw [if_neg hh, if_neg (fun e => hh (hiff.1 e))]
  · by_cases hnx : n = x.1.pg
    · exact ⟨y, List.mem_set hil y, by rw [hpg, hnx]⟩
    · obtain ⟨z, hz, hp⟩ := h.in_ n ((ho n hnx).1 hn)
      obtain ⟨j, hj, rfl⟩ := List.getElem_of_mem hz
      have hij : i ≠ j := fun e => by
        subst e
        have hxe : fs[i] = x := by rw [List.getElem?_eq_getElem hil] at hx; injection hx
        rw [hxe] at hp; exact hnx hp.symm
      exact ⟨fs[j], List.mem_iff_getElem?.2 ⟨j, by rw [List.getElem?_set_ne hij]; exact List.getElem?_eq_getElem hj⟩, hp⟩

/-- with as many pinned as there are frames, all frames are pinned -/
theorem PinI.full (h : PinI fs held k m) (hk : held.length = k) : ∀ x ∈ fs, x.1.pg ∈ held := by
  intro x hx
  obtain ⟨j, hj, rfl⟩ := List.getElem_of_mem hx
  apply Classical.byContradiction
  intro hno
  have h1 := nodup_sub_len held ((fs.map fun x => x.1.pg).eraseIdx j) h.nd (fun n hn => by
    obtain ⟨z, hz, hp⟩ := h.in_ n hn
    obtain ⟨i, hi, rfl⟩ := List.getElem_of_mem hz
    have hij : i ≠ j := fun e => by subst e; rw [hp] at hno; exact hno hn
    rw [List.mem_eraseIdx_iff_getElem?]
    exact ⟨i, hij, by rw [List.getElem?_map, List.getElem?_eq_getElem hi]; simp [hp]⟩)
  rw [List.length_eraseIdx] at h1
  simp only [List.length_map, hj, if_true] at h1
  have := h.len
  omega
theorem PinI.pins1 (h : PinI fs held k m) {x : FV} (hx : x ∈ fs) (hh : x.1.pg ∈ held) : x.1.pins = 1 := by rw [h.pins x hx, if_pos hh]

/-- with fewer, not all are -/
theorem PinI.room (h : PinI fs held k m) (hm : MapOk fs es) (hk : held.length < k) (ha : ∀ x ∈ fs, 0 ≤ x.1.pg) (hp : ∀ x ∈ fs, 0 < x.1.pins) : False := by
  have h1 := nodup_sub_len (fs.map fun x => x.1.pg) held (pgs_nodup hm ha) (fun n hn => by
    obtain ⟨x, hx, rfl⟩ := List.mem_map.1 hn
    apply Classical.byContradiction
    intro hno
    have h2 := h.pins x hx
    rw [if_neg hno] at h2
    have := hp x hx
    omega)
  rw [List.length_map, h.len] at h1
  omega

/-- touches apart it is the same -/
theorem PinI.same (h : PinI fs held k m) {fs' : List FV} (hs : SameFs fs fs') : PinI fs' held k m := by
  have hback : ∀ z ∈ fs', ∃ x ∈ fs, SameF x z := fun z hz => by
    obtain ⟨j, hj, rfl⟩ := List.getElem_of_mem hz
    have hj' : j < fs.length := by rw [← hs.1]; exact hj
    obtain ⟨y, hy, e⟩ := hs.2 j _ (List.getElem?_eq_getElem hj')
    rw [List.getElem?_eq_getElem hj] at hy
    injection hy with hy
    rw [hy]
    exact ⟨_, List.getElem_mem hj', e⟩
  refine ⟨hs.1.trans h.len, fun z hz => ?_, fun z hz => ?_, h.nd, h.rng, fun n hn => ?_⟩
  · obtain ⟨x, hx, e1, e2, e3, e4, e5⟩ := hback z hz
    rw [e1, e2, e4]; exact h.ok x hx
  · obtain ⟨x, hx, e1, e2, e3, e4, e5⟩ := hback z hz
    rw [e3, e1]; exact h.pins x hx
  · obtain ⟨x, hx, hp⟩ := h.in_ n hn
    obtain ⟨j, hj, rfl⟩ := List.getElem_of_mem hx
    obtain ⟨y, hy, e1, -⟩ := hs.2 j _ (List.getElem?_eq_getElem hj)
    exact ⟨y, List.mem_of_getElem? hy, e1.trans hp⟩

/-- a page read into a frame that none needs -/
theorem PinI.put (h : PinI fs held k m) {i : Nat} {x y : FV} (hx : fs[i]? = some x) (hno : x.1.pg ∉ held) {n : Int} (hn0 : 0 ≤ n) (hnm : n < m) (hnh : n ∉ held) (hnf : ∀ z ∈ fs, z.1.pg ≠ n)
    (hy : y.1.pg = n) (hyb : y.1.b = page0) (hyc : y.1.chg = false) (hyp : y.1.pins = 1) : PinI (fs.set i y) (held ++ [n]) k m := by
  have hil := (List.getElem?_eq_some_iff.1 hx).1
  refine ⟨by rw [List.length_set]; exact h.len, fun z hz => ?_, fun z hz => ?_, ?_, fun j hj => ?_, fun j hj => ?_⟩
  · rcases List.mem_or_eq_of_mem_set hz with h1 | h1
    · exact h.ok z h1
    · subst h1; exact .inr ⟨hyc, by rw [hy]; exact hnm, hyb⟩
  · rcases List.mem_or_eq_of_mem_set hz with h1 | h1
    · rw [h.pins z h1]
      have := hnf z h1
      simp [this]
    · subst h1
      rw [hyp, hy, if_pos (by simp)]
  · rw [List.nodup_append]
    refine ⟨h.nd, by simp, ?_⟩
    intro a ha b hb e
    simp only [List.mem_singleton] at hb
    subst hb
    exact hnh (e ▸ ha)
  · rcases List.mem_append.1 hj with h1 | h1
    · exact h.rng j h1
    · simp only [List.mem_singleton] at h1
      subst h1
      exact ⟨hn0, hnm⟩
  · rcases List.mem_append.1 hj with h1 | h1
    · obtain ⟨z, hz, hp⟩ := h.in_ j h1
      obtain ⟨a, ha, rfl⟩ := List.getElem_of_mem hz
      have hia : i ≠ a := fun e => by
        subst e
        have hxe : fs[i] = x := by rw [List.getElem?_eq_getElem hil] at hx; injection hx
        rw [hxe] at hp
        exact hno (hp ▸ h1)
      exact ⟨fs[a], List.mem_iff_getElem?.2 ⟨a, by rw [List.getElem?_set_ne hia]; exact List.getElem?_eq_getElem ha⟩, hp⟩
    · simp only [List.mem_singleton] at h1
      subst h1
      exact ⟨y, List.mem_set hil y, hy⟩
end

theorem PinI.new (k m : Nat) : PinI (List.replicate k fv1) [] k m :=
  ⟨by simp, fun x hx => by have := List.eq_of_mem_replicate hx; subst this; exact .inl (by decide), fun x hx => by have := List.eq_of_mem_replicate hx; subst this; rfl, List.nodup_nil, fun _ h => by simp at h, fun _ h => by simp at h⟩

theorem page0_chk : checkP page0 = 0 := by unfold checkP; rw [if_pos (show page0 = zer 512 from rfl)]
theorem new_page (pages room n : Nat) : (DM.new pages room).page n = page0 := by
  show ((lastW ([] : List (Nat × Bytes)) n).getD ((List.replicate pages page0).getD n page0)) = page0
  rw [lastW_nil]
  show (List.replicate pages page0).getD n page0 = page0
  rw [List.getD_eq_getElem?_getD, List.getElem?_replicate]
  split <;> rfl
end Mun
end

section
/- A log opened on a new device, and nothing said of it; the law's bench. -/
set_option maxRecDepth 100000
set_option linter.unusedVariables false
set_option linter.unusedSimpArgs false
namespace Mun
open Go Go.RowKit
open Go.Proofs

def OpenT (w : World) (e : Ending) (w' : World) : Prop := ∃ L, e = .returned (.tuple #[.pointer (some ⟨L, 0, none⟩), .int .i64 0]) ∧ Below w.heap.size w w'

set_option maxHeartbeats 1000000 in
theorem open_thin (w : World) (D : Nat) (E F : Foot) (dm : DM) (h : DiskAt w D E F dm) (hd : dm.dead = false) (hl : dm.log = []) (hm : dm.mark = []) (hc : dm.certain = 0) :
    Calls Tryz.prog 31 #[.pointer (some ⟨D, 0, none⟩)] w (OpenT w) := by
  have hmk := d_marked w D F dm h hd
  rw [hm] at hmk
  simp only [List.length_nil] at hmk
  obtain ⟨w1, hw1⟩ : ∃ w1, w.alloc (bobj []) = w1 := ⟨_, rfl⟩
  obtain ⟨w2, hw2⟩ : ∃ w2, w1.alloc (.cells #[.pointer (some ⟨D, 0, none⟩), .int .u64 1, .slice none 0 0, .slice none 0 0, .int .i64 0, .int .u64 0] 82) = w2 := ⟨_, rfl⟩
  have hb1 : Below w.heap.size w w1 := by rw [← hw1]; exact (Below.refl _ _).alloc (Nat.le_refl _) _
  have hb2 : Below w.heap.size w w2 := by rw [← hw2]; exact hb1.alloc hb1.size _
  have hlg := d_log w2 D F dm (h.below hb2) hd
  rw [hl] at hlg
  simp only [List.length_nil] at hlg
  obtain ⟨w3, hw3⟩ : ∃ w3, w2.alloc (bobj []) = w3 := ⟨_, rfl⟩
  have hb3 : Below w.heap.size w w3 := by rw [← hw3]; exact hb2.alloc hb2.size _
  rw [hw1] at hmk
  rw [hw3] at hlg
  have hs1 : w1.heap.size = w.heap.size + 1 := by rw [← hw1]; simp
  have hs2 : w2.heap.size = w.heap.size + 2 := by rw [← hw2]; simp [hs1]
  have hs3 : w3.heap.size = w.heap.size + 3 := by rw [← hw3]; simp [hs2]
  have k3 : w3.heap[w1.heap.size]? = some (.cells #[.pointer (some ⟨D, 0, none⟩), .int .u64 1, .slice none 0 0, .slice none 0 0, .int .i64 0, .int .u64 0] 82 (0, 0)) := by
    rw [← hw3, heap_alloc_old _ _ (by omega), ← hw2]; exact heap_alloc_new w1 _
  have c2 : w3.cell? ⟨w1.heap.size, 2, none⟩ = some (.slice none 0 0) := cell_of_row _ _ 2 _ _ _ k3
  have f2 : w3.frozen? ⟨w1.heap.size, 2, none⟩ = false := by simp [World.frozen?, k3]
  obtain ⟨w4, hw4⟩ : ∃ w4, w3.setCell ⟨w1.heap.size, 2, none⟩ (.slice (some ⟨w2.heap.size, 0, none⟩) 0 0) = w4 := ⟨_, rfl⟩
  have k4 : w4.heap[w1.heap.size]? = some (.cells #[.pointer (some ⟨D, 0, none⟩), .int .u64 1, .slice (some ⟨w2.heap.size, 0, none⟩) 0 0, .slice none 0 0, .int .i64 0, .int .u64 0] 82 (0, 0)) := by rw [← hw4]; exact (setCell_blk k3 _).trans rfl
  have hb4 : Below w.heap.size w w4 := by rw [← hw4]; exact hb3.setCell (by simp; omega) _
  have hcr : ∀ k, Calls Tryz.prog 72 #[.pointer (some ⟨D, 0, none⟩)] (w4.drewN k) fun e w' => e = .returned (.int .i64 0) ∧ w4.drewN k = w' := fun k => by
    have h9 := d_certain (w4.drewN k) D F dm ((h.below hb4).below (below_drewN (Below.refl _ _) k))
    rw [hc] at h9
    exact h9
  have d2 : w4.cell? ⟨w1.heap.size, 2, none⟩ = some (.slice (some ⟨w2.heap.size, 0, none⟩) 0 0) := cell_of_row _ _ 2 _ _ _ k4
  have d4 : w4.cell? ⟨w1.heap.size, 4, none⟩ = some (.int .i64 0) := cell_of_row _ _ 4 _ _ _ k4
  have f4 : w4.frozen? ⟨w1.heap.size, 4, none⟩ = false := by simp [World.frozen?, k4]
  have HMK := Lib.hid hmk
  have HLG := Lib.hid hlg
  have HCR := Lib.hid hcr
  have HX := Lib.hid (And.intro hb4 (And.intro k4 hs1))
  clear hmk hlg hcr h hb1 hb2 hb3 hs2 hs3 k3 k4 hb4 hd hl hm hc hs1
  go_enter Tryz.func31, Tryz.ntmps31
  go_wp2_with fail
  refine HMK.out.mono ?_
  rintro e w9 ⟨rfl, rfl⟩
  go_wp2_with fail
  refine HLG.out.mono ?_
  rintro e w9 ⟨rfl, rfl⟩
  go_wp2
  clear hw1 hw2 hw3 hw4 c2 f2
  go_loopw [7] (fun a wr => a = .int .i64 0 ∧ wr = w4) (fun _ _ => 0)
  case atStart => exact ⟨rfl, rfl⟩
  case round =>
    obtain ⟨rfl, rfl⟩ := hrel
    go_upto_region 23 with (fail)
    go_quiet ((go_at_call 72; exact quiet_eq (HCR.out _)))
    have hb5 : Below w.heap.size w (wr.drewN nq) := below_drewN HX.out.1 nq
    have k5 : (wr.drewN nq).heap[w1.heap.size]? = some (.cells #[.pointer (some ⟨D, 0, none⟩), .int .u64 1, .slice (some ⟨w2.heap.size, 0, none⟩) 0 0, .slice none 0 0, .int .i64 0, .int .u64 0] 82 (0, 0)) := HX.out.2.1
    obtain ⟨w5, hw5⟩ : ∃ w5, wr.drewN nq = w5 := ⟨_, rfl⟩
    rw [hw5] at hb5 k5 ⊢
    have e2 : w5.cell? ⟨w1.heap.size, 2, none⟩ = some (.slice (some ⟨w2.heap.size, 0, none⟩) 0 0) := cell_of_row _ _ 2 _ _ _ k5
    have e4 : w5.cell? ⟨w1.heap.size, 4, none⟩ = some (.int .i64 0) := cell_of_row _ _ 4 _ _ _ k5
    have g4 : w5.frozen? ⟨w1.heap.size, 4, none⟩ = false := by simp [World.frozen?, k5]
    obtain ⟨w6, hw6⟩ : ∃ w6, w5.setCell ⟨w1.heap.size, 4, none⟩ (.int .i64 0) = w6 := ⟨_, rfl⟩
    have hs1 := HX.out.2.2
    have hb6 : Below w.heap.size w w6 := by rw [← hw6]; exact hb5.setCell (by simp; omega) _
    have HF := Lib.hid hb6
    clear hb5 k5 hs1 hb6 hw5 d2 d4 f4
    go_wp2
    go_ret2
    exact ⟨_, rfl, HF.out⟩

theorem infoB : (Tryz.prog.info? 28).map (·.size) = some 3 := by kernel_rfl

def BenchOut (w : World) (pages room n : Nat) (e : Ending) (w' : World) : Prop :=
  ∃ D L Pb g Fd, e = .returned (.tuple #[.agg #[.pointer (some ⟨D, 0, none⟩), .pointer (some ⟨L, 0, none⟩), .pointer (some ⟨Pb, 0, none⟩)], .bool true]) ∧
    PoolAt w' D L Pb NoF Fd (DM.new pages room) (PM.new n) (newPLV g n) ∧ Below w.heap.size w w' ∧ (∀ k, pfoot Pb (newPLV g n) k → w.heap.size ≤ k)

set_option maxHeartbeats 1000000 in
theorem bench_any (w : World) (pages room n : Nat) (p0 : 1 ≤ pages) (p1 : pages ≤ 65536) (r1 : room ≤ 16777216) (n0 : 1 ≤ n) (n1 : n ≤ 1024) : Calls Tryz.prog 7 #[.int .i64 pages, .int .i64 room, .int .i64 n] w (BenchOut w pages room n) := by
  obtain ⟨w0, hw0⟩ : ∃ w0, w.alloc (.cells #[.pointer none, .pointer none, .pointer none] 28) = w0 := ⟨_, rfl⟩
  have hb0 : Below w.heap.size w w0 := by rw [← hw0]; exact (Below.refl _ _).alloc (Nat.le_refl _) _
  have k0 : w0.heap[w.heap.size]? = some (.cells #[.pointer none, .pointer none, .pointer none] 28 (0, 0)) := by rw [← hw0]; exact heap_alloc_new w _
  have hnw := d_new w0 pages room p0 p1 r1
  have hdk := new_disk w0 pages room (E := fun k => k = w.heap.size) (fun k hk => by rw [hk]; exact (Array.getElem?_eq_some_iff.1 k0).1) p1 r1
  obtain ⟨w1, hw1⟩ : ∃ w1, newWorld w0 pages room = w1 := ⟨_, rfl⟩
  have hb1 : Below w0.heap.size w0 w1 := by rw [← hw1]; unfold newWorld; exact below_more (below_more (below_more (Below.refl _ _) _) _) _
  rw [hw1] at hnw hdk
  have hop := open_thin w1 _ _ _ _ hdk rfl rfl rfl rfl
  have HNW := Lib.hid hnw
  have HOP := Lib.hid hop
  have HX := Lib.hid (And.intro hb0 (And.intro hb1 (And.intro hdk (And.intro n0 (And.intro n1 k0)))))
  clear hnw hop hb1 hdk n0 n1 k0 p0 p1 r1 hw1 hb0
  go_enter Tryz.func7, Tryz.ntmps7
  go_wp2_with fail
  refine HNW.out.mono ?_
  rintro e w' ⟨rfl, rfl⟩
  clear hw0
  go_wp2_with fail
  refine HOP.out.mono ?_
  rintro e w2 ⟨L, rfl, hb2⟩
  obtain ⟨hb0, hb1, hdk, n0, n1, k0⟩ := HX.out
  have hpn := p_new w2 (w0.heap.size + 2) L n n0 n1
  have HPN := Lib.hid hpn
  have HB2 := Lib.hid hb2
  clear hpn hb2 hb0 hb1 hdk n0 n1 k0
  go_wp2_with fail
  refine HPN.out.mono ?_
  rintro e w3 ⟨rfl, hrep, hb3, hs3⟩
  obtain ⟨hb0, hb1, hdk, n0, n1, k0⟩ := HX.out
  have hb13 : Below w1.heap.size w1 w3 := HB2.out.trans (hb3.mono HB2.out.size)
  have hb03 : Below w0.heap.size w0 w3 := hb1.trans (hb13.mono hb1.size)
  have hwlt : w.heap.size < w0.heap.size := (Array.getElem?_eq_some_iff.1 k0).1
  have k3 : w3.heap[w.heap.size]? = some (.cells #[.pointer none, .pointer none, .pointer none] 28 (0, 0)) := (hb03.block _ hwlt).trans k0
  obtain ⟨w4, hw4⟩ : ∃ w4, w3.setRow w.heap.size #[.pointer (some ⟨w0.heap.size + 2, 0, none⟩), .pointer (some ⟨L, 0, none⟩), .pointer (some ⟨w2.heap.size + 3, 0, none⟩)] = w4 := ⟨_, rfl⟩
  have ho4 : ∀ k, k ≠ w.heap.size → w4.heap[k]? = w3.heap[k]? := fun k hk => by rw [← hw4]; exact setRow_other _ _ _ _ hk
  have hs4 : w4.heap.size = w3.heap.size := by rw [← hw4]; exact setRow_size _ _ _
  have k4 : w4.heap[w.heap.size]? = some (.cells #[.pointer (some ⟨w0.heap.size + 2, 0, none⟩), .pointer (some ⟨L, 0, none⟩), .pointer (some ⟨w2.heap.size + 3, 0, none⟩)] 28 (0, 0)) := by rw [← hw4]; exact setRow_heap _ _ _ _ _ _ k3
  have hE : ∀ k, pfoot (w2.heap.size + 3) (newPLV w2.heap.size n) k → w2.heap.size ≤ k ∧ k < w3.heap.size := fun k hk => ⟨by
    rcases hk with rfl | rfl | rfl | rfl
    · omega
    · exact Nat.le_refl _
    · exact Nat.le_succ _
    · show _ ≤ w2.heap.size + 2; omega, (hrep NoF).lt k hk⟩
  have h12 : w1.heap.size ≤ w2.heap.size := HB2.out.size
  have h01 : w0.heap.size ≤ w1.heap.size := hb1.size
  have hd3 := hdk.grow (E' := fun k => pfoot (w2.heap.size + 3) (newPLV w2.heap.size n) k ∨ k = w.heap.size) hb13 (fun k hk => by
    rcases hk with hk | hk
    · have := hE k hk; exact .inr ⟨by omega, this.2⟩
    · exact .inl hk)
  have hd4 : DiskAt w4 (w0.heap.size + 2) (fun k => pfoot (w2.heap.size + 3) (newPLV w2.heap.size n) k ∨ NoF k) (newFoot w0) (DM.new pages room) :=
    (hd3.frame (E' := fun k => pfoot (w2.heap.size + 3) (newPLV w2.heap.size n) k ∨ k = w.heap.size) (fun k _ hn => ho4 k (fun e => hn (.inr e))) (Nat.le_of_eq hs4.symm) (fun k hk => .inl hk)).sub (fun k hk => by
      rcases hk with hk | hk
      · exact .inl hk
      · exact absurd hk (noF k))
  have hr4 : PRep w4 (w2.heap.size + 3) (w0.heap.size + 2) L (fun k => (pfoot (w2.heap.size + 3) (newPLV w2.heap.size n) k ∨ NoF k) ∨ newFoot w0 k) (PM.new n) (newPLV w2.heap.size n) :=
    (hrep (fun k => ((pfoot (w2.heap.size + 3) (newPLV w2.heap.size n) k ∨ NoF k) ∨ newFoot w0 k) ∨ k = w.heap.size)).keep (fun k _ hk => by
      rcases hk with hk | hk
      · have := hE k hk; exact ho4 k (by omega)
      · exact ho4 k (fun e => hk (.inr e))) (fun k _ hk => .inl hk)
  have hb4 : Below w.heap.size w w4 := by
    have h9 := hb0.trans (hb03.mono hb0.size)
    rw [← hw4]
    exact below_setRow h9 (Nat.le_refl _) _
  have hpost : BenchOut w pages room n (.returned (.tuple #[.agg #[.pointer (some ⟨w0.heap.size + 2, 0, none⟩), .pointer (some ⟨L, 0, none⟩), .pointer (some ⟨w2.heap.size + 3, 0, none⟩)], .bool true])) w4 :=
    ⟨_, L, _, w2.heap.size, _, rfl, ⟨hd4, hr4, rfl⟩, hb4, fun k hk => by have := hE k hk; omega⟩
  have HP := Lib.hid hpost
  have K3 := Lib.hid k3
  have K4 := Lib.hid k4
  clear hrep hb3 hs3 hb0 hb1 hdk n0 n1 k0 hb13 hb03 hwlt k3 ho4 hs4 k4 hE h12 h01 hd3 hd4 hr4 hb4 hpost HX HB2 HPN HOP HNW
  go_wp2_with (first | (refine wpList_store_row rfl _ _ _ rfl w.heap.size _ rfl rfl _ _ K3.out infoB rfl (by simp [Value.oneCell']) ?_; rw [hw4]))
  exact bodyPost_ret (v := .tuple #[.agg #[.pointer (some ⟨w0.heap.size + 2, 0, none⟩), .pointer (some ⟨L, 0, none⟩), .pointer (some ⟨w2.heap.size + 3, 0, none⟩)], .bool true]) (by simp [results, Tryz.results7, asAddr, run_loadVar_row w4 w.heap.size 28 28 _ (0, 0) _ K4.out Tryz.underlying28 rfl infoB]) rfl HP.out
end Mun
end

section
/- Pin and Unpin in the walk of PoolPins. -/
set_option maxRecDepth 100000
set_option linter.unusedVariables false
set_option linter.unusedSimpArgs false
namespace Mun
open Go Go.RowKit
open Go.Proofs

section
variable {w : World} {D L Pb : Nat} {Z Fd : Foot} {dm : DM} {p : PM} {v : PLV} {held : List Int} {k : Nat}

def PinNew (w : World) (D L Pb : Nat) (Z Fd : Foot) (dm : DM) (v : PLV) (held : List Int) (k : Nat) (e : Ending) (w' : World) : Prop :=
  ∃ g p' v', e = .returned (.tuple #[.slice (some ⟨g, 0, none⟩) 512 512, .int .i64 0]) ∧ OwnB w' w.heap.size 5 (.slice (some ⟨g, 0, none⟩) 512 512) page0 ∧ PoolAt w' D L Pb Z Fd dm p' v' ∧
    PinI v'.fs held k dm.base.length ∧ pfoot Pb v' = pfoot Pb v ∧ Chg (pfoot Pb v) (pfoot Pb v) w w'

/-- a page that is not pinned, and there is room -/
theorem pin_new (h : PoolAt w D L Pb Z Fd dm p v) (hi : PinI v.fs held k dm.base.length) (hpz : ∀ n, dm.page n = page0) (n : Nat) (hn : n < dm.base.length) (hno : (n : Int) ∉ held) (hk : held.length < k) :
    Calls Tryz.prog 15 #[.pointer (some ⟨Pb, 0, none⟩), .int .i64 n] w (PinNew w D L Pb Z Fd dm v (held ++ [(n : Int)]) k) := by
  cases hl : alook v.es (n : Int) with
  | some u =>
    obtain ⟨h0, i, x, rfl, hx, hp⟩ := h.rep.mok.there _ _ hl
    have hxm := List.mem_of_getElem? hx
    have hpin : x.1.pins = 0 := by rw [hi.pins x hxm, hp, if_neg hno]
    rcases hi.ok x hxm with h1 | ⟨hc, -, hb⟩
    · omega
    · refine (pin_held h n hn i x hx hp (by omega) (by rw [hb, page0_length]; omega)).mono ?_
      rintro e w' ⟨g, rfl, ho, hat, hcg⟩
      rw [hb, page0_length] at ho
      refine ⟨g, _, _, by rw [hb, page0_length], ho, hat, ?_, rfl, hcg⟩
      refine hi.set h.rep.mok (y := pinned x) (held' := held ++ [(n : Int)]) hx rfl rfl rfl (by omega) (by show x.1.pins + 1 = _; rw [hpin, hp, if_pos (by simp)]) ?_ (fun j hj => ?_) (fun j hj => ?_)
      · rw [List.nodup_append]
        refine ⟨hi.nd, by simp, ?_⟩
        intro a ha b hb e
        simp only [List.mem_singleton] at hb
        subst hb
        exact hno (e ▸ ha)
      · rcases List.mem_append.1 hj with h1 | h1
        · exact hi.rng j h1
        · simp only [List.mem_singleton] at h1; subst h1; omega
      · rw [hp] at hj
        simp [hj]
  | none =>
    refine (pin_miss h n hn hl (fun x hx => (hi.ok x hx).imp id (fun h => h.1)) (by rw [hpz]; exact page0_chk)).mono ?_
    rintro e w' (⟨p1, v1, hfd, rfl, hat, hcg⟩ | ⟨i, x, p1, v1, g, g0, es, hfd, hx, rfl, ho, hat, hcg⟩)
    · rcases hfd.split with ⟨-, -, -, ha, hp⟩ | ⟨i, x, e, -⟩
      · exact (hi.room h.rep.mok hk ha hp).elim
      · omega
    · rcases hfd.split with ⟨e, -⟩ | ⟨i', x', e, hx', hv1, hs, hfree⟩
      · omega
      · have hii : i = i' := by omega
        subst hii
        rw [hx] at hx'
        injection hx' with hx'
        subst hx'
        have hi1 := hi.same hs
        have hxm := List.mem_of_getElem? hx
        have hnx : x.1.pg ∉ held := fun hh => by
          have h1 := hi1.pins1 hxm hh
          have h2 := (hi1.rng _ hh).1
          omega
        have hnf : ∀ z ∈ v1.fs, z.1.pg ≠ (n : Int) := fun z hz hp => by
          obtain ⟨j, hj, rfl⟩ := List.getElem_of_mem hz
          have hj' : j < v.fs.length := by rw [← hs.1]; exact hj
          obtain ⟨y, hy, e1, -⟩ := hs.2 j _ (List.getElem?_eq_getElem hj')
          rw [List.getElem?_eq_getElem hj] at hy
          injection hy with hy
          rw [hy, e1] at hp
          have := h.rep.mok.here j _ (List.getElem?_eq_getElem hj') (by omega)
          rw [hp, hl] at this
          cases this
        rw [hpz] at ho hat
        refine ⟨g, _, _, rfl, ho, hat, hi1.put hx hnx (by omega) (by omega) hno hnf rfl rfl rfl rfl, by rw [hv1]; rfl, hcg⟩

end
end Mun
end

section
/- The law's own page: awake. -/
set_option maxRecDepth 100000
set_option linter.unusedVariables false
set_option linter.unusedSimpArgs false
namespace Mun
open Go Go.RowKit
open Go.Proofs

set_option maxHeartbeats 1000000 in
theorem awake8 (w : World) : Calls Tryz.prog 6 #[] w fun e w' => e = .returned (.bool true) ∧ Below w.heap.size w w' := by
  have hbe : Calls Tryz.prog 7 #[.int .i64 4, .int .i64 100, .int .i64 2] w (BenchOut w 4 100 2) := bench_any w 4 100 2 (by decide) (by decide) (by decide) (by decide) (by decide)
  have HBE := Lib.hid hbe
  clear hbe
  go_enter Tryz.func6, Tryz.ntmps6
  go_wp2_with fail
  refine HBE.out.mono ?_
  rintro e w1 ⟨D, L, Pb, g, Fd, rfl, hat, hb1, hpf⟩
  obtain ⟨w2, hw2⟩ : ∃ w2, w1.alloc (.cells #[.pointer (some ⟨D, 0, none⟩), .pointer (some ⟨L, 0, none⟩), .pointer (some ⟨Pb, 0, none⟩)] 28) = w2 := ⟨_, rfl⟩
  have hb12 : Below w1.heap.size w1 w2 := by rw [← hw2]; exact (Below.refl _ _).alloc (Nat.le_refl _) _
  have hat2 := hat.below hb12
  have kB : w2.heap[w1.heap.size]? = some (.cells #[.pointer (some ⟨D, 0, none⟩), .pointer (some ⟨L, 0, none⟩), .pointer (some ⟨Pb, 0, none⟩)] 28 (0, 0)) := by rw [← hw2]; exact heap_alloc_new w1 _
  have cB : w2.cell? ⟨w1.heap.size, 2, none⟩ = some (.pointer (some ⟨Pb, 0, none⟩)) := cell_of_row _ _ 2 _ _ _ kB
  have hpin := pin_new hat2 (PinI.new 2 4) (fun n => new_page 4 100 n) 0 (by decide) (by simp) (by decide)
  have HPIN := Lib.hid hpin
  have HX := Lib.hid (And.intro hb1 (And.intro hb12 (And.intro hpf (And.intro kB hat.rep))))
  clear hat hb1 hpf hb12 hat2 kB hpin
  go_wp2_with fail
  refine HPIN.out.mono ?_
  rintro e w4 ⟨gx, p', v', rfl, hown, hat4, hpi, hft, hc⟩
  obtain ⟨hb1, hb12, hpf, kB, hrep⟩ := HX.out
  have hnB : ¬ pfoot Pb (newPLV g 2) w1.heap.size := fun hk => Nat.lt_irrefl _ (hrep.lt _ hk)
  have hBl : w1.heap.size < w2.heap.size := (Array.getElem?_eq_some_iff.1 kB).1
  have kB4 := (hc.block _ hBl hnB).trans kB
  have hb4 : Below w.heap.size w w4 := (hb1.trans (hb12.mono hb1.size)).trans (hc.below (Nat.le_trans hb1.size hb12.size) (fun k hk h => by have := hpf k h; omega))
  obtain ⟨i, x, hx, hp, hpn, -, -⟩ := hpi.at_ (n := ((0 : Nat) : Int)) (by simp)
  have hrx : RdB NoF w4 (.slice (some ⟨gx, 0, none⟩) 512 512) page0 := hown.rd (fun _ _ => noF _)
  have b0 : Below w4.heap.size w4 w4.drew := below_drewN (Below.refl _ _) 1
  have b1 : Below w4.heap.size w4 (w4.alloc (bobj page0)).drew := b0.alloc b0.size _
  have hms : ∀ V : World, (Instr.makeSlice 41 (.int .i64 512) (.int .i64 512)).run Tryz.prog V = .ok (.slice (some ⟨V.heap.size, 0, none⟩) 512 512) (V.alloc (bobj page0)) := fun V => make_bytes 512 512 (Nat.le_refl _) (by decide) V
  have cc4 : w4.cell? ⟨w1.heap.size, 2, none⟩ = some (.pointer (some ⟨Pb, 0, none⟩)) := cell_of_row _ _ 2 _ _ _ kB4
  have hbl4 : w1.heap.size < w4.heap.size := (Array.getElem?_eq_some_iff.1 kB4).1
  have hS0 : (convert 41 9 (.slice (some ⟨gx, 0, none⟩) 512 512)).run Tryz.prog w4.drew = .ok (.string (strOf page0)) w4.drew ∧ w4.drew.cell? ⟨w1.heap.size, 2, none⟩ = some (.pointer (some ⟨Pb, 0, none⟩)) := ⟨str_bytes (RdB.below hrx b0), cc4⟩
  have hS1 : (convert 41 9 (.slice (some ⟨gx, 0, none⟩) 512 512)).run Tryz.prog (w4.alloc (bobj page0)).drew = .ok (.string (strOf page0)) (w4.alloc (bobj page0)).drew ∧ (w4.alloc (bobj page0)).drew.cell? ⟨w1.heap.size, 2, none⟩ = some (.pointer (some ⟨Pb, 0, none⟩)) := ⟨str_bytes (RdB.below hrx b1), (World.cell?_of_block (b1.block _ hbl4)).trans cc4⟩
  have cp1 : (convert 41 9 (.slice (some ⟨w4.heap.size, 0, none⟩) 512 512)).run Tryz.prog (w4.alloc (bobj page0)).drew = .ok (.string (strOf page0)) (w4.alloc (bobj page0)).drew :=
    str_bytes (bobj_rd (F := NoF) w4.drew page0 512 rfl (by decide) (noF _))
  have hpc := pins_yes (w4.alloc (bobj page0)).drew Pb D L _ p' v' ((hat4.below b1).rep) 0 i x hx hp (by decide)
  rw [hpn] at hpc
  have HPC : Hid (Calls Tryz.prog 29 #[.pointer (some ⟨Pb, 0, none⟩), .int .i64 0] (w4.alloc (bobj page0)).drew fun e w' => e = .returned (.int .i64 1) ∧ (w4.alloc (bobj page0)).drew = w') := hpc
  have HB := Lib.hid (hb4.trans (b1.mono hb4.size))
  clear hown hat4 hpi hft hc hb1 hb12 hpf kB hrep hnB hBl kB4 hb4 hx hp hpn hrx b0 b1 hbl4 hpc HX HPIN HBE cB hw2 cc4
  go_upto_region 5 with (fail)
  go_region_held (fun V => (convert 41 9 (.slice (some ⟨gx, 0, none⟩) 512 512)).run Tryz.prog V = .ok (.string (strOf page0)) V ∧ V.cell? ⟨w1.heap.size, 2, none⟩ = some (.pointer (some ⟨Pb, 0, none⟩)))
    (first | assumption | exact hS0 | exact hS1)
    ((go_at_call 29; refine HPC.out.mono ?_; rintro e W' ⟨rfl, rfl⟩))
  all_goals
    go_wp2
    go_ret
    exact ⟨rfl, HB.out⟩
end Mun
end

section
/- A row of numbers of which the head is cut off and behind which is laid. -/
set_option maxRecDepth 100000
set_option linter.unusedVariables false
set_option linter.unusedSimpArgs false
namespace Mun
open Go Go.RowKit
open Go.Proofs

/-- the block of a slice -/
def qblk : Value → Option Nat
  | .slice (some a) _ _ => some a.block
  | _ => none
theorem zv_length (l : List Int) : (zv l).length = l.length := by simp [zv]
/-- a row of numbers, in a block of numbers, its spare room in that block too -/
def HAt (w : World) (q : Value) (l : List Int) : Prop :=
  (q = .slice none 0 0 ∧ l = []) ∨ ∃ g off c cur, q = .slice (some ⟨g, off, none⟩) l.length c ∧ w.heap[g]? = some (.cells cur 3 (0, 0)) ∧ l.length ≤ c ∧ c ≤ maxLen ∧ off + c * 1 ≤ cur.size ∧ (cur.toList.drop off).take (l.length * 1) = zv l
theorem HAt.keep {w w' : World} {q : Value} {l : List Int} (h : HAt w q l) (hk : ∀ g, qblk q = some g → w'.heap[g]? = w.heap[g]?) : HAt w' q l := by
  rcases h with h | ⟨g, off, c, cur, rfl, h1, rest⟩
  · exact .inl h
  · exact .inr ⟨g, off, c, cur, rfl, (hk g rfl).trans h1, rest⟩
theorem HAt.blk {w : World} {q : Value} {l : List Int} (h : HAt w q l) {g : Nat} (hg : qblk q = some g) : ∃ cur, w.heap[g]? = some (.cells cur 3 (0, 0)) := by
  rcases h with ⟨rfl, _⟩ | ⟨g', off, c, cur, rfl, h1, rest⟩
  · simp [qblk] at hg
  · simp only [qblk, Option.some.injEq] at hg
    subst hg
    exact ⟨cur, h1⟩
/-- its form, and its numbers -/
theorem HAt.form {w : World} {q : Value} {l : List Int} (h : HAt w q l) : ∃ a n c, q = .slice a n c ∧ n = l.length ∧ n ≤ c := by
  rcases h with ⟨rfl, rfl⟩ | ⟨g, off, c, cur, rfl, h1, h2, rest⟩
  · exact ⟨none, 0, 0, rfl, rfl, Nat.le_refl _⟩
  · exact ⟨_, _, c, rfl, rfl, h2⟩
theorem HAt.at_ {w : World} {q : Value} {l : List Int} (h : HAt w q l) (j : Nat) (x : Int) (hx : l[j]? = some x) : ∃ g off c, q = .slice (some ⟨g, off, none⟩) l.length c ∧ l.length ≤ c ∧ w.cell? ⟨g, off + j, none⟩ = some (.int .i64 x) := by
  have hj := (List.getElem?_eq_some_iff.1 hx).1
  rcases h with ⟨rfl, rfl⟩ | ⟨g, off, c, cur, rfl, h1, h2, h3, h4, h5⟩
  · simp at hj
  · refine ⟨g, off, c, rfl, h2, ?_⟩
    rw [cell_of_row w g _ _ _ _ h1, ← Array.getElem?_toList]
    have h6 : (zv l)[j]? = some (.int .i64 x) := by simp [zv, hx]
    rw [← h5, List.getElem?_take, if_pos (by omega), List.getElem?_drop] at h6
    exact h6
/-- its head cut off -/
theorem HAt.tail {w : World} {g off c : Nat} {x : Int} {l : List Int} (h : HAt w (.slice (some ⟨g, off, none⟩) (l.length + 1) c) (x :: l)) : HAt w (.slice (some ⟨g, off + 1, none⟩) l.length (c - 1)) l := by
  rcases h with ⟨e, _⟩ | ⟨g', off', c', cur, e, h1, h2, h3, h4, h5⟩
  · cases e
  · injection e with e1 e2 e3
    injection e1 with e1
    injection e1 with e1 e4 e5
    subst e1 e3 e4
    simp only [List.length_cons] at h2 h5
    refine .inr ⟨g, off + 1, c - 1, cur, rfl, h1, by omega, by omega, by omega, ?_⟩
    have h6 : (zv (x :: l)).drop 1 = zv l := rfl
    rw [← h6, ← h5, List.drop_take, List.drop_drop]
    congr 1

/-- an append where there is room, the slice beginning at whatever cell of its block -/
theorem run_append_room_off {P : Program} (w : World) (t ty e : TypeId) (i : TypeInfo) (ht : P.underlying t = some (.slice e)) (hi : P.info? e = some i)
    (g off sLen sCap : Nat) (cur : Array Value) (hg : w.heap[g]? = some (.cells cur e (0, 0)))
    (a : Addr) (m c : Nat) (news : List Value) (hl : news.length = m * i.size) (hnews : ∀ j u, news[j]? = some u → w.cell? (a.add j) = some u) (h1 : ∀ u ∈ news, u.oneCell' = true)
    (hroom : sLen + m ≤ sCap) (hfit : off + sLen * i.size + news.length ≤ cur.size) :
    (Builtin.append_ #[t, t] ty #[.slice (some ⟨g, off, none⟩) sLen sCap, .slice (some a) m c]).run P w =
      .ok (.slice (some ⟨g, off, none⟩) (sLen + m) sCap) (w.setRow g (cur.toList.take (off + sLen * i.size) ++ news ++ cur.toList.drop (off + sLen * i.size + news.length)).toArray) := by
  have hf := run_firstCells_some (P := P) w i.size m a m c news hl hnews
  have hst := run_storeCells_at P g (off + sLen * i.size) e news 0 cur w hg (by simpa using hfit) h1
  simp only [Nat.add_zero] at hst
  have ha : (⟨g, off, none⟩ : Addr).add (sLen * i.size) = ⟨g, off + sLen * i.size, none⟩ := addr_add _ _ _
  simp [Builtin.append_, run_underlying ht, Go.sizeOf, typeInfo, hi, Builtin.lenOf, hroom, hf, ha, hst]

theorem held_push {w : World} {q : Value} {l : List Int} (h : HAt w q l) (hn : l.length ≤ 8796093022200) (o : Int) (ty : TypeId) :
    ∃ q' w', (Builtin.append_ #[80, 80] ty #[q, .slice (some ⟨w.heap.size, 0, none⟩) 1 1]).run Tryz.prog (w.alloc (.cells #[.int .i64 o] 3)) = .ok q' w' ∧
      HAt w' q' (l ++ [o]) ∧ (∀ g, qblk q' = some g → qblk q = some g ∨ w.heap.size ≤ g) ∧ (∀ k, k < w.heap.size → (∀ g, qblk q = some g → k ≠ g) → w'.heap[k]? = w.heap[k]?) ∧ w.heap.size ≤ w'.heap.size ∧
      (w'.os = w.os ∧ w'.tape = w.tape ∧ w'.output = w.output) ∧ ∃ a c, q' = .slice (some a) (l.length + 1) c := by
  obtain ⟨i, hi, hz, h1, h2⟩ := info_of infoI
  have hnb : (w.alloc (.cells #[.int .i64 o] 3)).heap[w.heap.size]? = some (.cells #[.int .i64 o] 3 (0, 0)) := heap_alloc_new w _
  have hnews : ∀ j u, [Value.int .i64 o][j]? = some u → (w.alloc (.cells #[.int .i64 o] 3)).cell? ((⟨w.heap.size, 0, none⟩ : Addr).add j) = some u := by
    intro j u hu
    rw [addr_add, Nat.zero_add, cell_of_row _ _ _ _ _ _ hnb]
    simpa using hu
  have hone : ∀ u ∈ [Value.int .i64 o], u.oneCell' = true := by intro u hu; simp at hu; subst hu; rfl
  rcases h with ⟨rfl, rfl⟩ | ⟨g, off, c, cur, rfl, hg, hlc, hcm, hfit, hrd⟩
  · have hr := run_append_nil (P := Tryz.prog) (w := w.alloc (.cells #[.int .i64 o] 3)) 80 ty 3 i _ Tryz.underlying80 hi hz ⟨w.heap.size, 0, none⟩ 1 1 [.int .i64 o] (by rw [h1]; rfl) hnews (by decide) (by decide) (by rw [h2]; decide)
    have hcap := grownCap_ge (w.alloc (.cells #[.int .i64 o] 3)) 1 0 3
    have hcap2 := grownCap_le_maxLen (w.alloc (.cells #[.int .i64 o] 3)) 1 0 3 (by decide)
    refine ⟨_, _, hr, .inr ⟨_, 0, _, _, rfl, heap_alloc_new _ _, hcap, hcap2, ?_, ?_⟩, fun g hg => ?_, fun k hk _ => ?_, ?_, ⟨rfl, rfl, rfl⟩, _, _, rfl⟩
    · have hz2 : (Value.int .i64 0).cells.size = 1 := rfl
      simp only [Array.size_append, List.size_toArray, List.length_cons, List.length_nil, size_zeroCells, hz2]
      omega
    · simp [zv]
    · simp only [qblk, Option.some.injEq] at hg
      right
      rw [← hg]
      simp
    · rw [heap_alloc_old _ _ (by simp; omega)]
      exact heap_alloc_old _ _ hk
    · simp [World.size_alloc]; omega
  · have hga : (w.alloc (.cells #[.int .i64 o] 3)).heap[g]? = some (.cells cur 3 (0, 0)) := (heap_alloc_old _ _ (Array.getElem?_eq_some_iff.1 hg).1).trans hg
    have hgl := (Array.getElem?_eq_some_iff.1 hg).1
    have hal := zv_length l
    by_cases hroom : l.length + 1 ≤ c
    · have hr := run_append_room_off (P := Tryz.prog) (w.alloc (.cells #[.int .i64 o] 3)) 80 ty 3 i Tryz.underlying80 hi g off l.length c cur hga ⟨w.heap.size, 0, none⟩ 1 1 [.int .i64 o] (by rw [h1]; rfl) hnews hone hroom (by rw [h1]; simp; omega)
      rw [h1] at hr
      refine ⟨_, _, hr, .inr ⟨g, off, c, _, by rw [List.length_append]; rfl, setRow_heap _ _ _ _ _ _ hga, by rw [List.length_append]; exact hroom, hcm, ?_, ?_⟩, fun g2 hg2 => .inl hg2, fun k hk hkg => ?_, ?_, ⟨rfl, rfl, rfl⟩, _, _, rfl⟩
      · simp only [List.size_toArray, List.length_append, List.length_take, List.length_drop, Array.length_toList, List.length_cons, List.length_nil]
        omega
      · rw [zv_append, List.length_append]
        simp only [List.toList_toArray, List.length_cons, List.length_nil]
        have hlen1 : (cur.toList.take (off + l.length * 1)).length = off + l.length * 1 := by rw [List.length_take, show cur.toList.length = cur.size from Array.length_toList]; omega
        rw [List.append_assoc, List.drop_append_of_le_length (by rw [hlen1]; omega)]
        have e1 : (cur.toList.take (off + l.length * 1)).drop off = zv l := by rw [List.drop_take, Nat.add_sub_cancel_left]; exact hrd
        rw [e1, ← List.append_assoc, List.take_append_of_le_length (by simp [zv] <;> omega), List.take_of_length_le (by simp [zv] <;> omega)]
        rfl
      · rw [setRow_other _ _ _ _ (hkg g rfl)]
        exact heap_alloc_old _ _ hk
      · simp [World.setRow, World.size_alloc]
    · have hcn : c = l.length := by omega
      have holds : ∀ j u, (zv l)[j]? = some u → (w.alloc (.cells #[.int .i64 o] 3)).cell? ((⟨g, off, none⟩ : Addr).add j) = some u := by
        intro j u hu
        rw [addr_add, cell_of_row _ _ _ _ _ _ hga, ← Array.getElem?_toList]
        rw [← hrd, List.getElem?_take] at hu
        split at hu
        · rw [List.getElem?_drop] at hu; exact hu
        · cases hu
      have hr := run_append_grow (P := Tryz.prog) (w := w.alloc (.cells #[.int .i64 o] 3)) 80 ty 3 i _ Tryz.underlying80 hi hz ⟨g, off, none⟩ l.length c (zv l) (by rw [h1, Nat.mul_one]; exact hal) holds ⟨w.heap.size, 0, none⟩ 1 1 [.int .i64 o] (by rw [h1]; rfl) hnews (by omega) (by omega) (growslice_fits (by omega) (by rw [h2]; omega))
      have hcap := grownCap_ge (w.alloc (.cells #[.int .i64 o] 3)) (l.length + 1) c 3
      have hcap2 := grownCap_le_maxLen (w.alloc (.cells #[.int .i64 o] 3)) (l.length + 1) c 3 (by unfold maxLen; omega)
      refine ⟨_, _, hr, .inr ⟨_, 0, _, _, by rw [List.length_append]; rfl, heap_alloc_new _ _, by rw [List.length_append]; exact hcap, hcap2, ?_, ?_⟩, fun g2 hg2 => ?_, fun k hk _ => ?_, ?_, ⟨rfl, rfl, rfl⟩, _, _, rfl⟩
      · have hz2 : (Value.int .i64 0).cells.size = 1 := rfl
        simp only [Array.size_append, List.size_toArray, List.length_cons, List.length_nil, size_zeroCells, hz2, hal]
        omega
      · rw [zv_append, List.length_append]
        simp only [Array.toList_append, List.drop_zero, List.toList_toArray, List.length_cons, List.length_nil]
        rw [List.take_append_of_le_length (by simp [zv] <;> omega), List.take_of_length_le (by simp [zv] <;> omega)]
        rfl
      · simp only [qblk, Option.some.injEq] at hg2
        right
        rw [← hg2]
        simp
      · rw [heap_alloc_old _ _ (by simp; omega)]
        exact heap_alloc_old _ _ hk
      · simp [World.size_alloc]; omega
end Mun
end

section
/- Numbers' bits, as the walk writes them. -/
set_option maxRecDepth 100000
set_option linter.unusedVariables false
namespace Mun
open Go Go.RowKit

theorem and_low64 (n : Int) (k : Nat) (hk : k < 63) (c : Int) (hc : c = ((2 ^ k - 1 : Nat) : Int)) (hcb : (BitVec.ofInt 64 c).toNat = 2 ^ k - 1) : bits .and .i64 n c = n % ((2 ^ k : Nat) : Int) := by
  have key : (BitVec.ofInt 64 n &&& BitVec.ofInt 64 c).toNat = (n % ((2 ^ 64 : Nat) : Int)).toNat % 2 ^ k := by
    rw [BitVec.toNat_and, BitVec.toNat_ofInt, hcb, Nat.and_two_pow_sub_one_eq_mod]
  show IntKind.i64.wrap ((BitVec.ofInt 64 n &&& BitVec.ofInt 64 c).toNat : Nat) = _
  rw [key, IntKind.wrap_i64]
  have h2 : (2 : Nat) ^ k < 2 ^ 63 := Nat.pow_lt_pow_right (by decide) hk
  have hpos : 0 < (2 : Nat) ^ k := Nat.two_pow_pos k
  have hm : (n % ((2 ^ 64 : Nat) : Int)).toNat % 2 ^ k < 2 ^ k := Nat.mod_lt _ hpos
  have hd : ((2 ^ k : Nat) : Int) ∣ ((2 ^ 64 : Nat) : Int) := Int.natCast_dvd_natCast.2 (Nat.pow_dvd_pow 2 (by omega))
  have e1 : (((n % ((2 ^ 64 : Nat) : Int)).toNat % 2 ^ k : Nat) : Int) = n % ((2 ^ k : Nat) : Int) := by
    rw [Int.natCast_emod, Int.toNat_of_nonneg (Int.emod_nonneg _ (by decide)), Int.emod_emod_of_dvd _ hd]
  rw [e1]
  have hlo : 0 ≤ n % ((2 ^ k : Nat) : Int) := Int.emod_nonneg _ (by omega)
  have hhi : n % ((2 ^ k : Nat) : Int) < ((2 ^ k : Nat) : Int) := Int.emod_lt_of_pos _ (by omega)
  omega


theorem and_3 (n : Int) : ∃ q : Nat, bits .and .i64 n 3 = (q : Int) ∧ q < 4 := by
  refine ⟨(n % 4).toNat, ?_, by omega⟩
  rw [and_low64 n 2 (by decide) 3 (by decide) (by decide)]
  show n % 4 = _
  omega
theorem and_7 (n : Int) : ∃ q : Nat, bits .and .i64 n 7 = (q : Int) ∧ q < 8 := by
  refine ⟨(n % 8).toNat, ?_, by omega⟩
  rw [and_low64 n 3 (by decide) 7 (by decide) (by decide)]
  show n % 8 = _
  omega
end Mun
end

section
/- What stays true in the walk of PoolPins; Pin there, whatever the page. -/
set_option maxRecDepth 100000
set_option linter.unusedVariables false
set_option linter.unusedSimpArgs false
namespace Mun
open Go Go.RowKit
open Go.Proofs

def bcells (D L Pb : Nat) : Array Value := #[.pointer (some ⟨D, 0, none⟩), .pointer (some ⟨L, 0, none⟩), .pointer (some ⟨Pb, 0, none⟩)]
abbrev ZQ (q : Value) : Foot := fun k => qblk q = some k

/-- the law's own memory -/
structure PSm (w0 w : World) (D L Pb Bx : Nat) (q : Value) (v : PLV) (held : List Int) : Prop where
  box : w.heap[Bx]? = some (.cells (bcells D L Pb) 28 (0, 0))
  row : HAt w q held
  below : Below w0.heap.size w0 w
  pf : ∀ k, pfoot Pb v k → w0.heap.size ≤ k
  qf : ∀ k, qblk q = some k → w0.heap.size ≤ k

abbrev PoolL (w : World) (D L Pb : Nat) (q : Value) (Fd : Foot) (p : PM) (v : PLV) : Prop := PoolAt w D L Pb (ZQ q) Fd (DM.new 24 65536) p v

/-- the whole state -/
structure PS (w0 w : World) (D L Pb Bx : Nat) (q : Value) (Fd : Foot) (p : PM) (v : PLV) (held : List Int) (k : Nat) : Prop where
  pool : PoolL w D L Pb q Fd p v
  mem : PSm w0 w D L Pb Bx q v held
  pin : PinI v.fs held k 24
  klen : held.length ≤ k

section
variable {w0 w w' : World} {D L Pb Bx : Nat} {q : Value} {Fd : Foot} {p p' : PM} {v v' : PLV} {held : List Int} {k : Nat}

/-- the pool's blocks are none of the law's -/
theorem PSm.apart (h : PSm w0 w D L Pb Bx q v held) (hp : PoolL w D L Pb q Fd p v) : ¬ pfoot Pb v Bx ∧ (∀ g, qblk q = some g → ¬ pfoot Pb v g) := by
  refine ⟨fun hk => ?_, fun g hg hk => ?_⟩
  · rcases hk with hk | hk | hk | hk
    · exact blk_ne h.box hp.rep.blk (by decide) hk
    · exact blk_ne h.box hp.rep.fbl (by decide) hk
    · exact blk_ne_map h.box hp.rep.mp hk
    · exact blk_ne_map h.box hp.rep.dm hk
  · obtain ⟨cur, hc⟩ := h.row.blk hg
    rcases hk with hk | hk | hk | hk
    · exact blk_ne hc hp.rep.blk (by decide) hk
    · exact blk_ne hc hp.rep.fbl (by decide) hk
    · exact blk_ne_map hc hp.rep.mp hk
    · exact blk_ne_map hc hp.rep.dm hk

/-- the pool has turned, the law's own memory has not -/
theorem PSm.turn (h : PSm w0 w D L Pb Bx q v held) (hp : PoolL w D L Pb q Fd p v) (hc : Chg (pfoot Pb v) (pfoot Pb v) w w') (hv : pfoot Pb v' = pfoot Pb v) : PSm w0 w' D L Pb Bx q v' held := by
  obtain ⟨a1, a2⟩ := h.apart hp
  exact ⟨(hc.block _ (Array.getElem?_eq_some_iff.1 h.box).1 a1).trans h.box, h.row.keep (fun g hg => by
      obtain ⟨cur, hcu⟩ := h.row.blk hg
      exact hc.block g (Array.getElem?_eq_some_iff.1 hcu).1 (a2 g hg)),
    h.below.trans (hc.below h.below.size (fun k hk hf => by have := h.pf k hf; omega)), fun k hk => h.pf k (hv ▸ hk), h.qf⟩

/-- what Pin comes to -/
inductive PinCase (w0 : World) (D L Pb Bx : Nat) (q : Value) (Fd : Foot) (held : List Int) (k n : Nat) (w' : World) : Nat → Int → Prop
  | arg {p : PM} {v : PLV} : 24 ≤ n → PS w0 w' D L Pb Bx q Fd p v held k → PinCase w0 D L Pb Bx q Fd held k n w' 0 1
  | held {p : PM} {v : PLV} {i : Nat} {x : FV} : n < 24 → (n : Int) ∈ held → PoolL w' D L Pb q Fd p v → PSm w0 w' D L Pb Bx q v held → v.fs[i]? = some x → x.1.pg = (n : Int) → x.1.pins = 2 →
      PinI (v.fs.set i ({ x.1 with pins := x.1.pins - 1 }, x.2)) held k 24 → held.length ≤ k → PinCase w0 D L Pb Bx q Fd held k n w' 512 0
  | full {p : PM} {v : PLV} : n < 24 → (n : Int) ∉ held → held.length = k → PS w0 w' D L Pb Bx q Fd p v held k → PinCase w0 D L Pb Bx q Fd held k n w' 0 7
  | new {p : PM} {v : PLV} : n < 24 → (n : Int) ∉ held → held.length < k → PoolL w' D L Pb q Fd p v → PSm w0 w' D L Pb Bx q v held → PinI v.fs (held ++ [(n : Int)]) k 24 → PinCase w0 D L Pb Bx q Fd held k n w' 512 0

theorem PinCase.mem {w0 w' : World} {D L Pb Bx : Nat} {q : Value} {Fd : Foot} {held : List Int} {k n ln : Nat} {ev : Int} (h : PinCase w0 D L Pb Bx q Fd held k n w' ln ev) : (∃ v, PSm w0 w' D L Pb Bx q v held) ∧ held.length ≤ k := by
  cases h with
  | arg _ h => exact ⟨⟨_, h.mem⟩, h.klen⟩
  | held _ _ _ hm _ _ _ _ hk => exact ⟨⟨_, hm⟩, hk⟩
  | full _ _ _ h => exact ⟨⟨_, h.mem⟩, h.klen⟩
  | new _ _ hk _ hm _ => exact ⟨⟨_, hm⟩, Nat.le_of_lt hk⟩

def PinAny (w0 : World) (D L Pb Bx : Nat) (q : Value) (Fd : Foot) (held : List Int) (k n : Nat) (e : Ending) (w' : World) : Prop :=
  ∃ (a : Option Addr) (ln : Nat) (ev : Int), e = .returned (.tuple #[.slice a ln ln, .int .i64 ev]) ∧ PinCase w0 D L Pb Bx q Fd held k n w' ln ev

/-- a number laid behind the row of those that are pinned -/
theorem PS.push (hm : PSm w0 w D L Pb Bx q v held) (hp : PoolL w D L Pb q Fd p v) (hl : held.length ≤ 8) (x : Int) (ty : TypeId) :
    ∃ q' w', (Builtin.append_ #[80, 80] ty #[q, .slice (some ⟨w.heap.size, 0, none⟩) 1 1]).run Tryz.prog (w.alloc (.cells #[.int .i64 x] 3)) = .ok q' w' ∧
      PoolL w' D L Pb q' Fd p v ∧ PSm w0 w' D L Pb Bx q' v (held ++ [x]) ∧ ∃ a c, q' = .slice (some a) (held.length + 1) c := by
  obtain ⟨q', w', hr, hrow, hblk, hk, hsz, ⟨hos, htp, hou⟩, hform⟩ := held_push hm.row (by omega) x ty
  obtain ⟨a1, a2⟩ := hm.apart hp
  have hq' : ∀ g, qblk q' = some g → qblk q = some g ∨ (w.heap.size ≤ g ∧ g < w'.heap.size) := fun g hg => by
    rcases hblk g hg with h1 | h1
    · exact .inl h1
    · obtain ⟨cur, hc⟩ := hrow.blk hg
      exact .inr ⟨h1, (Array.getElem?_eq_some_iff.1 hc).1⟩
  have hkeep : ∀ k, k < w.heap.size → qblk q ≠ some k → w'.heap[k]? = w.heap[k]? := fun k h1 h2 => hk k h1 (fun g hg e => h2 (by rw [hg, e]))
  have hbx := (Array.getElem?_eq_some_iff.1 hm.box).1
  have hbq : qblk q ≠ some Bx := fun e => by
    obtain ⟨cur, hc⟩ := hm.row.blk e
    exact blk_ne hm.box hc (by decide) rfl
  refine ⟨q', w', hr, ⟨?_, ?_, hp.alive⟩, ⟨(hkeep _ hbx hbq).trans hm.box, hrow, ?_, hm.pf, fun g hg => ?_⟩, hform⟩
  · refine hp.disk.frame (fun k h1 h2 => hkeep k h1 (fun e => h2 (.inr e))) hsz (fun k h1 => ?_)
    rcases h1 with h1 | h1
    · exact .inl (.inl h1)
    · rcases hq' k h1 with h2 | h2
      · exact .inl (.inr h2)
      · exact .inr h2
  · refine hp.rep.keep (fun k h1 h2 => ?_) (fun k h1 h2 => ?_)
    · rcases h2 with h2 | h2
      · exact hkeep k h1 (fun e => a2 k e h2)
      · exact hkeep k h1 (fun e => h2 (.inl (.inr e)))
    · rcases h2 with (h2 | h2) | h2
      · exact .inl (.inl h2)
      · rcases hq' k h2 with h3 | h3
        · exact .inl (.inr h3)
        · omega
      · exact .inr h2
  · exact ⟨hos.trans hm.below.os, htp.trans hm.below.tape, hou.trans hm.below.output, Nat.le_trans hm.below.size hsz, fun k hk0 => (hkeep k (by have := hm.below.size; omega) (fun e => by have := hm.qf k e; omega)).trans (hm.below.block k hk0)⟩
  · rcases hq' g hg with h1 | h1
    · exact hm.qf g h1
    · have := hm.below.size; omega

/-- new memory alone -/
theorem PSm.more (h : PSm w0 w D L Pb Bx q v held) (hb : Below w.heap.size w w') : PSm w0 w' D L Pb Bx q v held :=
  ⟨(hb.block _ (Array.getElem?_eq_some_iff.1 h.box).1).trans h.box, h.row.keep (fun g hg => by
      obtain ⟨cur, hcu⟩ := h.row.blk hg
      exact hb.block g (Array.getElem?_eq_some_iff.1 hcu).1), h.below.trans (hb.mono h.below.size), h.pf, h.qf⟩
theorem PS.more (h : PS w0 w D L Pb Bx q Fd p v held k) (hb : Below w.heap.size w w') : PS w0 w' D L Pb Bx q Fd p v held k := ⟨h.pool.below hb, h.mem.more hb, h.pin, h.klen⟩

/-- the first one unpinned -/
theorem PS.first {x : Int} {l : List Int} (h : PS w0 w D L Pb Bx q Fd p v (x :: l) k) : ∃ (i : Nat) (y : FV), v.fs[i]? = some y ∧ y.1.pg = x ∧ y.1.pins = 1 ∧ 0 ≤ x ∧ PinI (v.fs.set i ({ y.1 with pins := y.1.pins - 1 }, y.2)) l k 24 ∧ i < v.fs.length := by
  obtain ⟨i, y, hy, hp, hpn, -, -⟩ := h.pin.at_ (n := x) (List.mem_cons_self ..)
  have hnd := h.pin.nd
  rw [List.nodup_cons] at hnd
  have h0 := (h.pin.rng x (List.mem_cons_self ..)).1
  refine ⟨i, y, hy, hp, hpn, h0, ?_, (List.getElem?_eq_some_iff.1 hy).1⟩
  refine h.pin.set h.pool.rep.mok (y := ({ y.1 with pins := y.1.pins - 1 }, y.2)) hy rfl rfl rfl (by omega) ?_ hnd.2 (fun j hj => h.pin.rng j (List.mem_cons_of_mem _ hj)) (fun j hj => ?_)
  · show y.1.pins - 1 = _
    rw [hp, if_neg hnd.1]
    omega
  · rw [hp] at hj
    simp [hj]

/-- the head cut off -/
theorem PSm.cut {g off c : Nat} {x : Int} {l : List Int} (hm : PSm w0 w D L Pb Bx (.slice (some ⟨g, off, none⟩) (l.length + 1) c) v (x :: l)) : PSm w0 w D L Pb Bx (.slice (some ⟨g, off + 1, none⟩) l.length (c - 1)) v l :=
  ⟨hm.box, hm.row.tail, hm.below, hm.pf, hm.qf⟩
theorem PSm.cut0 {g off : Nat} {x : Int} (hm : PSm w0 w D L Pb Bx (.slice (some ⟨g, off, none⟩) 1 1) v [x]) : PSm w0 w D L Pb Bx (.slice (some ⟨g, off, none⟩) 0 0) v [] := by
  refine ⟨hm.box, ?_, hm.below, hm.pf, hm.qf⟩
  rcases hm.row with ⟨e, _⟩ | ⟨g', off', c', cur, e, h1, h2, h3, h4, h5⟩
  · cases e
  · injection e with e1 e2 e3
    injection e1 with e1
    injection e1 with e1 e4 e5
    subst e1 e3 e4
    exact .inr ⟨g, off, 0, cur, rfl, h1, Nat.zero_le _, Nat.zero_le _, by omega, by simp [zv]⟩
/-- the row's head cut off, as the program writes the slice that is left -/
theorem PS.cut {g off m c : Nat} {x : Int} {l : List Int} (hp : PoolL w D L Pb (.slice (some ⟨g, off, none⟩) m c) Fd p v) (hm : PSm w0 w D L Pb Bx (.slice (some ⟨g, off, none⟩) m c) v (x :: l)) (hl : m = (x :: l).length) (hmc : m ≤ c) (hi : PinI v.fs l k 24) (hk : l.length ≤ k) :
    (c = 1 → PS w0 w D L Pb Bx (.slice (some ⟨g, off, none⟩) (m - 1) 0) Fd p v l k) ∧ (¬ c = 1 → PS w0 w D L Pb Bx (.slice (some ⟨g, off + 1, none⟩) (m - 1) (c - 1)) Fd p v l k) := by
  simp only [List.length_cons] at hl
  subst hl
  refine ⟨fun hc => ?_, fun hc => ?_⟩
  · subst hc
    obtain rfl : l = [] := List.length_eq_zero_iff.1 (by omega)
    exact ⟨hp, hm.cut0, hi, hk⟩
  · exact ⟨hp, hm.cut, hi, hk⟩
end

end Mun
end

section
/- PoolKnown's parts: frames; Put of a page that is not held. -/
set_option maxRecDepth 100000
set_option linter.unusedVariables false
set_option linter.unusedSimpArgs false
namespace Mun
open Go Go.RowKit
open Go.Proofs

theorem put_no (w : World) (Pb D L : Nat) (F : Foot) (p : PM) (v : PLV) (h : PRep w Pb D L F p v) (n : Int) (hn : NotHeld v n) (b : Value) (lsn : Nat) :
    Calls Tryz.prog 21 #[.pointer (some ⟨Pb, 0, none⟩), .int .i64 n, b, .int .u64 (lsn : Int)] w fun e w' => e = .returned (.int .i64 18) ∧ w = w' := by
  have hh := held_no w Pb D L F p v h n hn
  clear h hn
  go_enter Tryz.func21, Tryz.ntmps21
  go_wp2_with fail
  refine hh.mono ?_
  rintro e w' ⟨rfl, rfl⟩
  go_wp2
  go_ret
  exact ⟨rfl, rfl⟩

end Mun
end
