/- Contract of what reads a change. -/
import Derived.Test.YtoblajbffnkkiaaRecF
import Derived.Laws.Rows
import Derived.Laws.Tables
set_option maxRecDepth 100000
set_option linter.unusedVariables false
set_option linter.unusedSimpArgs false
namespace Mun
open Go Go.RowKit
open Go.Proofs

theorem infoC : (Try.prog.info? 81).map (·.size) = some 4 := by kernel_rfl

/-- a new block beside the cursor -/
structure BxC (F : Foot) (w0 w : World) (C g : Nat) (cs : Array Value) (ty : TypeId) (v : Value) (l : List UInt8) : Prop where
  blk : w.heap[g]? = some (.cells cs ty (0, 0))
  cur : CurAt F w C v l
  chg : Chg (B1 C) (B1 C) w0 w
  new : w0.heap.size ≤ g
  ne : C < w0.heap.size
  hg : F g

theorem block_setCell {w : World} {g i : Nat} {cs : Array Value} {ty : TypeId} (h : w.heap[g]? = some (.cells cs ty (0, 0))) (u : Value) : (w.setCell ⟨g, i, none⟩ u).heap[g]? = some (.cells (cs.setIfInBounds i u) ty (0, 0)) := by
  have hlt := lt_of_block h
  have h' : w.heap[g] = .cells cs ty (0, 0) := by simpa [Array.getElem?_eq_getElem hlt] using h
  show (w.heap.modify g _)[g]? = _
  rw [Array.getElem?_modify]
  simp [h]
theorem block_setCell_ne {w : World} {g k i : Nat} (u : Value) (h : k ≠ g) : (w.setCell ⟨g, i, none⟩ u).heap[k]? = w.heap[k]? := by
  show (w.heap.modify g _)[k]? = _
  rw [Array.getElem?_modify, if_neg (Ne.symm h)]

section
variable {F : Foot} {w0 w w' : World} {C g : Nat} {cs : Array Value} {ty : TypeId} {v : Value} {l l' : List UInt8}
theorem BxC.gC (h : BxC F w0 w C g cs ty v l) : C ≠ g := by have := h.new; have := h.ne; omega
theorem BxC.call (h : BxC F w0 w C g cs ty v l) (hp : CPost F w C l' w') : ∃ v', BxC F w0 w' C g cs ty v' l' := by
  obtain ⟨v', hc, hg⟩ := hp
  have hlt := lt_of_block h.blk
  exact ⟨v', by rw [hg.block g hlt (fun e => h.gC (Eq.symm e))]; exact h.blk, hc, h.chg.trans hg, h.new, h.ne, h.hg⟩
theorem BxC.set (h : BxC F w0 w C g cs ty v l) (i : Nat) (u : Value) : BxC F w0 (w.setCell ⟨g, i, none⟩ u) C g (cs.setIfInBounds i u) ty v l := by
  refine ⟨block_setCell h.blk u, ⟨by rw [block_setCell_ne u h.gC]; exact h.cur.blk, h.cur.rd.chg (chg_setCell w _ u h.hg), h.cur.hC⟩, ?_, h.new, h.ne, h.hg⟩
  have hs : (w.setCell ⟨g, i, none⟩ u).heap.size = w.heap.size := by simp [World.setCell]
  refine ⟨h.chg.os, h.chg.tape, h.chg.output, by rw [hs]; exact h.chg.size, fun k hk hn => ?_, fun k hk => ?_⟩
  · rw [block_setCell_ne u (by have := h.new; omega)]; exact h.chg.block k hk hn
  · rw [hs]; exact h.chg.foot k hk
theorem BxC.cell (h : BxC F w0 w C g cs ty v l) (i : Nat) : w.cell? ⟨g, i, none⟩ = cs[i]? := cell_of_row w g i _ _ _ h.blk
theorem BxC.free (h : BxC F w0 w C g cs ty v l) (i : Nat) : w.frozen? ⟨g, i, none⟩ = false := by simp [World.frozen?, h.blk]
theorem BxC.start (hc : CurAt F w C v l) (cs : Array Value) (ty : TypeId) (hg : F w.heap.size) : BxC F w (w.alloc (.cells cs ty)) C w.heap.size cs ty v l :=
  ⟨heap_alloc_new w _, hc.below ((Below.refl _ _).alloc (Nat.le_refl _) _), chg_alloc w _, Nat.le_refl _, hc.lt, hg⟩
end

set_option maxHeartbeats 1000000 in
theorem change_any {F : Foot} (w : World) (C : Nat) (v : Value) (c : PC) (l : List UInt8) (hc : GoodC c) (h : CurAt F w C v (chB c ++ l)) (hF : ∀ k, w.heap.size ≤ k → F k) :
    Calls Try.prog 79 #[.pointer (some ⟨C, 0, none⟩)] w fun e w' => ∃ g n, e = .returned (.agg #[.int .i64 c.page, .int .i64 c.at_, .bool c.whole, .slice (some ⟨g, 0, none⟩) n n]) ∧ Hid (n = c.b.length) ∧
      OwnB w' w.heap.size 5 (.slice (some ⟨g, 0, none⟩) n n) c.b ∧ CPost F w C l w' := by
  obtain ⟨pg, hpg⟩ := Int.eq_ofNat_of_zero_le hc.p0
  obtain ⟨ag, hag⟩ := Int.eq_ofNat_of_zero_le hc.a0
  have hp1 : pg < 65536 := by have := hc.p1; omega
  have ha1 : ag ≤ 512 := by have := hc.a1; omega
  have hbl : c.b.length ≤ 512 := by have := hc.len; have := hc.a0; omega
  unfold chB at h
  rw [hpg, hag, Int.toNat_natCast, Int.toNat_natCast] at h
  rw [hpg, hag]
  simp only [List.append_assoc, List.cons_append, List.nil_append] at h
  have hb1 := BxC.start h #[.int .i64 0, .int .i64 0, .bool false, .slice none 0 0] 81 (hF _ (Nat.le_refl _))
  have HB1 := Lib.hid hb1
  have HBL := Lib.hid hbl
  have HMS : Hid (∀ w1, Calls Try.prog 78 #[.bool true] w1 fun e w' => e = .returned (.tuple #[]) ∧ w1 = w') := fun w1 => must_yes w1
  obtain ⟨G, hG⟩ : ∃ G, w.heap.size = G := ⟨_, rfl⟩
  obtain ⟨w1, hw1⟩ : ∃ w1, w.alloc (.cells #[.int .i64 0, .int .i64 0, .bool false, .slice none 0 0] 81) = w1 := ⟨_, rfl⟩
  rw [hw1, hG] at HB1
  clear h hb1 hbl hc hpg hag
  cases hw : c.whole with
  | true =>
    have hwb : wb c = 1 := by unfold wb; rw [hw]; rfl
    rw [hwb] at HB1
    clear hw hwb
    go_enter Try.func79, Try.ntmps79
    go_wp2_with fail
    refine (small_any w1 C v pg _ (by omega) HB1.out.cur).mono ?_
    rintro e w2 ⟨rfl, hp2⟩
    obtain ⟨v2, hb2⟩ := HB1.out.call hp2
    have HB2 := Lib.hid hb2
    clear hb2 hp2 hw1
    go_wp2_with fail
    refine (small_any w2 C v2 ag _ (by omega) HB2.out.cur).mono ?_
    rintro e w3 ⟨rfl, hp3⟩
    obtain ⟨v3, hb3⟩ := HB2.out.call hp3
    have c0 : w3.cell? ⟨G, 0, none⟩ = some (.int .i64 0) := hb3.cell 0
    have c1 : w3.cell? ⟨G, 1, none⟩ = some (.int .i64 0) := hb3.cell 1
    have f0 := hb3.free 0
    have f1 := hb3.free 1
    have hb4 := (hb3.set 0 (.int .i64 pg)).set 1 (.int .i64 ag)
    obtain ⟨w4, hw4⟩ : ∃ w4, (w3.setCell ⟨G, 0, none⟩ (.int .i64 pg)).setCell ⟨G, 1, none⟩ (.int .i64 ag) = w4 := ⟨_, rfl⟩
    rw [hw4] at hb4
    have HB4 := Lib.hid hb4
    clear hb3 hp3 hb4
    go_wp2_with fail
    clear hw4 c0 c1 f0 f1
    refine (byte_any w4 C v3 1 _ HB4.out.cur).mono ?_
    rintro e w5 ⟨rfl, hp5⟩
    obtain ⟨v5, hb5⟩ := HB4.out.call hp5
    rw [show (((1 : UInt8).toNat : Nat) : Int) = 1 from rfl]
    have c2 : w5.cell? ⟨G, 2, none⟩ = some (.bool false) := hb5.cell 2
    have f2 := hb5.free 2
    have hb6 := hb5.set 2 (.bool true)
    obtain ⟨w6, hw6⟩ : ∃ w6, w5.setCell ⟨G, 2, none⟩ (.bool true) = w6 := ⟨_, rfl⟩
    rw [hw6] at hb6
    have HB6 := Lib.hid hb6
    clear hb5 hp5 hb6
    go_wp2_with (go_at_call 78; refine (HMS.out _).mono ?_; rintro e w7 ⟨rfl, rfl⟩)
    clear hw6 c2 f2
    refine (textr_any w6 C v5 c.b l (by have := HBL.out; omega) HB6.out.cur).mono ?_
    rintro e w7 ⟨g7, n7, rfl, HN7, ho7, hp7⟩
    obtain ⟨v7, hb7⟩ := HB6.out.call hp7
    have c3 : w7.cell? ⟨G, 3, none⟩ = some (.slice none 0 0) := hb7.cell 3
    have f3 := hb7.free 3
    have hb8 := hb7.set 3 (.slice (some ⟨g7, 0, none⟩) n7 n7)
    obtain ⟨w8, hw8⟩ : ∃ w8, w7.setCell ⟨G, 3, none⟩ (.slice (some ⟨g7, 0, none⟩) n7 n7) = w8 := ⟨_, rfl⟩
    have ho8 : OwnB w8 w.heap.size 5 (.slice (some ⟨g7, 0, none⟩) n7 n7) c.b := by
      rw [← hw8]
      have h1 := ownsRow_base ho7 (base' := w.heap.size) (fun k hk => by have := (ho7.lt k hk).1; have := HB6.out.chg.size; omega)
      refine OwnB.chg (F := B1 G) (F' := B1 G) h1 (chg_setCell _ _ _ rfl) (fun k hk hkC => by have := (ho7.lt k hk).1; have := lt_of_block HB6.out.blk; have : k = G := hkC; omega)
    rw [hw8] at hb8
    have hblk : w8.heap[G]? = some (.cells #[.int .i64 pg, .int .i64 ag, .bool true, .slice (some ⟨g7, 0, none⟩) n7 n7] 81 (0, 0)) := hb8.blk
    have hself := setRow_self w8 G _ _ _ hblk
    have HBLK := Lib.hid hblk
    have HSELF := Lib.hid hself
    have HB8 := Lib.hid hb8
    have HO8 := Lib.hid ho8
    clear hb7 hp7 hb8 hblk hself ho7 ho8
    go_wp2_with (first
      | (refine wpList_load_row rfl _ _ rfl G rfl _ _ (0, 0) _ HBLK.out Try.underlying81 rfl infoC ?_)
      | (refine wpList_store_row rfl _ _ _ rfl G _ rfl rfl _ _ HBLK.out infoC rfl (by simp [Value.oneCell']) ?_; rw [HSELF.out]))
    have k0 : w8.cell? ⟨G, 0, none⟩ = some (.int .i64 pg) := HB8.out.cell 0
    have k1 : w8.cell? ⟨G, 1, none⟩ = some (.int .i64 ag) := HB8.out.cell 1
    have k2 : w8.cell? ⟨G, 2, none⟩ = some (.bool true) := HB8.out.cell 2
    have k3 : w8.cell? ⟨G, 3, none⟩ = some (.slice (some ⟨g7, 0, none⟩) n7 n7) := HB8.out.cell 3
    refine bodyPost_ret (by simp [results, Try.results79, go_sem, k0, k1, k2, k3]; try rfl) rfl ?_
    exact ⟨g7, n7, rfl, HN7, HO8.out, v7, HB8.out.cur, HB8.out.chg⟩
  | false =>
    have hwb : wb c = 0 := by unfold wb; rw [hw]; rfl
    rw [hwb] at HB1
    clear hw hwb
    go_enter Try.func79, Try.ntmps79
    go_wp2_with fail
    refine (small_any w1 C v pg _ (by omega) HB1.out.cur).mono ?_
    rintro e w2 ⟨rfl, hp2⟩
    obtain ⟨v2, hb2⟩ := HB1.out.call hp2
    have HB2 := Lib.hid hb2
    clear hb2 hp2 hw1
    go_wp2_with fail
    refine (small_any w2 C v2 ag _ (by omega) HB2.out.cur).mono ?_
    rintro e w3 ⟨rfl, hp3⟩
    obtain ⟨v3, hb3⟩ := HB2.out.call hp3
    have c0 : w3.cell? ⟨G, 0, none⟩ = some (.int .i64 0) := hb3.cell 0
    have c1 : w3.cell? ⟨G, 1, none⟩ = some (.int .i64 0) := hb3.cell 1
    have f0 := hb3.free 0
    have f1 := hb3.free 1
    have hb4 := (hb3.set 0 (.int .i64 pg)).set 1 (.int .i64 ag)
    obtain ⟨w4, hw4⟩ : ∃ w4, (w3.setCell ⟨G, 0, none⟩ (.int .i64 pg)).setCell ⟨G, 1, none⟩ (.int .i64 ag) = w4 := ⟨_, rfl⟩
    rw [hw4] at hb4
    have HB4 := Lib.hid hb4
    clear hb3 hp3 hb4
    go_wp2_with fail
    clear hw4 c0 c1 f0 f1
    refine (byte_any w4 C v3 0 _ HB4.out.cur).mono ?_
    rintro e w5 ⟨rfl, hp5⟩
    obtain ⟨v5, hb5⟩ := HB4.out.call hp5
    rw [show (((0 : UInt8).toNat : Nat) : Int) = 0 from rfl]
    have c2 : w5.cell? ⟨G, 2, none⟩ = some (.bool false) := hb5.cell 2
    have f2 := hb5.free 2
    have hb6 := hb5.set 2 (.bool false)
    obtain ⟨w6, hw6⟩ : ∃ w6, w5.setCell ⟨G, 2, none⟩ (.bool false) = w6 := ⟨_, rfl⟩
    rw [hw6] at hb6
    have HB6 := Lib.hid hb6
    clear hb5 hp5 hb6
    go_wp2_with (go_at_call 78; refine (HMS.out _).mono ?_; rintro e w7 ⟨rfl, rfl⟩)
    clear hw6 c2 f2
    refine (textr_any w6 C v5 c.b l (by have := HBL.out; omega) HB6.out.cur).mono ?_
    rintro e w7 ⟨g7, n7, rfl, HN7, ho7, hp7⟩
    obtain ⟨v7, hb7⟩ := HB6.out.call hp7
    have c3 : w7.cell? ⟨G, 3, none⟩ = some (.slice none 0 0) := hb7.cell 3
    have f3 := hb7.free 3
    have hb8 := hb7.set 3 (.slice (some ⟨g7, 0, none⟩) n7 n7)
    obtain ⟨w8, hw8⟩ : ∃ w8, w7.setCell ⟨G, 3, none⟩ (.slice (some ⟨g7, 0, none⟩) n7 n7) = w8 := ⟨_, rfl⟩
    have ho8 : OwnB w8 w.heap.size 5 (.slice (some ⟨g7, 0, none⟩) n7 n7) c.b := by
      rw [← hw8]
      have h1 := ownsRow_base ho7 (base' := w.heap.size) (fun k hk => by have := (ho7.lt k hk).1; have := HB6.out.chg.size; omega)
      refine OwnB.chg (F := B1 G) (F' := B1 G) h1 (chg_setCell _ _ _ rfl) (fun k hk hkC => by have := (ho7.lt k hk).1; have := lt_of_block HB6.out.blk; have : k = G := hkC; omega)
    rw [hw8] at hb8
    have hblk : w8.heap[G]? = some (.cells #[.int .i64 pg, .int .i64 ag, .bool false, .slice (some ⟨g7, 0, none⟩) n7 n7] 81 (0, 0)) := hb8.blk
    have hself := setRow_self w8 G _ _ _ hblk
    have HBLK := Lib.hid hblk
    have HSELF := Lib.hid hself
    have HB8 := Lib.hid hb8
    have HO8 := Lib.hid ho8
    clear hb7 hp7 hb8 hblk hself ho7 ho8
    go_wp2_with (first
      | (refine wpList_load_row rfl _ _ rfl G rfl _ _ (0, 0) _ HBLK.out Try.underlying81 rfl infoC ?_)
      | (refine wpList_store_row rfl _ _ _ rfl G _ rfl rfl _ _ HBLK.out infoC rfl (by simp [Value.oneCell']) ?_; rw [HSELF.out]))
    have k0 : w8.cell? ⟨G, 0, none⟩ = some (.int .i64 pg) := HB8.out.cell 0
    have k1 : w8.cell? ⟨G, 1, none⟩ = some (.int .i64 ag) := HB8.out.cell 1
    have k2 : w8.cell? ⟨G, 2, none⟩ = some (.bool false) := HB8.out.cell 2
    have k3 : w8.cell? ⟨G, 3, none⟩ = some (.slice (some ⟨g7, 0, none⟩) n7 n7) := HB8.out.cell 3
    refine bodyPost_ret (by simp [results, Try.results79, go_sem, k0, k1, k2, k3]; try rfl) rfl ?_
    exact ⟨g7, n7, rfl, HN7, HO8.out, v7, HB8.out.cur, HB8.out.chg⟩
end Mun
