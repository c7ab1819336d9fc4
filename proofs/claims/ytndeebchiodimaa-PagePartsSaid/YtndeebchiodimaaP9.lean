/- Contracts of New, Count, Free, clone, Compact, Set, Seal. -/
import Derived.Test.YtndeebchiodimaaP8
import Derived.Test.YtndeebchiodimaaPageQ
set_option maxRecDepth 100000
set_option linter.unusedVariables false
set_option linter.unusedSimpArgs false
namespace Mun
open Go Go.RowKit
open Go.Proofs

/-- a page is told, in new memory -/
def PageOut (w : World) (p : PBytes) (e : Ending) (w' : World) : Prop := ∃ g, e = .returned (.tuple #[.slice (some ⟨g, 0, none⟩) 512 512, .int .i64 0]) ∧ PgAt w' g p ∧ w.heap.size ≤ g ∧ Below w.heap.size w w'
def PageNo (w : World) (k : Int) (e : Ending) (w' : World) : Prop := e = .returned (.tuple #[.slice none 0 0, .int .i64 k]) ∧ Below w.heap.size w w'

theorem Bx.fin {w w2 w' : World} {b g : Nat} {p : PBytes} (h : Bx w2 w' b g p) (hB : Below w.heap.size w w2) (hg : w.heap.size ≤ g) : Below w.heap.size w w' :=
  hB.trans (h.chg.below hB.size (fun k hk hk2 => by have : k = g := hk2; omega))

theorem PgAt.rdPart {F : Foot} {w : World} {g : Nat} {p : PBytes} (h : PgAt w g p) (hF : ¬ F g) (lo hi : Nat) (h1 : lo ≤ hi) (h2 : hi ≤ 512) (h3 : lo < 512) : RdB F w (.slice (some ⟨g, lo, none⟩) (hi - lo) (512 - lo)) ((p.drop lo).take (hi - lo)) := by
  have := RdB.part (h.rd hF) lo hi h1 (by rw [h.2]; exact h2)
  rw [if_neg (by omega)] at this
  simpa [addr_add] using this
theorem PgAt.rdFrom {F : Foot} {w : World} {g : Nat} {p : PBytes} (h : PgAt w g p) (hF : ¬ F g) (lo : Nat) (h3 : lo < 512) : RdB F w (.slice (some ⟨g, lo, none⟩) (512 - lo) (512 - lo)) (p.drop lo) := by
  have := h.rdPart hF lo 512 (by omega) (Nat.le_refl _) h3
  rw [List.take_of_length_le (by rw [List.length_drop, h.2]; exact Nat.le_refl _)] at this
  exact this

theorem clone5 {F : Foot} (w : World) (v : Value) (l : List UInt8) (hv : RdB F w v l) (hl : l.length ≤ 140737488355328) :
    Calls Try.prog 49 #[v] w fun e w' => e = .returned (.slice (some ⟨w.heap.size, 0, none⟩) l.length l.length) ∧ w.alloc (bobj l) = w' := by
  obtain ⟨a, n, c, rfl, HN, hlc, hcm⟩ := hv.formN
  have hmk := make_bytes0 l.length hl
  have hcp := copied_bytes (ty := 22) hv hl
  rw [← HN.out] at hmk hcp ⊢
  have HR := Lib.hid hcp
  clear hcp hv
  go_enter Try.func49, Try.ntmps49
  go_wp2_with (at_builtin; refine wpList_append_eq rfl rfl HR.out rfl rfl ?_; clear HR)
  go_ret
  exact ⟨rfl, rfl⟩

section
variable {F : Foot} (w : World) (v : Value) (p : List UInt8)

theorem pcount_yes (hv : RdB F w v p) (hg : GoodP p) : Calls Try.prog 33 #[v] w fun e w' => e = .returned (.tuple #[.int .i64 (cnt p), .int .i64 0]) ∧ Below w.heap.size w w' := by
  have hgo := pof_yes w v p hv hg
  have HV := Lib.hid hv
  have HP := Lib.hid hg.len
  obtain ⟨a, n, c, rfl, HN, -, -⟩ := hv.formN
  have HG := Lib.hid hgo
  clear hgo hv hg HN
  go_enter Try.func33, Try.ntmps33
  go_wp2_with fail
  refine HG.out.mono ?_
  rintro e w2 ⟨rfl, hb⟩
  have hv3 : RdB F (w2.alloc (.cells #[.slice a n c] 65)) (.slice a n c) p := RdB.alloc (RdB.below HV.out hb) _
  have hc := count_any _ _ p hv3 HP.out
  have HC := Lib.hid hc
  have HB := Lib.hid (hb.alloc hb.size (.cells #[.slice a n c] 65))
  clear hb hv3 hc
  go_wp2_with fail
  refine HC.out.mono ?_
  rintro e w4 ⟨rfl, hb4⟩
  have HB4 := Lib.hid hb4
  clear hb4
  go_wp2
  go_ret2
  exact ⟨rfl, HB.out.trans (HB4.out.mono HB.out.size)⟩

theorem pfree_yes (hv : RdB F w v p) (hg : GoodP p) : Calls Try.prog 15 #[v] w fun e w' => e = .returned (.tuple #[.int .i64 (freeP p), .int .i64 0]) ∧ Below w.heap.size w w' := by
  have hgo := pof_yes w v p hv hg
  have HV := Lib.hid hv
  have HP := Lib.hid hg
  obtain ⟨a, n, c, rfl, HN, -, -⟩ := hv.formN
  have HG := Lib.hid hgo
  clear hgo hv hg HN
  go_enter Try.func15, Try.ntmps15
  go_wp2_with fail
  refine HG.out.mono ?_
  rintro e w2 ⟨rfl, hb⟩
  have hv3 : RdB F (w2.alloc (.cells #[.slice a n c] 65)) (.slice a n c) p := RdB.alloc (RdB.below HV.out hb) _
  have hc := free_any _ _ p hv3 HP.out.len (by have := HP.out.fit; have := HP.out.low; omega)
  have HC := Lib.hid hc
  have HB := Lib.hid (hb.alloc hb.size (.cells #[.slice a n c] 65))
  clear hb hv3 hc
  go_wp2_with fail
  refine HC.out.mono ?_
  rintro e w4 ⟨rfl, hb4⟩
  have HB4 := Lib.hid hb4
  clear hb4
  go_wp2
  go_ret2
  exact ⟨rfl, HB.out.trans (HB4.out.mono HB.out.size)⟩
end

theorem PgAt.set {w : World} {g : Nat} {p : PBytes} (h : PgAt w g p) (i : Nat) (b : UInt8) (x : Int) (hx : x = b.toNat) : PgAt (w.setCell ⟨g, i, none⟩ (.int .u8 x)) g (p.set i b) := by
  subst hx
  refine ⟨?_, by rw [List.length_set]; exact h.2⟩
  have h1 := h.1
  simp [World.setCell, Array.getElem?_modify, h1, bobj, bv, List.map_set]

theorem new_no (w : World) (kind : Int) (h : kind < 0 ∨ 255 < kind) : Calls Try.prog 30 #[.int .i64 kind] w (PageNo w 1) := by
  rcases h with h | h
  · go_enter Try.func30, Try.ntmps30
    go_wp2
    go_ret2
    exact ⟨rfl, Below.refl _ _⟩
  · have h2 : ¬ kind < 0 := by omega
    go_enter Try.func30, Try.ntmps30
    go_wp2
    go_ret2
    exact ⟨rfl, Below.refl _ _⟩

theorem new_yes (w : World) (k : Nat) (h : k ≤ 255) : Calls Try.prog 30 #[.int .i64 k] w (PageOut w (newP k)) := by
  have hmk : (Instr.makeSlice 22 (.int .i64 512) (.int .i64 512)).run Try.prog w = .ok (.slice (some ⟨w.heap.size, 0, none⟩) 512 512) (w.alloc (bobj (zer 512))) := make_bytes 512 512 (Nat.le_refl _) (by decide) w
  have hpg0 : PgAt (w.alloc (bobj (zer 512))) w.heap.size (zer 512) := PgAt.new w _ (by simp [zer])
  have hbx := Bx.start hpg0
  obtain ⟨w1, hw1⟩ : ∃ w1, w.alloc (bobj (zer 512)) = w1 := ⟨_, rfl⟩
  have hs1 : w1.heap.size = w.heap.size + 1 := by rw [← hw1, World.size_alloc]
  have hb1 : Below w.heap.size w w1 := by rw [← hw1]; exact (Below.refl _ _).alloc (Nat.le_refl _) _
  rw [hw1] at hmk hpg0 hbx
  obtain ⟨w2, hw2⟩ : ∃ w2, w1.alloc (.cells #[.slice (some ⟨w.heap.size, 0, none⟩) 512 512] 65) = w2 := ⟨_, rfl⟩
  rw [hw2] at hbx
  have hx2 := hbx.box
  have hcell : ∃ bb : Int, w2.cell? ⟨w.heap.size, 12, none⟩ = some (.int .u8 bb) := by
    have h1 := hbx.pg.1
    refine ⟨(zer 512)[12].toNat, ?_⟩
    rw [cell_of_row w2 _ 12 _ _ _ h1]
    simp [bv, zer]
  obtain ⟨bb, hcell⟩ := hcell
  have hfr : w2.frozen? ⟨w.heap.size, 12, none⟩ = false := by have h1 := hbx.pg.1; simp only [World.frozen?, h1, bobj]; simp
  have hset := hbx.pg.set 12 (UInt8.ofNat k) (k : Int) (by rw [UInt8.toNat_ofNat']; omega)
  have hch : Chg (G1 w.heap.size) (G1 w.heap.size) w2 (w2.setCell ⟨w.heap.size, 12, none⟩ (.int .u8 (k : Int))) :=
    ⟨rfl, rfl, rfl, by simp [World.setCell], fun j _ hj => Below.heap_setCell _ _ _ _ hj, fun _ h => .inl h⟩
  have hbx3 := hbx.step hset hch
  obtain ⟨w3, hw3⟩ : ∃ w3, w2.setCell ⟨w.heap.size, 12, none⟩ (.int .u8 (k : Int)) = w3 := ⟨_, rfl⟩
  rw [hw3] at hbx3
  have hx3 := hbx3.box
  have HB3 := Lib.hid hbx3
  have HF := Lib.hid (And.intro hs1 hb1)
  have hk : (k : Int) ≤ 255 := by omega
  clear hpg0 hbx hset hch hbx3 hs1 hb1 h
  go_enter Try.func30, Try.ntmps30
  go_wp2_with fail
  refine (put_any _ w.heap.size _ 16 2 16 2 512 rfl rfl HB3.out.pg (by decide) (by decide) (by decide)).mono ?_
  rintro e w4 ⟨rfl, hp4, hc4⟩
  have hbx4 := HB3.out.step hp4 hc4
  have hx4 := hbx4.box
  have HB4 := Lib.hid hbx4
  clear hp4 hc4 hbx4 hx3 hx2
  go_wp2
  go_ret2
  exact ⟨_, rfl, HB4.out.pg, Nat.le_refl _, HB4.out.fin HF.out.2 (Nat.le_refl _)⟩

theorem compact_no {F : Foot} (w : World) (v : Value) (p : List UInt8) (hv : RdB F w v p) (hg : ¬ GoodP p) : Calls Try.prog 12 #[v] w (PageNo w 4) := by
  have hgo := copied_no w v p hv hg
  obtain ⟨a, n, c, rfl, HN, -, -⟩ := hv.formN
  have HG := Lib.hid hgo
  clear hgo hv hg HN
  go_enter Try.func12, Try.ntmps12
  go_wp2_with fail
  refine HG.out.mono ?_
  rintro e w2 ⟨rfl, hb⟩
  have HB := Lib.hid hb
  clear hb
  go_wp2
  go_ret2
  exact ⟨rfl, HB.out.alloc HB.out.size _⟩

theorem compact_yes {F : Foot} (w : World) (v : Value) (p : List UInt8) (hv : RdB F w v p) (hg : GoodP p) (ha : AnewOk p) : Calls Try.prog 12 #[v] w (PageOut w (anewP p)) := by
  have hgo := copied_yes w v p hv hg
  obtain ⟨a, n, c, rfl, HN, -, -⟩ := hv.formN
  have HG := Lib.hid hgo
  have HA := Lib.hid ha
  clear hgo hv hg HN ha
  go_enter Try.func12, Try.ntmps12
  go_wp2_with fail
  refine HG.out.mono ?_
  rintro e w2 ⟨g, rfl, hpg, hgs, hb⟩
  have hbx := Bx.start hpg
  have hx := hbx.box
  have HB := Lib.hid (And.intro hbx (And.intro hgs hb))
  clear hpg hgs hb hbx
  go_wp2_with fail
  refine (anew_any _ g p HB.out.1.pg HA.out.fit HA.out.cell).mono ?_
  rintro e w3 ⟨rfl, hp3, hc3⟩
  have hbx3 := HB.out.1.step hp3 hc3
  have hx3 := hbx3.box
  have HB3 := Lib.hid hbx3
  clear hp3 hc3 hbx3 hx
  go_wp2
  go_ret2
  exact ⟨g, rfl, HB3.out.pg, HB.out.2.1, HB3.out.fin HB.out.2.2 HB.out.2.1⟩

theorem set_no {F : Foot} (w : World) (v : Value) (p : List UInt8) (l x : Int) (hv : RdB F w v p) (hg : ¬ GoodP p) : Calls Try.prog 32 #[v, .int .i64 l, .int .i64 x] w (PageNo w 4) := by
  have hgo := copied_no w v p hv hg
  obtain ⟨a, n, c, rfl, HN, -, -⟩ := hv.formN
  have HG := Lib.hid hgo
  clear hgo hv hg HN
  go_enter Try.func32, Try.ntmps32
  go_wp2_with fail
  refine HG.out.mono ?_
  rintro e w2 ⟨rfl, hb⟩
  have HB := Lib.hid hb
  clear hb
  go_wp2
  go_ret2
  exact ⟨rfl, HB.out.alloc HB.out.size _⟩

theorem set_bad {F : Foot} (w : World) (v : Value) (p : List UInt8) (l x : Int) (hv : RdB F w v p) (hg : GoodP p) (h : l < 0 ∨ (¬ l < 0 ∧ l > 4294967295) ∨ (¬ l < 0 ∧ ¬ l > 4294967295 ∧ x < 0) ∨ (¬ l < 0 ∧ ¬ l > 4294967295 ∧ ¬ x < 0 ∧ x > 4294967295)) :
    Calls Try.prog 32 #[v, .int .i64 l, .int .i64 x] w (PageNo w 1) := by
  have hgo := copied_yes w v p hv hg
  obtain ⟨a, n, c, rfl, HN, -, -⟩ := hv.formN
  have HG := Lib.hid hgo
  clear hgo hv hg HN
  rcases h with h | ⟨h, h2⟩ | ⟨h, h2, h3⟩ | ⟨h, h2, h3, h4⟩
  all_goals
    go_enter Try.func32, Try.ntmps32
    go_wp2_with fail
    refine HG.out.mono ?_
    rintro e w2 ⟨g, rfl, hpg, hgs, hb⟩
    have HB := Lib.hid hb
    clear hb hpg hgs
    go_wp2
    go_ret2
    exact ⟨rfl, HB.out.alloc HB.out.size _⟩

theorem set_yes {F : Foot} (w : World) (v : Value) (p : List UInt8) (l x : Nat) (hv : RdB F w v p) (hg : GoodP p) (hl : l < 4294967296) (hx : x < 4294967296) : Calls Try.prog 32 #[v, .int .i64 l, .int .i64 x] w (PageOut w (setP p l x)) := by
  have hgo := copied_yes w v p hv hg
  obtain ⟨a, n, c, rfl, HN, -, -⟩ := hv.formN
  have HG := Lib.hid hgo
  have t1 : ¬ (l : Int) < 0 := by omega
  have t2 : ¬ (l : Int) > 4294967295 := by omega
  have t3 : ¬ (x : Int) < 0 := by omega
  have t4 : ¬ (x : Int) > 4294967295 := by omega
  clear hgo hv hg HN
  go_enter Try.func32, Try.ntmps32
  go_wp2_with fail
  refine HG.out.mono ?_
  rintro e w2 ⟨g, rfl, hpg, hgs, hb⟩
  have hbx := Bx.start hpg
  have hx := hbx.box
  have HB := Lib.hid (And.intro hbx (And.intro hgs hb))
  clear hpg hgs hb hbx
  go_wp2_with fail
  refine (put_any _ g _ 18 4 18 4 l rfl rfl HB.out.1.pg (by decide) (by decide) (by decide)).mono ?_
  rintro e w3 ⟨rfl, hp3, hc3⟩
  have hbx3 := HB.out.1.step hp3 hc3
  have hx3 := hbx3.box
  have HB3 := Lib.hid hbx3
  clear hp3 hc3 hbx3 hx
  go_wp2_with fail
  refine (put_any _ g _ 22 4 22 4 x rfl rfl HB3.out.pg (by decide) (by decide) (by decide)).mono ?_
  rintro e w4 ⟨rfl, hp4, hc4⟩
  have hbx4 := HB3.out.step hp4 hc4
  have hx4 := hbx4.box
  have HB4 := Lib.hid hbx4
  clear hp4 hc4 hbx4 hx3
  go_wp2
  go_ret2
  exact ⟨g, rfl, HB4.out.pg, HB.out.2.1, HB4.out.fin HB.out.2.2 HB.out.2.1⟩
end Mun
