/- Contracts of a pool: out (nothing changed), held, Unpin, Pins, Frames. -/
import Derived.Test.YtjfepmohoijalaaPoolC
set_option maxRecDepth 100000
set_option linter.unusedVariables false
set_option linter.unusedSimpArgs false
namespace Mun
open Go Go.RowKit
open Go.Proofs

theorem zero_int : ∀ w, (zeroValue 3).run Try.prog w = .ok (.int .i64 0) w := fun w => by kernel_rfl
theorem infoI : (Try.prog.info? 3).map (fun i => (i.zero, i.size, i.bytes)) = some (some (.int .i64 0), 1, 8) := by kernel_rfl
def zv (l : List Int) : List Value := l.map fun n => Value.int .i64 n
theorem zv_append (a b : List Int) : zv (a ++ b) = zv a ++ zv b := by simp [zv]

/-- a number laid behind a row of numbers -/
theorem push_z {w : World} {B : Nat} {ty : TypeId} {v : Value} {n : Nat} {xs : List Int} (x : Int) (h : w.ownsRow B 3 1 v n (zv xs)) (hB : B ≤ w.heap.size) (hl : n < 16777216) :
    ∃ R cp w', (Builtin.append_ #[22, 22] ty #[v, .slice (some ⟨w.heap.size, 0, none⟩) 1 1]).run Try.prog (w.alloc (.cells #[.int .i64 x] 3)) = .ok (.slice (some ⟨R, 0, none⟩) (n + 1) cp) w' ∧
      w'.ownsRow B 3 1 (.slice (some ⟨R, 0, none⟩) (n + 1) cp) (n + 1) (zv (xs ++ [x])) ∧
      (w.alloc (.cells #[.int .i64 x] 3)).grownBy w' v.ownBlock ∧ (v.ownBlock = some R ∨ w.heap.size < R) ∧ R < w'.heap.size := by
  obtain ⟨i, hi, hz, h1, h2⟩ := info_of infoI
  have hsrc : RdV (fun _ => False) (w.alloc (.cells #[.int .i64 x] 3)) 1 (.slice (some ⟨w.heap.size, 0, none⟩) 1 1) 1 (zv [x]) :=
    ⟨rfl, _, _, rfl, Nat.le_refl _, by unfold maxLen; omega, by simp, fun _ => ⟨w.heap.size, 0, _, _, (0, 0), rfl, fun h => h, heap_alloc_new w _, rfl⟩⟩
  obtain ⟨v', w', hr, ho, hg, hob, hnil⟩ := run_append_rd (P := Try.prog) (base := B) (ty := ty) Try.underlying22 hi hz h1 h2 rfl (by decide) (World.ownsRow.alloc h _) hsrc
    (by intro u hu; simp only [zv, List.map_cons, List.map_nil, List.mem_cons, List.not_mem_nil, or_false] at hu; subst hu; rfl) (by omega) (by omega) (by simp; omega)
  rcases ho.2 with ⟨rfl, h0⟩ | ⟨R, cp, cur, rfl, hb, hR, hrest⟩
  · exact absurd (hnil.1 rfl).2 (by omega)
  · refine ⟨R, cp, w', hr, by rw [zv_append]; exact ho, hg, ?_, (Array.getElem?_eq_some_iff.1 hR).1⟩
    rcases hob with h3 | h3
    · exact .inl h3.symm
    · simp [Value.ownBlock] at h3; exact .inr (by omega)

theorem make_z (n : Nat) (hn : n ≤ 16777216) (w : World) : (Instr.makeSlice 22 (.int .i64 0) (.int .i64 n)).run Try.prog w = .ok (.slice (some ⟨w.heap.size, 0, none⟩) 0 n) (w.alloc (.cells (madeCells #[Value.int .i64 0] n) 3)) := by
  obtain ⟨i, hi, hz, h1, h2⟩ := info_of infoI
  have hr := run_make (P := Try.prog) w _ _ i _ Try.underlying22 hi hz .i64 .i64 0 n (by omega) (by omega) (by rw [h2]; omega) (by omega)
  rw [hr, h1]
  simp only [Int.toNat_natCast, Nat.mul_one]
  rfl

section
variable (w : World) (Pb D L : Nat) (F : Foot) (p : PM) (v : PLV)

/-- what the map tells -/
theorem PRep.ask {w : World} {Pb D L : Nat} {F : Foot} {p : PM} {v : PLV} (h : PRep w Pb D L F p v) (n : Int) :
    (Instr.lookup 50 (.map (some v.Mw)) (.int .i64 n) true).run Try.prog w = .ok (.tuple #[(alook v.es n).getD (.int .i64 0), .bool (alook v.es n).isSome]) w :=
  imap_lookup (P := Try.prog) Try.underlying50 Try.underlying3 (zero_int w) h.mp n

theorem out_no (h : PRep w Pb D L F p v) (i : Nat) (x : FV) (hx : v.fs[i]? = some x) (hq : x.1.pg < 0 ∨ x.1.chg = false) :
    Calls Try.prog 20 #[.pointer (some ⟨Pb, 0, none⟩), .pointer (some ⟨v.G, i * 5, none⟩)] w fun e w' => e = .returned (.int .i64 0) ∧ w = w' := by
  obtain ⟨k0, k1, k2, k3, k4⟩ := fc5 h.fbl hx
  obtain ⟨q, hq1⟩ : ∃ q, x.1.pg = q := ⟨_, rfl⟩
  obtain ⟨c, hc1⟩ : ∃ c, x.1.chg = c := ⟨_, rfl⟩
  rw [hq1] at k0 hq
  rw [hc1] at k4 hq
  clear h hx hq1 hc1 k1 k2 k3
  by_cases hn : q < 0
  · clear hq
    go_enter Try.func20, Try.ntmps20
    go_wp2
    go_ret
    exact ⟨rfl, rfl⟩
  · obtain rfl : c = false := hq.resolve_left hn
    have hn' : 0 ≤ q := by omega
    clear hq hn
    go_enter Try.func20, Try.ntmps20
    go_wp2
    go_ret
    exact ⟨rfl, rfl⟩

/-- a page that is in no frame, or in one that is not pinned -/
def NotHeld (v : PLV) (n : Int) : Prop := alook v.es n = none ∨ ∃ (i : Nat) (x : FV), v.fs[i]? = some x ∧ x.1.pg = n ∧ 0 ≤ n ∧ x.1.pins = 0

theorem held_no (h : PRep w Pb D L F p v) (n : Int) (hn : NotHeld v n) : Calls Try.prog 23 #[.pointer (some ⟨Pb, 0, none⟩), .int .i64 n] w fun e w' => e = .returned (.tuple #[.pointer none, .int .i64 18]) ∧ w = w' := by
  have c3 : w.cell? ⟨Pb, 3, none⟩ = some (.map (some v.Mw)) := by rw [h.cell 3]; simp [pcells]
  have hlk := h.ask n
  rcases hn with hn | ⟨i, x, hx, hp, h0, hpin⟩
  · rw [hn] at hlk
    simp only [Option.getD_none, Option.isSome_none] at hlk
    clear h hn
    go_enter Try.func23, Try.ntmps23
    go_wp2
    go_ret2
    exact ⟨rfl, rfl⟩
  · rw [← hp, h.mok.here i x hx (hp ▸ h0), hp] at hlk
    simp only [Option.getD_some, Option.isSome_some] at hlk
    obtain ⟨k0, k1, k2, k3, k4⟩ := fc5 h.fbl hx
    rw [hpin] at k2
    obtain ⟨m, hm⟩ : ∃ m, v.fs.length = m := ⟨_, rfl⟩
    have c2 : w.cell? ⟨Pb, 2, none⟩ = some (.slice (some ⟨v.G, 0, none⟩) m m) := by rw [h.cell 2]; simp [pcells, hm]
    have him : (i : Int) < (m : Int) := by have := (List.getElem?_eq_some_iff.1 hx).1; omega
    have hi0 : (0 : Int) ≤ (i : Int) := by omega
    clear h hx hp h0 hpin k0 k1 k3 k4 hm
    go_enter Try.func23, Try.ntmps23
    go_wp2
    go_ret2
    exact ⟨rfl, rfl⟩

theorem held_yes (h : PRep w Pb D L F p v) (n : Int) (i : Nat) (x : FV) (hx : v.fs[i]? = some x) (hp : x.1.pg = n) (h0 : 0 ≤ n) (hpin : 0 < x.1.pins) :
    Calls Try.prog 23 #[.pointer (some ⟨Pb, 0, none⟩), .int .i64 n] w fun e w' => e = .returned (.tuple #[.pointer (some ⟨v.G, i * 5, none⟩), .int .i64 0]) ∧ w = w' := by
  have c3 : w.cell? ⟨Pb, 3, none⟩ = some (.map (some v.Mw)) := by rw [h.cell 3]; simp [pcells]
  have hlk := h.ask n
  rw [← hp, h.mok.here i x hx (hp ▸ h0), hp] at hlk
  simp only [Option.getD_some, Option.isSome_some] at hlk
  obtain ⟨k0, k1, k2, k3, k4⟩ := fc5 h.fbl hx
  obtain ⟨m, hm⟩ : ∃ m, v.fs.length = m := ⟨_, rfl⟩
  have c2 : w.cell? ⟨Pb, 2, none⟩ = some (.slice (some ⟨v.G, 0, none⟩) m m) := by rw [h.cell 2]; simp [pcells, hm]
  have him : (i : Int) < (m : Int) := by have := (List.getElem?_eq_some_iff.1 hx).1; omega
  have hi0 : (0 : Int) ≤ (i : Int) := by omega
  obtain ⟨pn, hpn⟩ : ∃ pn, x.1.pins = pn := ⟨_, rfl⟩
  rw [hpn] at k2 hpin
  have hp1 : (pn : Int) ≠ 0 := by omega
  clear h hx hp h0 hpin k0 k1 k3 k4 hm hpn
  go_enter Try.func23, Try.ntmps23
  go_wp2
  go_ret2
  exact ⟨rfl, rfl⟩

theorem unpin_no (h : PRep w Pb D L F p v) (n : Int) (hn : NotHeld v n) : Calls Try.prog 8 #[.pointer (some ⟨Pb, 0, none⟩), .int .i64 n] w fun e w' => e = .returned (.int .i64 18) ∧ w = w' := by
  have hh := held_no w Pb D L F p v h n hn
  clear h hn
  go_enter Try.func8, Try.ntmps8
  go_wp2_with fail
  refine hh.mono ?_
  rintro e w' ⟨rfl, rfl⟩
  go_wp2
  go_ret
  exact ⟨rfl, rfl⟩

theorem pins_no (h : PRep w Pb D L F p v) (n : Int) (hn : alook v.es n = none) : Calls Try.prog 10 #[.pointer (some ⟨Pb, 0, none⟩), .int .i64 n] w fun e w' => e = .returned (.int .i64 0) ∧ w = w' := by
  have c3 : w.cell? ⟨Pb, 3, none⟩ = some (.map (some v.Mw)) := by rw [h.cell 3]; simp [pcells]
  have hlk := h.ask n
  rw [hn] at hlk
  simp only [Option.getD_none, Option.isSome_none] at hlk
  clear h hn
  go_enter Try.func10, Try.ntmps10
  go_wp2
  go_ret
  exact ⟨rfl, rfl⟩

theorem pins_yes (h : PRep w Pb D L F p v) (n : Int) (i : Nat) (x : FV) (hx : v.fs[i]? = some x) (hp : x.1.pg = n) (h0 : 0 ≤ n) :
    Calls Try.prog 10 #[.pointer (some ⟨Pb, 0, none⟩), .int .i64 n] w fun e w' => e = .returned (.int .i64 (x.1.pins : Int)) ∧ w = w' := by
  have c3 : w.cell? ⟨Pb, 3, none⟩ = some (.map (some v.Mw)) := by rw [h.cell 3]; simp [pcells]
  have hlk := h.ask n
  rw [← hp, h.mok.here i x hx (hp ▸ h0), hp] at hlk
  simp only [Option.getD_some, Option.isSome_some] at hlk
  obtain ⟨k0, k1, k2, k3, k4⟩ := fc5 h.fbl hx
  obtain ⟨m, hm⟩ : ∃ m, v.fs.length = m := ⟨_, rfl⟩
  have c2 : w.cell? ⟨Pb, 2, none⟩ = some (.slice (some ⟨v.G, 0, none⟩) m m) := by rw [h.cell 2]; simp [pcells, hm]
  have him : (i : Int) < (m : Int) := by have := (List.getElem?_eq_some_iff.1 hx).1; omega
  have hi0 : (0 : Int) ≤ (i : Int) := by omega
  obtain ⟨pn, hpn⟩ : ∃ pn, x.1.pins = pn := ⟨_, rfl⟩
  rw [hpn] at k2 ⊢
  clear h hx hp h0 k0 k1 k3 k4 hm hpn
  go_enter Try.func10, Try.ntmps10
  go_wp2
  go_ret
  exact ⟨rfl, rfl⟩
end
end Mun
