/- Contracts of what writes into a page of the call's own: setSlot, below, anew. -/
import Derived.Test.YtjfepmohoijalaaP3
import Derived.Lib.SliceRun
set_option maxRecDepth 100000
set_option linter.unusedVariables false
set_option linter.unusedSimpArgs false
namespace Mun
open Go Go.RowKit
open Go.Proofs

/-- b.b[lo:] of a page -/
theorem slice_from (g lo : Nat) (L : Int) (hL : L = lo) (h : lo ≤ 512) :
    ∃ a, (∀ W, (Instr.sliceAt 31 (.slice (some ⟨g, 0, none⟩) 512 512) (some (.int .i64 L)) none none).run Try.prog W = .ok (.slice a (512 - lo) (512 - lo)) W) ∧ (lo < 512 → a = some ⟨g, lo, none⟩) := by
  subst hL
  refine ⟨if 512 = lo then some ⟨g, 0, none⟩ else some ⟨g, lo, none⟩, fun W => ?_, fun hlt => by rw [if_neg (by omega)]⟩
  obtain ⟨i, hi', hz, hs1, hs2⟩ := info_of info_u8
  have he : Try.prog.elem 31 = 5 := by kernel_rfl
  have ht : Try.prog.underlying 31 = some (.slice (Try.prog.elem 31)) := by rw [he]; exact Try.underlying31
  rw [run_sliceAt_slice _ _ _ _ _ _ ht, run_slice_l _ _ _ _ _ ht _ _ (by omega) (by omega), he]
  simp [Go.sizeOf, typeInfo, hi', hs1, sliced, addr_add]

theorem zero_u8 (w : World) : (zeroValue 5).run Try.prog w = .ok (.int .u8 0) w := by
  obtain ⟨i, hi', hz, hs1, hs2⟩ := info_of info_u8
  simp [zeroValue, typeInfo, hi', hz]

theorem bv_zer (n : Nat) : bv (zer n) = List.replicate n (.int .u8 0) := by simp [bv, zer]

/-- clear of a part of a page -/
theorem clear_mid {ty : TypeId} (W : World) (g A n c : Nat) (p : List UInt8) (hg : PgAt W g p) (hn : 0 < n) (hA : A + n ≤ 512) :
    ∃ W', (Builtin.clear_ #[31] ty #[.slice (some ⟨g, A, none⟩) n c]).run Try.prog W = .ok (.tuple #[]) W' ∧ PgAt W' g (putAt p A (zer n)) ∧ Chg (G1 g) (G1 g) W W' := by
  have hpl : (putAt p A (zer n)).length = 512 := by rw [putAt_length _ _ _ (by rw [hg.2]; simpa [zer] using hA)]; exact hg.2
  have hzc : (Builtin.zeroCells (Value.int .u8 0).cells n).toList = bv (zer n) := by
    rw [bv_zer]
    simp only [Builtin.zeroCells, Value.cells]
    apply List.ext_getElem
    · simp
    · intro i h1 h2
      simp [Nat.mod_one]
  have hst := run_storeCells_at Try.prog g A 5 (bv (zer n)) 0 (bv p).toArray W hg.1 (by simp [bv, zer]; rw [hg.2]; exact hA) (bv_oneCell _)
  simp only [Nat.add_zero] at hst
  refine ⟨W.setRow g (List.take A (bv p).toArray.toList ++ bv (zer n) ++ List.drop (A + (bv (zer n)).length) (bv p).toArray.toList).toArray, ?_, ⟨?_, hpl⟩, ⟨rfl, rfl, rfl, by simp, fun k _ hk => setRow_other _ _ _ _ (fun e => hk e), fun k hk => .inl hk⟩⟩
  · obtain ⟨m, rfl⟩ : ∃ m, n = m + 1 := ⟨n - 1, by omega⟩
    simp [Builtin.clear_, run_underlying Try.underlying31, zero_u8, hzc, hst]
  · have := setRow_heap W g (bv p).toArray (List.take A (bv p).toArray.toList ++ bv (zer n) ++ List.drop (A + (bv (zer n)).length) (bv p).toArray.toList).toArray 5 (0, 0) hg.1
    rw [this]
    simp [bobj, bv, putAt, List.map_take, List.map_drop]

/-- a page of the call's own, and the sheet that holds it in a cell -/
structure Bx (w0 w : World) (b g : Nat) (p : List UInt8) : Prop where
  pg : PgAt w g p
  box : w.cell? ⟨b, 0, none⟩ = some (.slice (some ⟨g, 0, none⟩) 512 512)
  ne : b ≠ g
  chg : Chg (G1 g) (G1 g) w0 w
theorem Bx.start {w : World} {g : Nat} {p : List UInt8} (hg : PgAt w g p) : Bx w (w.alloc (.cells #[.slice (some ⟨g, 0, none⟩) 512 512] 96)) w.heap.size g p :=
  ⟨hg.below ((Below.refl _ _).alloc (Nat.le_refl _) _), cell_of_row _ w.heap.size 0 _ _ _ (heap_alloc_new w _), by have := hg.lt; omega, Chg.of_below ((Below.refl _ _).alloc (Nat.le_refl _) _) _⟩
theorem Bx.step {w0 w w' : World} {b g : Nat} {p p' : List UInt8} (h : Bx w0 w b g p) (hp : PgAt w' g p') (hc : Chg (G1 g) (G1 g) w w') : Bx w0 w' b g p' :=
  ⟨hp, box_chg h.box hc h.ne, h.ne, h.chg.trans hc⟩
theorem Bx.below {w0 w w' : World} {b g : Nat} {p : List UInt8} (h : Bx w0 w b g p) (hb : Below w.heap.size w w') : Bx w0 w' b g p := h.step (h.pg.below hb) (Chg.of_below hb _)
theorem Bx.drew {w0 w : World} {b g : Nat} {p : List UInt8} (h : Bx w0 w b g p) (n : Nat) : Bx w0 (w.drewN n) b g p := h.below (below_drewN (Below.refl _ _) n)
theorem Bx.rd {w0 w : World} {b g : Nat} {p : List UInt8} (h : Bx w0 w b g p) {F : Foot} (hF : ¬ F g) : RdB F w (PV g) p := h.pg.rd hF

end Mun
