/- Contracts of what writes a record: its digits, its chunks. -/
import Derived.Test.YtoblajbffnkkiaaRecM
set_option maxRecDepth 100000
set_option linter.unusedVariables false
namespace Mun
open Go Go.RowKit
open Go.Proofs

/-- the block of a slice that starts at a block's head -/
def bf (v : Value) : Foot := fun k => v.ownBlock = some k
def B1 (g : Nat) : Foot := fun k => k = g

/-- a row of bytes is handed back, longer; nothing else has turned -/
def BO (w : World) (base : Nat) (v : Value) (l : List UInt8) (e : Ending) (w' : World) : Prop :=
  ∃ g n c, e = .returned (.slice (some ⟨g, 0, none⟩) n c) ∧ Hid (n = l.length) ∧ OwnB w' base 5 (.slice (some ⟨g, 0, none⟩) n c) l ∧ Chg (bf v) (B1 g) w w' ∧ base ≤ g

theorem chg_byte {w w' : World} {o : Obj} {v : Value} {g : Nat} (h : (w.alloc o).grownBy w' v.ownBlock) (hor : v.ownBlock = some g ∨ w.heap.size < g) (hlt : g < w'.heap.size) : Chg (bf v) (B1 g) w w' := by
  have hs := h.size
  simp only [World.size_alloc] at hs
  refine ⟨h.os, h.tape, h.output, by omega, fun k hk hn => ?_, fun k hk => ?_⟩
  · rw [h.block k (by simp; omega) (fun e => hn e.symm), heap_alloc_old _ _ hk]
  · have : k = g := hk
    subst this
    rcases hor with h1 | h1
    · exact .inl h1
    · exact .inr ⟨by omega, hlt⟩

theorem chg_rows {w w' : World} {v : Value} {g : Nat} (h : w.grownBy w' v.ownBlock) (hor : v.ownBlock = some g ∨ w.heap.size ≤ g) (hlt : g < w'.heap.size) : Chg (bf v) (B1 g) w w' := by
  refine ⟨h.os, h.tape, h.output, h.size, fun k hk hn => h.block k hk (fun e => hn e.symm), fun k hk => ?_⟩
  have : k = g := hk
  subst this
  rcases hor with h1 | h1
  · exact .inl h1
  · exact .inr ⟨by omega, hlt⟩

theorem B1_bf (g n c : Nat) : B1 g = bf (.slice (some ⟨g, 0, none⟩) n c) := by
  funext k
  simp only [B1, bf, Value.ownBlock, Option.some.injEq]
  exact propext ⟨fun h => h.symm, fun h => h.symm⟩

theorem OwnB.ownlt {w : World} {base : Nat} {g n c : Nat} {l : List UInt8} (h : OwnB w base 5 (.slice (some ⟨g, 0, none⟩) n c) l) : base ≤ g ∧ g < w.heap.size := h.lt g rfl

theorem or128 (k : Nat) : bits .or .u8 ((k : Int) % 256) 128 = ((UInt8.ofNat (k % 128 + 128)).toNat : Int) := by
  have h : ∀ a : Nat, a < 256 → bits .or .u8 (a : Int) 128 = ((a % 128 + 128 : Nat) : Int) := by decide +kernel
  have h1 := h (k % 256) (by omega)
  rw [UInt8.toNat_ofNat']
  rw [show ((k : Int) % 256) = ((k % 256 : Nat) : Int) by omega, h1]
  omega

set_option maxHeartbeats 400000 in
/-- a number's digits behind a row of the call's own -/
theorem varint_any (w : World) (base : Nat) (v : Value) (xs : List UInt8) (N : Nat) (hN : N < 18446744073709551616) (ho : OwnB w base 5 v xs) (hbase : base ≤ w.heap.size) (hx : xs.length ≤ 140737488355000) :
    Calls Try.prog 61 #[v, .int .u64 N] w (BO w base v (xs ++ vi N)) := by
  go_enter Try.func61, Try.ntmps61
  go_wp2
  go_loopw [0, 1] (fun u n wr => ∃ (k : Nat) (ys : List UInt8), n = .int .u64 k ∧ k ≤ N ∧ ys ++ vi k = xs ++ vi N ∧ OwnB wr base 5 u ys ∧ Chg (bf v) (bf u) w wr) (fun _ n _ => (intOf n).toNat)
  case atStart => exact ⟨N, xs, rfl, Nat.le_refl _, rfl, ho, Chg.refl _ _⟩
  case round =>
    obtain ⟨k, ys, rfl, hk, he, hown, hc⟩ := hrel
    have hys : ys.length ≤ 140737488355100 := by
      have h1 := congrArg List.length he
      have h2 := vi_length64 N hN
      simp only [List.length_append] at h1
      omega
    have hB : base ≤ wr.heap.size := by have := hc.size; omega
    have t0 : (0 : Int) ≤ (k : Int) := by omega
    have t1 : (k : Int) ≤ 18446744073709551615 := by omega
    by_cases hlt : (k : Int) < 128
    · obtain ⟨g, cap, w', hr, h1, h2, h3, h4, h5⟩ := append_byte (ty := 23) (UInt8.ofNat k) (k : Int) (by rw [UInt8.toNat_ofNat']; omega) hown (by omega) hB
      have hC := hc.trans (chg_byte h2 h5 h1.ownlt.2)
      have HL : Hid (ys.length + 1 = (xs ++ vi N).length) := by rw [← he, vi_lt (by omega), List.length_append]; rfl
      have HO : Hid (OwnB w' base 5 (.slice (some ⟨g, 0, none⟩) (ys.length + 1) cap) (xs ++ vi N)) := by rw [← he, vi_lt (by omega)]; exact h1
      have HR := Lib.hid hr
      clear h1 h2 h4 h5 hr hown hc ho he
      go_wp2_with (at_builtin; refine wpList_append_eq rfl rfl HR.out rfl rfl ?_)
      go_ret
      exact ⟨_, _, _, rfl, HL, HO.out, hC, h3⟩
    · have hb := or128 k
      obtain ⟨g, cap, w', hr, h1, h2, h3, h4, h5⟩ := append_byte (ty := 23) (UInt8.ofNat (k % 128 + 128)) (bits .or .u8 ((k : Int) % 256) 128) hb hown (by omega) hB
      have hC := hc.trans (chg_byte h2 h5 h1.ownlt.2)
      have HR := Lib.hid hr
      have HE : Hid ((ys ++ [UInt8.ofNat (k % 128 + 128)]) ++ vi (k / 128) = xs ++ vi N) := by rw [← he, vi_ge (n := k) (by omega), List.append_assoc]; rfl
      have HO := Lib.hid h1
      clear h1 h2 h4 h5 hr hown hc ho he hb
      go_wp2_with (at_builtin; refine wpList_append_eq rfl rfl HR.out rfl rfl ?_)
      go_roundw
      case rel => exact ⟨k / 128, _, by go_num, by omega, HE.out, HO.out, by rw [← B1_bf]; exact hC⟩
      case measure => simp [intOf]; omega
end Mun
