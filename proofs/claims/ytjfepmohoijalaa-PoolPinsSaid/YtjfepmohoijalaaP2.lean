/- Contracts of what reads a page: get, count, low, slot. -/
import Derived.Test.YtjfepmohoijalaaP1
import Derived.Test.YtjfepmohoijalaaPageM
import Derived.Deep.RegionHeld
import Derived.Deep.RegionHeld3
set_option maxRecDepth 100000
set_option linter.unusedVariables false
namespace Mun
open Go Go.RowKit
open Go.Proofs

theorem slice3_bytes {F : Foot} {w : World} {a : Option Addr} {n c : Nat} {l : List UInt8} (h : RdB F w (.slice a n c) l) (lo hi : Nat) (L H : Int) (hL : L = lo) (hH : H = hi) (h1 : lo ≤ hi) (h2 : hi ≤ l.length) :
    ∃ a1, (∀ W, (Instr.sliceAt 31 (.slice a n c) (some (.int .i64 L)) (some (.int .i64 H)) (some (.int .i64 H))).run Try.prog W = .ok (.slice a1 (hi - lo) (hi - lo)) W) ∧
      RdB F w (.slice a1 (hi - lo) (hi - lo)) ((l.drop lo).take (hi - lo)) := by
  subst hL
  subst hH
  obtain ⟨h0, a', c', hv, hc1, hc2, hnil, h4⟩ := h
  injection hv with e1 e2 e3
  subst e1 e2 e3
  refine ⟨if hi = lo then a else a.map (·.add lo), fun W => ?_, ?_⟩
  · obtain ⟨i, hi', hz, hs1, hs2⟩ := info_of info_u8
    have he : Try.prog.elem 31 = 5 := by kernel_rfl
    have ht : Try.prog.underlying 31 = some (.slice (Try.prog.elem 31)) := by rw [he]; exact Try.underlying31
    rw [run_sliceAt_slice _ _ _ _ _ _ ht, run_slice_lhm _ _ _ _ _ ht _ _ _ _ _ _ (by omega) (by omega) (by omega) (by omega), he]
    simp [Go.sizeOf, typeInfo, hi', hs1, sliced]
  · have hlen : ((l.drop lo).take (hi - lo)).length = hi - lo := by rw [List.length_take, List.length_drop]; omega
    refine ⟨by rw [hlen, bv_length, hlen]; omega, _, _, by rw [hlen], by omega, by omega, ?_, ?_⟩
    · intro hn
      split at hn
      · omega
      · cases a with
        | none => have := hnil rfl; omega
        | some _ => simp at hn
    · intro hp
      rw [hlen] at hp
      obtain ⟨g, off, cur, e, fr, ha, hg, hh, hx⟩ := h4 (by omega)
      subst ha
      refine ⟨g, off + lo, cur, e, fr, ?_, hg, hh, ?_⟩
      · rw [if_neg (by omega)]
        simp only [Option.map_some, addr_add]
      · have e1 : bv ((l.drop lo).take (hi - lo)) = ((bv l).drop lo).take (hi - lo) := by simp [bv, List.map_take, List.map_drop]
        rw [hlen, e1, ← hx, List.drop_take, List.take_take, List.drop_drop]
        congr 1
        omega

theorem boxS_keep {b : Nat} {v : Value} {w1 W W' : World} (h : W.cell? ⟨b, 0, none⟩ = some v ∧ Below w1.heap.size w1 W) (hb : Below W.heap.size W W') :
    W'.cell? ⟨b, 0, none⟩ = some v ∧ Below w1.heap.size w1 W' := by
  refine ⟨?_, h.2.trans (hb.mono h.2.size)⟩
  obtain ⟨hs, cur, e, fr, hh, hc⟩ := cell_block h.1
  have hlt := (Array.getElem?_eq_some_iff.1 hh).1
  rw [← h.1]
  exact hb.cell (p := ⟨b, 0, none⟩) hlt

theorem get_any {F : Foot} (w : World) (v : Value) (l : List UInt8) (a k : Int) (A K : Nat) (hA : a = A) (hK : k = K) (hv : RdB F w v l) (h : A + K ≤ l.length) (h4 : K ≤ 4) (hl : l.length ≤ 1000000) :
    Calls Try.prog 42 #[.agg #[v], .int .i64 a, .int .i64 k] w fun e w' => e = .returned (.int .i64 (gt l A K)) ∧ Below w.heap.size w w' := by
  subst hA
  subst hK
  obtain ⟨va, vc, rfl, hlc, hcm⟩ := hv.form
  obtain ⟨a1, hsl, hrd⟩ := slice3_bytes hv A (A + K) A (A + K : Int) rfl (by omega) (by omega) h
  rw [show A + K - A = K from by omega] at hsl hrd
  have hb : gt l A K < 4294967296 := by
    have h1 := gt_lt l A K
    have h2 : 256 ^ K ≤ 256 ^ 4 := Nat.pow_le_pow_right (by decide) h4
    omega
  have hword := word_any ((w.alloc (.cells #[.slice va l.length vc] 96))) _ _ (RdB.alloc hrd _) (by rw [List.length_take, List.length_drop]; omega)
  obtain ⟨z, hz⟩ : ∃ z, gt l A K = z := ⟨_, rfl⟩
  rw [show leNat ((l.drop A).take K) = z from hz] at hword
  rw [hz] at hb ⊢
  have hzi : (z : Int) < 4294967296 := by omega
  have hA0 : (0 : Int) ≤ (A : Int) := by omega
  have hK0 : (0 : Int) ≤ (K : Int) := by omega
  have hAK : (A : Int) + (K : Int) ≤ 1000000 := by omega
  have hcap : (A : Int) + (K : Int) ≤ (vc : Int) := by omega
  have HW := Lib.hid hword
  clear hv hrd hb hz hlc hcm hword
  go_enter Try.func42, Try.ntmps42
  go_wp2_with fail
  refine HW.out.mono ?_
  rintro e w' ⟨rfl, rfl⟩
  go_wp2
  go_ret
  exact ⟨rfl, (Below.refl _ _).alloc (Nat.le_refl _) _⟩

section
variable {F : Foot} (w : World) (v : Value) (p : List UInt8)

theorem count_any (hv : RdB F w v p) (hp : p.length = 512) : Calls Try.prog 57 #[.agg #[v]] w fun e w' => e = .returned (.int .i64 (cnt p)) ∧ Below w.heap.size w w' := by
  have hg := get_any (w.alloc (.cells #[v] 96)) v p 14 2 14 2 rfl rfl (hv.alloc _) (by omega) (by decide) (by omega)
  obtain ⟨va, vc, rfl, hlc, hcm⟩ := hv.form
  rw [hp] at hg
  have HG := Lib.hid hg
  clear hg hv hlc hcm
  rw [hp]
  go_enter Try.func57, Try.ntmps57
  go_wp2_with fail
  refine HG.out.mono ?_
  rintro e w' ⟨rfl, hb⟩
  have HB := Lib.hid hb
  clear hb
  go_wp2
  go_ret
  exact ⟨rfl, ((Below.refl _ _).alloc (Nat.le_refl _) _).trans (HB.out.mono (by simp))⟩

theorem low_any (hv : RdB F w v p) (hp : p.length = 512) : Calls Try.prog 58 #[.agg #[v]] w fun e w' => e = .returned (.int .i64 (lowP p)) ∧ Below w.heap.size w w' := by
  have hg := get_any (w.alloc (.cells #[v] 96)) v p 16 2 16 2 rfl rfl (hv.alloc _) (by omega) (by decide) (by omega)
  obtain ⟨va, vc, rfl, hlc, hcm⟩ := hv.form
  rw [hp] at hg
  have HG := Lib.hid hg
  clear hg hv hlc hcm
  rw [hp]
  go_enter Try.func58, Try.ntmps58
  go_wp2_with fail
  refine HG.out.mono ?_
  rintro e w' ⟨rfl, hb⟩
  have HB := Lib.hid hb
  clear hb
  go_wp2
  go_ret
  exact ⟨rfl, ((Below.refl _ _).alloc (Nat.le_refl _) _).trans (HB.out.mono (by simp))⟩

set_option maxHeartbeats 800000 in
theorem slot_any (i : Nat) (hv : RdB F w v p) (hp : p.length = 512) (hi : 26 + 4 * i + 4 ≤ 512) : Calls Try.prog 59 #[.agg #[v], .int .i64 i] w fun e w' => e = .returned (.tuple #[.int .i64 (sFrom p i), .int .i64 (sSize p i)]) ∧ Below w.heap.size w w' := by
  have hbox : (w.alloc (.cells #[v] 96)).drew.cell? ⟨w.heap.size, 0, none⟩ = some v := by
    have := cell_of_row (w.alloc (.cells #[v] 96)) w.heap.size 0 _ _ _ (heap_alloc_new w _)
    exact this
  have hB0 : Below (w.alloc (.cells #[v] 96)).heap.size (w.alloc (.cells #[v] 96)) (w.alloc (.cells #[v] 96)).drew := below_drewN (Below.refl _ _) 1
  have hg1 : ∀ W, Below (w.alloc (.cells #[v] 96)).heap.size (w.alloc (.cells #[v] 96)) W → Calls Try.prog 42 #[.agg #[v], .int .i64 (26 + 4 * (i : Int)), .int .i64 2] W fun e w' => e = .returned (.int .i64 (sFrom p i)) ∧ Below W.heap.size W w' :=
    fun W hW => get_any W v p (26 + 4 * (i : Int)) 2 (26 + 4 * i) 2 (by push_cast; rfl) rfl ((hv.alloc _).below hW) (by omega) (by decide) (by omega)
  have hg2 : ∀ W, Below (w.alloc (.cells #[v] 96)).heap.size (w.alloc (.cells #[v] 96)) W → Calls Try.prog 42 #[.agg #[v], .int .i64 (26 + 4 * (i : Int) + 2), .int .i64 2] W fun e w' => e = .returned (.int .i64 (sSize p i)) ∧ Below W.heap.size W w' :=
    fun W hW => get_any W v p (26 + 4 * (i : Int) + 2) 2 (26 + 4 * i + 2) 2 (by push_cast; rfl) rfl ((hv.alloc _).below hW) (by omega) (by decide) (by omega)
  obtain ⟨va, vc, rfl, hlc, hcm⟩ := hv.form
  rw [hp] at hg1 hg2 hbox hB0 ⊢
  obtain ⟨w1, hw1⟩ : ∃ w1, w.alloc (.cells #[.slice va 512 vc] 96) = w1 := ⟨_, rfl⟩
  rw [hw1] at hg1 hg2 hbox hB0
  have hs1 : w1.heap.size = w.heap.size + 1 := by rw [← hw1, World.size_alloc]
  have hS0 := And.intro hbox hB0
  have HG1 := Lib.hid hg1
  have HG2 := Lib.hid hg2
  have HFIN : Hid (∀ W', Below w1.heap.size w1 W' → Below w.heap.size w W') := by
    show ∀ _, _
    intro W' h
    have : Below w.heap.size w w1 := by rw [← hw1]; exact (Below.refl _ _).alloc (Nat.le_refl _) _
    exact this.trans (h.mono (by omega))
  have hib : (i : Int) ≤ 121 := by omega
  clear hg1 hg2 hv hlc hcm hbox hB0 hs1
  go_enter Try.func59, Try.ntmps59
  go_wp2
  have hwrap : IntKind.i64.wrap (26 + 4 * (i : Int) + 2) = 26 + 4 * (i : Int) + 2 := by rw [IntKind.wrap_i64]; omega
  go_region_held3 (fun W => W.cell? ⟨w.heap.size, 0, none⟩ = some (.slice va 512 vc) ∧ Below w1.heap.size w1 W)
    (first | exact hS2 | exact hS1 | exact hS0)
    (first
    | ((go_at_call 42; refine (HG1.out _ hS0.2).mono ?_; rintro e W1 ⟨rfl, hb1⟩; have hS1 := boxS_keep hS0 hb1; clear HG1))
    | ((go_at_call 42; refine (HG2.out _ hS1.2).mono ?_; rintro e W2 ⟨rfl, hb2⟩; have hS2 := boxS_keep hS1 hb2; clear HG2)))
  go_wp2
  go_ret2
  exact ⟨rfl, HFIN.out _ hS2.2⟩

end
end Mun
