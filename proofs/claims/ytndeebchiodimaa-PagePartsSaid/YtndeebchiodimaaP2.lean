/- Contracts of what reads a page: get, count, low, slot. -/
import Derived.Test.YtndeebchiodimaaP1
import Derived.Test.YtndeebchiodimaaPageM
import Derived.Deep.RegionHeld
import Derived.Deep.RegionHeld3
set_option maxRecDepth 100000
set_option linter.unusedVariables false
namespace Mun
open Go Go.RowKit
open Go.Proofs

theorem slice3_bytes {F : Foot} {w : World} {a : Option Addr} {n c : Nat} {l : List UInt8} (h : RdB F w (.slice a n c) l) (lo hi : Nat) (L H : Int) (hL : L = lo) (hH : H = hi) (h1 : lo ≤ hi) (h2 : hi ≤ l.length) :
    ∃ a1, (∀ W, (Instr.sliceAt 22 (.slice a n c) (some (.int .i64 L)) (some (.int .i64 H)) (some (.int .i64 H))).run Try.prog W = .ok (.slice a1 (hi - lo) (hi - lo)) W) ∧
      RdB F w (.slice a1 (hi - lo) (hi - lo)) ((l.drop lo).take (hi - lo)) := by
  subst hL
  subst hH
  obtain ⟨h0, a', c', hv, hc1, hc2, hnil, h4⟩ := h
  injection hv with e1 e2 e3
  subst e1 e2 e3
  refine ⟨if hi = lo then a else a.map (·.add lo), fun W => ?_, ?_⟩
  · obtain ⟨i, hi', hz, hs1, hs2⟩ := info_of info_u8
    have he : Try.prog.elem 22 = 5 := by kernel_rfl
    have ht : Try.prog.underlying 22 = some (.slice (Try.prog.elem 22)) := by rw [he]; exact Try.underlying22
    rw [run_sliceAt_slice _ _ _ _ _ _ ht, run_slice_lhm _ _ _ _ _ ht _ _ _ _ _ _ (by omega) (by omega) (by omega) (by omega), he]
    simp [Go.sizeOf, typeInfo, hi', hs1, sliced]
  · have hlen : ((l.drop lo).take (hi - lo)).length = hi - lo := by rw [List.length_take, List.length_drop]; omega
    refine ⟨by rw [hlen, bv_length, hlen]; omega, _, _, by rw [hlen], by omega, by omega, ?_, ?_⟩
    · intro hn
      split at hn
      · omega
      · cases a with
        | none => have := hnil rfl; omega
        | some _ => simp at hn
    · intro hp
      rw [hlen] at hp
      obtain ⟨g, off, cur, e, fr, ha, hg, hh, hx⟩ := h4 (by omega)
      subst ha
      refine ⟨g, off + lo, cur, e, fr, ?_, hg, hh, ?_⟩
      · rw [if_neg (by omega)]
        simp only [Option.map_some, addr_add]
      · have e1 : bv ((l.drop lo).take (hi - lo)) = ((bv l).drop lo).take (hi - lo) := by simp [bv, List.map_take, List.map_drop]
        rw [hlen, e1, ← hx, List.drop_take, List.take_take, List.drop_drop]
        congr 1
        omega

theorem boxS_keep {b : Nat} {v : Value} {w1 W W' : World} (h : W.cell? ⟨b, 0, none⟩ = some v ∧ Below w1.heap.size w1 W) (hb : Below W.heap.size W W') :
    W'.cell? ⟨b, 0, none⟩ = some v ∧ Below w1.heap.size w1 W' := by
  refine ⟨?_, h.2.trans (hb.mono h.2.size)⟩
  obtain ⟨hs, cur, e, fr, hh, hc⟩ := cell_block h.1
  have hlt := (Array.getElem?_eq_some_iff.1 hh).1
  rw [← h.1]
  exact hb.cell (p := ⟨b, 0, none⟩) hlt

theorem get_any {F : Foot} (w : World) (v : Value) (l : List UInt8) (a k : Int) (A K : Nat) (hA : a = A) (hK : k = K) (hv : RdB F w v l) (h : A + K ≤ l.length) (h4 : K ≤ 4) (hl : l.length ≤ 1000000) :
    Calls Try.prog 62 #[.agg #[v], .int .i64 a, .int .i64 k] w fun e w' => e = .returned (.int .i64 (gt l A K)) ∧ Below w.heap.size w w' := by
  subst hA
  subst hK
  obtain ⟨va, vc, rfl, hlc, hcm⟩ := hv.form
  obtain ⟨a1, hsl, hrd⟩ := slice3_bytes hv A (A + K) A (A + K : Int) rfl (by omega) (by omega) h
  rw [show A + K - A = K from by omega] at hsl hrd
  have hb : gt l A K < 4294967296 := by
    have h1 := gt_lt l A K
    have h2 : 256 ^ K ≤ 256 ^ 4 := Nat.pow_le_pow_right (by decide) h4
    omega
  have hword := word_any ((w.alloc (.cells #[.slice va l.length vc] 65))) _ _ (RdB.alloc hrd _) (by rw [List.length_take, List.length_drop]; omega)
  obtain ⟨z, hz⟩ : ∃ z, gt l A K = z := ⟨_, rfl⟩
  rw [show leNat ((l.drop A).take K) = z from hz] at hword
  rw [hz] at hb ⊢
  have hzi : (z : Int) < 4294967296 := by omega
  have hA0 : (0 : Int) ≤ (A : Int) := by omega
  have hK0 : (0 : Int) ≤ (K : Int) := by omega
  have hAK : (A : Int) + (K : Int) ≤ 1000000 := by omega
  have hcap : (A : Int) + (K : Int) ≤ (vc : Int) := by omega
  have HW := Lib.hid hword
  clear hv hrd hb hz hlc hcm hword
  go_enter Try.func62, Try.ntmps62
  go_wp2_with fail
  refine HW.out.mono ?_
  rintro e w' ⟨rfl, rfl⟩
  go_wp2
  go_ret
  exact ⟨rfl, (Below.refl _ _).alloc (Nat.le_refl _) _⟩

section
variable {F : Foot} (w : World) (v : Value) (p : List UInt8)

theorem count_any (hv : RdB F w v p) (hp : p.length = 512) : Calls Try.prog 45 #[.agg #[v]] w fun e w' => e = .returned (.int .i64 (cnt p)) ∧ Below w.heap.size w w' := by
  have hg := get_any (w.alloc (.cells #[v] 65)) v p 14 2 14 2 rfl rfl (hv.alloc _) (by omega) (by decide) (by omega)
  obtain ⟨va, vc, rfl, hlc, hcm⟩ := hv.form
  rw [hp] at hg
  have HG := Lib.hid hg
  clear hg hv hlc hcm
  rw [hp]
  go_enter Try.func45, Try.ntmps45
  go_wp2_with fail
  refine HG.out.mono ?_
  rintro e w' ⟨rfl, hb⟩
  have HB := Lib.hid hb
  clear hb
  go_wp2
  go_ret
  exact ⟨rfl, ((Below.refl _ _).alloc (Nat.le_refl _) _).trans (HB.out.mono (by simp))⟩

theorem low_any (hv : RdB F w v p) (hp : p.length = 512) : Calls Try.prog 46 #[.agg #[v]] w fun e w' => e = .returned (.int .i64 (lowP p)) ∧ Below w.heap.size w w' := by
  have hg := get_any (w.alloc (.cells #[v] 65)) v p 16 2 16 2 rfl rfl (hv.alloc _) (by omega) (by decide) (by omega)
  obtain ⟨va, vc, rfl, hlc, hcm⟩ := hv.form
  rw [hp] at hg
  have HG := Lib.hid hg
  clear hg hv hlc hcm
  rw [hp]
  go_enter Try.func46, Try.ntmps46
  go_wp2_with fail
  refine HG.out.mono ?_
  rintro e w' ⟨rfl, hb⟩
  have HB := Lib.hid hb
  clear hb
  go_wp2
  go_ret
  exact ⟨rfl, ((Below.refl _ _).alloc (Nat.le_refl _) _).trans (HB.out.mono (by simp))⟩

set_option maxHeartbeats 800000 in
theorem slot_any (i : Nat) (hv : RdB F w v p) (hp : p.length = 512) (hi : 26 + 4 * i + 4 ≤ 512) : Calls Try.prog 47 #[.agg #[v], .int .i64 i] w fun e w' => e = .returned (.tuple #[.int .i64 (sFrom p i), .int .i64 (sSize p i)]) ∧ Below w.heap.size w w' := by
  have hbox : (w.alloc (.cells #[v] 65)).drew.cell? ⟨w.heap.size, 0, none⟩ = some v := by
    have := cell_of_row (w.alloc (.cells #[v] 65)) w.heap.size 0 _ _ _ (heap_alloc_new w _)
    exact this
  have hB0 : Below (w.alloc (.cells #[v] 65)).heap.size (w.alloc (.cells #[v] 65)) (w.alloc (.cells #[v] 65)).drew := below_drewN (Below.refl _ _) 1
  have hg1 : ∀ W, Below (w.alloc (.cells #[v] 65)).heap.size (w.alloc (.cells #[v] 65)) W → Calls Try.prog 62 #[.agg #[v], .int .i64 (26 + 4 * (i : Int)), .int .i64 2] W fun e w' => e = .returned (.int .i64 (sFrom p i)) ∧ Below W.heap.size W w' :=
    fun W hW => get_any W v p (26 + 4 * (i : Int)) 2 (26 + 4 * i) 2 (by push_cast; rfl) rfl ((hv.alloc _).below hW) (by omega) (by decide) (by omega)
  have hg2 : ∀ W, Below (w.alloc (.cells #[v] 65)).heap.size (w.alloc (.cells #[v] 65)) W → Calls Try.prog 62 #[.agg #[v], .int .i64 (26 + 4 * (i : Int) + 2), .int .i64 2] W fun e w' => e = .returned (.int .i64 (sSize p i)) ∧ Below W.heap.size W w' :=
    fun W hW => get_any W v p (26 + 4 * (i : Int) + 2) 2 (26 + 4 * i + 2) 2 (by push_cast; rfl) rfl ((hv.alloc _).below hW) (by omega) (by decide) (by omega)
  obtain ⟨va, vc, rfl, hlc, hcm⟩ := hv.form
  rw [hp] at hg1 hg2 hbox hB0 ⊢
  obtain ⟨w1, hw1⟩ : ∃ w1, w.alloc (.cells #[.slice va 512 vc] 65) = w1 := ⟨_, rfl⟩
  rw [hw1] at hg1 hg2 hbox hB0
  have hs1 : w1.heap.size = w.heap.size + 1 := by rw [← hw1, World.size_alloc]
  have hS0 := And.intro hbox hB0
  have HG1 := Lib.hid hg1
  have HG2 := Lib.hid hg2
  have HFIN : Hid (∀ W', Below w1.heap.size w1 W' → Below w.heap.size w W') := by
    show ∀ _, _
    intro W' h
    have : Below w.heap.size w w1 := by rw [← hw1]; exact (Below.refl _ _).alloc (Nat.le_refl _) _
    exact this.trans (h.mono (by omega))
  have hib : (i : Int) ≤ 121 := by omega
  clear hg1 hg2 hv hlc hcm hbox hB0 hs1
  go_enter Try.func47, Try.ntmps47
  go_wp2
  have hwrap : IntKind.i64.wrap (26 + 4 * (i : Int) + 2) = 26 + 4 * (i : Int) + 2 := by rw [IntKind.wrap_i64]; omega
  go_region_held3 (fun W => W.cell? ⟨w.heap.size, 0, none⟩ = some (.slice va 512 vc) ∧ Below w1.heap.size w1 W)
    (first | exact hS2 | exact hS1 | exact hS0)
    (first
    | ((go_at_call 62; refine (HG1.out _ hS0.2).mono ?_; rintro e W1 ⟨rfl, hb1⟩; have hS1 := boxS_keep hS0 hb1; clear HG1))
    | ((go_at_call 62; refine (HG2.out _ hS1.2).mono ?_; rintro e W2 ⟨rfl, hb2⟩; have hS2 := boxS_keep hS1 hb2; clear HG2)))
  go_wp2
  go_ret2
  exact ⟨rfl, HFIN.out _ hS2.2⟩

set_option maxHeartbeats 800000 in
theorem cell_any (i : Nat) (hv : RdB F w v p) (hp : p.length = 512) (hi : 26 + 4 * i + 4 ≤ 512) (hc : sFrom p i + sSize p i ≤ 512) : Calls Try.prog 50 #[.agg #[v], .int .i64 i] w fun e w' => ∃ v', e = .returned v' ∧ RdB F w v' (cellP p i) ∧ Below w.heap.size w w' := by
  have hs := slot_any (w.alloc (.cells #[v] 65)) v p i (hv.alloc _) hp hi
  have hcl : (cellP p i).length = sSize p i := by unfold cellP; rw [List.length_take, List.length_drop, hp]; omega
  obtain ⟨va, vc, rfl, hlc, hcm⟩ := hv.form
  obtain ⟨f, hf⟩ : ∃ f, sFrom p i = f := ⟨_, rfl⟩
  obtain ⟨s, hsz⟩ : ∃ s, sSize p i = s := ⟨_, rfl⟩
  rw [hf, hsz] at hs hc
  obtain ⟨a1, hsl, hrd⟩ := slice3_bytes hv f (f + s) f (f + s : Int) rfl (by omega) (by omega) (by omega)
  rw [show f + s - f = s from by omega] at hsl hrd
  have hcp : (p.drop f).take s = cellP p i := by unfold cellP; rw [hf, hsz]
  rw [hcp] at hrd
  rw [hp] at hs hsl ⊢
  have hbox := cell_of_row (w.alloc (.cells #[.slice va 512 vc] 65)) w.heap.size 0 _ _ _ (heap_alloc_new w _)
  obtain ⟨w1, hw1⟩ : ∃ w1, w.alloc (.cells #[.slice va 512 vc] 65) = w1 := ⟨_, rfl⟩
  rw [hw1] at hs hbox
  have hfin : Below w.heap.size w w1 := by rw [← hw1]; exact (Below.refl _ _).alloc (Nat.le_refl _) _
  have hf0 : (0 : Int) ≤ (f : Int) := by omega
  have hs0 : (0 : Int) ≤ (s : Int) := by omega
  have hfs : (f : Int) + (s : Int) ≤ 512 := by omega
  have hcap : (f : Int) + (s : Int) ≤ (vc : Int) := by omega
  have HS := Lib.hid hs
  have HR := Lib.hid (And.intro hrd hfin)
  have hlt1 : w.heap.size < w1.heap.size := by rw [← hw1, World.size_alloc]; omega
  clear hs hv hlc hcm hf hsz hcp hrd hfin hcl hc
  go_enter Try.func50, Try.ntmps50
  go_wp2_with fail
  refine HS.out.mono ?_
  rintro e w2 ⟨rfl, hb⟩
  have hbox2 : w2.cell? ⟨w.heap.size, 0, none⟩ = some (.slice va 512 vc) := by
    rw [hb.cell (p := ⟨w.heap.size, 0, none⟩) hlt1]
    exact hbox
  have HB := Lib.hid hb
  clear hb hbox
  go_wp2
  go_ret
  exact ⟨_, rfl, HR.out.1, HR.out.2.trans (HB.out.mono HR.out.2.size)⟩

set_option maxHeartbeats 800000 in
theorem room_any (hv : RdB F w v p) (hp : p.length = 512) : Calls Try.prog 52 #[.agg #[v]] w fun e w' => e = .returned (.int .i64 ((lowP p : Int) - 26 - 4 * (cnt p : Int))) ∧ Below w.heap.size w w' := by
  have hbox : (w.alloc (.cells #[v] 65)).drew.cell? ⟨w.heap.size, 0, none⟩ = some v := by
    have := cell_of_row (w.alloc (.cells #[v] 65)) w.heap.size 0 _ _ _ (heap_alloc_new w _)
    exact this
  have hB0 : Below (w.alloc (.cells #[v] 65)).heap.size (w.alloc (.cells #[v] 65)) (w.alloc (.cells #[v] 65)).drew := below_drewN (Below.refl _ _) 1
  have hg1 : ∀ W, Below (w.alloc (.cells #[v] 65)).heap.size (w.alloc (.cells #[v] 65)) W → Calls Try.prog 46 #[.agg #[v]] W fun e w' => e = .returned (.int .i64 (lowP p)) ∧ Below W.heap.size W w' :=
    fun W hW => low_any W v p ((hv.alloc _).below hW) hp
  have hg2 : ∀ W, Below (w.alloc (.cells #[v] 65)).heap.size (w.alloc (.cells #[v] 65)) W → Calls Try.prog 45 #[.agg #[v]] W fun e w' => e = .returned (.int .i64 (cnt p)) ∧ Below W.heap.size W w' :=
    fun W hW => count_any W v p ((hv.alloc _).below hW) hp
  have b1 : lowP p < 65536 := gt2_lt p 16
  have b2 : cnt p < 65536 := gt2_lt p 14
  obtain ⟨va, vc, rfl, hlc, hcm⟩ := hv.form
  rw [hp] at hg1 hg2 hbox hB0 ⊢
  obtain ⟨w1, hw1⟩ : ∃ w1, w.alloc (.cells #[.slice va 512 vc] 65) = w1 := ⟨_, rfl⟩
  rw [hw1] at hg1 hg2 hbox hB0
  obtain ⟨lo, hlo⟩ : ∃ lo, lowP p = lo := ⟨_, rfl⟩
  obtain ⟨cn, hcn⟩ : ∃ cn, cnt p = cn := ⟨_, rfl⟩
  rw [hlo] at hg1 b1
  rw [hcn] at hg2 b2
  rw [hlo, hcn]
  have hs1 : w1.heap.size = w.heap.size + 1 := by rw [← hw1, World.size_alloc]
  have hS0 := And.intro hbox hB0
  have HG1 := Lib.hid hg1
  have HG2 := Lib.hid hg2
  have HFIN : Hid (∀ W', Below w1.heap.size w1 W' → Below w.heap.size w W') := by
    show ∀ _, _
    intro W' h
    have : Below w.heap.size w w1 := by rw [← hw1]; exact (Below.refl _ _).alloc (Nat.le_refl _) _
    exact this.trans (h.mono (by omega))
  have i1 : (lo : Int) < 65536 := by omega
  have i2 : (cn : Int) < 65536 := by omega
  have hwr1 : IntKind.i64.wrap ((lo : Int) - 26) = (lo : Int) - 26 := by rw [IntKind.wrap_i64]; omega
  have hwr2 : IntKind.i64.wrap (4 * (cn : Int)) = 4 * (cn : Int) := by rw [IntKind.wrap_i64]; omega
  have hwr3 : IntKind.i64.wrap ((lo : Int) - 26 - 4 * (cn : Int)) = (lo : Int) - 26 - 4 * (cn : Int) := by rw [IntKind.wrap_i64]; omega
  clear hg1 hg2 hv hlc hcm hbox hB0 hs1 b1 b2 hlo hcn
  go_enter Try.func52, Try.ntmps52
  go_wp2
  go_region_held3 (fun W => W.cell? ⟨w.heap.size, 0, none⟩ = some (.slice va 512 vc) ∧ Below w1.heap.size w1 W)
    (first | exact hS2 | exact hS1 | exact hS0)
    (first
    | ((go_at_call 46; refine (HG1.out _ hS0.2).mono ?_; rintro e W1 ⟨rfl, hb1⟩; have hS1 := boxS_keep hS0 hb1))
    | ((go_at_call 45; refine (HG2.out _ hS1.2).mono ?_; rintro e W2 ⟨rfl, hb2⟩; have hS2 := boxS_keep hS1 hb2)))
  go_wp2
  go_ret
  exact ⟨rfl, HFIN.out _ hS2.2⟩

set_option maxHeartbeats 800000 in
theorem free_any (hv : RdB F w v p) (hp : p.length = 512) (hn : 26 + 4 * cnt p ≤ 512) : Calls Try.prog 51 #[.agg #[v]] w fun e w' => e = .returned (.int .i64 (freeP p)) ∧ Below w.heap.size w w' := by
  have hbox := cell_of_row (w.alloc (.cells #[v] 65)) w.heap.size 0 _ _ _ (heap_alloc_new w _)
  have hc : ∀ W, Below (w.alloc (.cells #[v] 65)).heap.size (w.alloc (.cells #[v] 65)) W → Calls Try.prog 45 #[.agg #[v]] W fun e w' => e = .returned (.int .i64 (cnt p)) ∧ Below W.heap.size W w' :=
    fun W hW => count_any W v p ((hv.alloc _).below hW) hp
  have hsl : ∀ W i, i < cnt p → Below (w.alloc (.cells #[v] 65)).heap.size (w.alloc (.cells #[v] 65)) W → Calls Try.prog 47 #[.agg #[v], .int .i64 (i : Nat)] W fun e w' => e = .returned (.tuple #[.int .i64 (sFrom p i), .int .i64 (sSize p i)]) ∧ Below W.heap.size W w' :=
    fun W i hi hW => slot_any W v p i ((hv.alloc _).below hW) hp (by omega)
  obtain ⟨va, vc, rfl, hlc, hcm⟩ := hv.form
  rw [hp] at hc hsl hbox ⊢
  obtain ⟨w1, hw1⟩ : ∃ w1, w.alloc (.cells #[.slice va 512 vc] 65) = w1 := ⟨_, rfl⟩
  rw [hw1] at hc hsl hbox
  have HFP : Hid (freeP p = 486 - 4 * (cnt p : Int) - (szs p (cnt p) : Int)) := by show _ = _; rfl
  obtain ⟨cn, hcn⟩ : ∃ cn, cnt p = cn := ⟨_, rfl⟩
  rw [hcn] at hc hsl hn HFP
  have hcn1 : cn ≤ 121 := by omega
  have hcni : (cn : Int) ≤ 121 := by omega
  have HFIN : Hid (∀ W', Below w1.heap.size w1 W' → Below w.heap.size w W') := by
    show ∀ _, _
    intro W' h
    have : Below w.heap.size w w1 := by rw [← hw1]; exact (Below.refl _ _).alloc (Nat.le_refl _) _
    exact this.trans (h.mono (by rw [← hw1, World.size_alloc]; omega))
  have hlt1 : w.heap.size < w1.heap.size := by rw [← hw1, World.size_alloc]; omega
  have HC := Lib.hid hc
  have HSL := Lib.hid hsl
  have H0 := Lib.hid (And.intro hbox hlt1)
  have HP := Lib.hid hp
  clear hc hsl hv hlc hcm hn hcn hlt1 hp
  go_enter Try.func51, Try.ntmps51
  go_wp2_with fail
  refine (HC.out w1 (Below.refl _ _)).mono ?_
  rintro e w2 ⟨rfl, hb2⟩
  have hS2 := boxS_keep ⟨H0.out.1, Below.refl _ _⟩ hb2
  have hx2 := hS2.1
  have HS2 := Lib.hid hS2
  clear hb2 hS2 hbox
  go_wp2_with fail
  refine (HC.out w2 HS2.out.2).mono ?_
  rintro e w3 ⟨rfl, hb3⟩
  have hS3 := boxS_keep HS2.out hb3
  have HS3 := Lib.hid hS3
  clear hb3 hS3 hx2
  go_wp2
  go_loopw [3, 13] (fun n i wr => ∃ k : Nat, k ≤ cn ∧ i = .int .i64 (k : Int) ∧ n = .int .i64 (486 - 4 * (cn : Int) - (szs p k : Int)) ∧ wr.cell? ⟨w.heap.size, 0, none⟩ = some (.slice va 512 vc) ∧ Below w1.heap.size w1 wr) (fun _ i _ => cn - (intOf i).toNat)
  case atStart => exact ⟨0, by omega, rfl, by simp [szs], HS3.out.1, HS3.out.2⟩
  case round =>
    obtain ⟨k, hk, rfl, rfl, hx, hb⟩ := hrel
    rcases Nat.lt_or_eq_of_le hk with hlt | heq
    · have hs := HSL.out wr k hlt hb
      have hz1 := szs_le p k
      have HZ : Hid (szs p (k + 1) = szs p k + sSize p k) := by show _ = _; rfl
      have hss : sSize p k < 65536 := gt2_lt p _
      obtain ⟨z, hz⟩ : ∃ z, szs p k = z := ⟨_, rfl⟩
      obtain ⟨s, hs2⟩ : ∃ s, sSize p k = s := ⟨_, rfl⟩
      rw [hz] at hz1 HZ ⊢
      rw [hs2] at hss HZ hs
      have hzi : (z : Int) ≤ 8000000 := by omega
      have hsi : (s : Int) < 65536 := by omega
      have hki : (k : Int) < (cn : Int) := by omega
      have HB := Lib.hid (And.intro hx (And.intro hb hlt))
      have HS := Lib.hid hs
      clear hs hz1 hss hz hs2 hb hlt hk
      go_wp2_with fail
      refine HS.out.mono ?_
      rintro e w5 ⟨rfl, hb5⟩
      have HS5 := Lib.hid (boxS_keep ⟨HB.out.1, HB.out.2.1⟩ hb5)
      clear hb5
      go_wp2
      go_roundw
      case rel => exact ⟨k + 1, by have := HB.out.2.2; omega, by go_num, by rw [HZ.out]; go_num, HS5.out.1, HS5.out.2⟩
      case measure => have := HB.out.2.2; simp [intOf]; omega
    · subst heq
      have HB := Lib.hid hb
      clear hb hk
      go_wp2
      go_ret
      exact ⟨by rw [HFP.out]; rfl, HFIN.out _ HB.out⟩
end
end Mun
