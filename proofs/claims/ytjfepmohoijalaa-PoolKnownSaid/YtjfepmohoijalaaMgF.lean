/- Texts of mine, one behind the other: P6, P7, P8, PageO, Flip, CrcE, PageQ. -/
import Derived.Test.YtjfepmohoijalaaMgE
import Derived.Great.Walk
import Derived.Deep.DeepCutAuto
import Derived.Test.YtjfepmohoijalaaMgD
section
/- Contract of Good. -/
set_option maxRecDepth 100000
set_option linter.unusedVariables false
set_option linter.unusedSimpArgs false
namespace Mun
open Go Go.RowKit
open Go.Proofs
open Go.Great

@[irreducible] def tk0 : Array Value := Array.replicate 512 (.bool false)
theorem z69 (w : World) : (zeroValue 120).run Try.prog w = .ok (.agg tk0) w := by
  have h : ((Try.prog.info? 120).bind (·.zero)) = some (.agg tk0) := by unfold tk0; kernel_rfl
  cases hq : Try.prog.info? 120 with
  | none => simp [hq] at h
  | some i =>
    simp [hq] at h
    simp [zeroValue, typeInfo, hq, h]
theorem al69 (w : World) : (Instr.alloc 120 true (.tuple #[])).run Try.prog w = .ok (.pointer (some ⟨w.heap.size, 0, none⟩)) (w.alloc (.cells tk0 120)) := by
  simp only [Instr.alloc, Sem.run_bind, z69, Result.andThen, newVar, newRow, Value.cells]
  rfl
/-- a row of bools -/
def tkA (l : List Bool) : Array Value := (l.map Value.bool).toArray
theorem tk0_eq : tk0 = tkA (List.replicate 512 false) := by
  unfold tk0 tkA
  rw [List.map_replicate]
  rfl
theorem tkA_size (l : List Bool) : (tkA l).size = l.length := by simp [tkA]
theorem tkA_get (l : List Bool) (k : Nat) (h : k < l.length) : (tkA l)[k]? = some (.bool l[k]) := by simp [tkA, h]

structure GdR (w0 wr : World) (b T : Nat) (v : Value) (l : List Bool) : Prop where
  bl : Below w0.heap.size w0 wr
  box : wr.cell? ⟨b, 0, none⟩ = some v
  tk : wr.heap[T]? = some (.cells (tkA l) 120 (0, 0))
  len : l.length = 512
  hT : w0.heap.size ≤ T
  ne : b ≠ T

theorem GdR.below {w0 wr w' : World} {b T : Nat} {v : Value} {l : List Bool} (h : GdR w0 wr b T v l) (hb : Below wr.heap.size wr w') : GdR w0 w' b T v l :=
  ⟨h.bl.trans (hb.mono h.bl.size), box_chg h.box (Chg.of_below hb (fun _ => False)) (fun x => x), (hb.block T (Array.getElem?_eq_some_iff.1 h.tk).1).trans h.tk, h.len, h.hT, h.ne⟩
theorem GdR.cell {w0 wr : World} {b T : Nat} {v : Value} {l : List Bool} (h : GdR w0 wr b T v l) (k : Nat) (hk : k < l.length) : wr.cell? ⟨T, k, none⟩ = some (.bool l[k]) := by
  rw [cell_of_row wr T k _ _ _ h.tk, tkA_get l k hk]
theorem GdR.frozen {w0 wr : World} {b T : Nat} {v : Value} {l : List Bool} (h : GdR w0 wr b T v l) (k : Nat) : wr.frozen? ⟨T, k, none⟩ = false := by simp [World.frozen?, h.tk]
theorem GdR.set {w0 wr : World} {b T : Nat} {v : Value} {l : List Bool} (h : GdR w0 wr b T v l) (k : Nat) (hk : k < l.length) : GdR w0 (wr.setCell ⟨T, k, none⟩ (.bool true)) b T v (l.set k true) := by
  have hs : ∀ j, j ≠ T → (wr.setCell ⟨T, k, none⟩ (.bool true)).heap[j]? = wr.heap[j]? := fun j hj => Below.heap_setCell wr ⟨T, k, none⟩ _ j hj
  refine ⟨h.bl.setCell h.hT _, ?_, ?_, by rw [List.length_set]; exact h.len, h.hT, h.ne⟩
  · obtain ⟨_, cur, e, fr, hh, hc⟩ := cell_block h.box
    rw [cell_of_row _ b 0 cur e fr ((hs b h.ne).trans hh)]
    exact hc
  · have h1 := h.tk
    have : (tkA l).setIfInBounds k (.bool true) = tkA (l.set k true) := by simp [tkA, List.map_set]
    rw [← this]
    simp [World.setCell, Array.getElem?_modify, h1]

/-- what is taken when the first i cells are looked at -/
def tkInv (p : PBytes) (i : Nat) (l : List Bool) : Prop := ∀ x, x < 512 → (l[x]? = some true ↔ ∃ j, j < i ∧ inC p j x)
/-- the first i cells are right -/
structure okUpto (p : PBytes) (i : Nat) : Prop where
  cell : ∀ j, j < i → lowP p ≤ sFrom p j ∧ sFrom p j + sSize p j ≤ 512
  apart : ∀ a b, a < b → b < i → ∀ x, ¬ (inC p a x ∧ inC p b x)

theorem tkInv_zero (p : PBytes) : tkInv p 0 (List.replicate 512 false) := by
  intro x hx
  rw [List.getElem?_replicate, if_pos hx]
  constructor
  · intro h; cases h
  · rintro ⟨j, hj, _⟩; omega

/-- in the midst of cell i, up to k -/
def tkMid (p : PBytes) (i k : Nat) (l : List Bool) : Prop := ∀ x, x < 512 → (l[x]? = some true ↔ (∃ j, j < i ∧ inC p j x) ∨ (sFrom p i ≤ x ∧ x < k))
theorem tkMid_start {p : PBytes} {i : Nat} {l : List Bool} (h : tkInv p i l) : tkMid p i (sFrom p i) l := by
  intro x hx
  rw [h x hx]
  constructor
  · exact .inl
  · rintro (h | h)
    · exact h
    · omega
theorem tkMid_step {p : PBytes} {i k : Nat} {l : List Bool} (h : tkMid p i k l) (hl : l.length = 512) (h1 : sFrom p i ≤ k) (hk : k < 512) : tkMid p i (k + 1) (l.set k true) := by
  intro x hx
  rw [List.getElem?_set]
  by_cases hxk : k = x
  · subst hxk
    rw [if_pos rfl, if_pos (by omega)]
    constructor
    · intro _; exact .inr ⟨h1, by omega⟩
    · intro _; rfl
  · rw [if_neg hxk, h x hx]
    constructor
    · rintro (h | h)
      · exact .inl h
      · exact .inr ⟨h.1, by omega⟩
    · rintro (h | h)
      · exact .inl h
      · exact .inr ⟨h.1, by omega⟩
theorem tkMid_end {p : PBytes} {i : Nat} {l : List Bool} (h : tkMid p i (sFrom p i + sSize p i) l) : tkInv p (i + 1) l := by
  intro x hx
  rw [h x hx]
  constructor
  · rintro (⟨j, hj, hc⟩ | hc)
    · exact ⟨j, by omega, hc⟩
    · exact ⟨i, by omega, hc⟩
  · rintro ⟨j, hj, hc⟩
    rcases Nat.lt_or_eq_of_le (Nat.lt_succ_iff.1 hj) with hj | rfl
    · exact .inl ⟨j, hj, hc⟩
    · exact .inr hc
theorem okUpto_succ {p : PBytes} {i : Nat} (h : okUpto p i) (hc : lowP p ≤ sFrom p i ∧ sFrom p i + sSize p i ≤ 512) (hf : ∀ x, inC p i x → ¬ ∃ j, j < i ∧ inC p j x) : okUpto p (i + 1) := by
  refine ⟨fun j hj => ?_, fun a b hab hb x hx => ?_⟩
  · rcases Nat.lt_or_eq_of_le (Nat.lt_succ_iff.1 hj) with hj | rfl
    · exact h.cell j hj
    · exact hc
  · rcases Nat.lt_or_eq_of_le (Nat.lt_succ_iff.1 hb) with hb | rfl
    · exact h.apart a b hab hb x hx
    · exact hf x hx.2 ⟨a, hab, hx.1⟩
/-- what Good looks at first -/
structure headOk (p : PBytes) : Prop where
  len : p.length = 512
  none : p[13]? = some 0
  fit : 26 + 4 * cnt p ≤ lowP p
  low : lowP p ≤ 512
theorem good_of {p : PBytes} (h : headOk p) (ho : okUpto p (cnt p)) : GoodP p := ⟨h.len, h.none, h.fit, h.low, ho.cell, ho.apart⟩
theorem not_good_cell {p : PBytes} {i : Nat} (hi : i < cnt p) (h : ¬ (lowP p ≤ sFrom p i ∧ sFrom p i + sSize p i ≤ 512)) : ¬ GoodP p := fun hg => h (hg.cell i hi)
theorem not_good_taken {p : PBytes} {i k : Nat} (hi : i < cnt p) (h1 : inC p i k) (h2 : ∃ j, j < i ∧ inC p j k) : ¬ GoodP p := fun hg => by
  obtain ⟨j, hj, hc⟩ := h2
  exact hg.apart j i hj hi k ⟨hc, h1⟩
end Mun
end

section
/- Contract of Good: the walk. -/
set_option maxRecDepth 100000
set_option linter.unusedVariables false
set_option linter.unusedSimpArgs false
namespace Mun
open Go Go.RowKit
open Go.Proofs
open Go.Great

set_option maxHeartbeats 4000000 in
theorem good_any {F : Foot} (w : World) (v : Value) (p : List UInt8) (hv : RdB F w v p) : Calls Try.prog 52 #[v] w fun e w' => e = .returned (.bool (goodB p)) ∧ Below w.heap.size w w' := by
  by_cases hp : p.length = 512
  · obtain ⟨g, off, c, rfl, hlc, hcm, hF, hglt, hcells⟩ := hv.at_ (by omega)
    have c13 := hcells 13 (by omega)
    obtain ⟨z, hz⟩ : ∃ z : Nat, p[13].toNat = z := ⟨_, rfl⟩
    rw [hz] at c13
    have hz0 : z = 0 ↔ p[13]? = some 0 := by
      rw [List.getElem?_eq_getElem (by omega)]
      constructor
      · intro h; rw [← hz] at h; congr 1; exact UInt8.toNat_inj.1 h
      · intro h; injection h with h; rw [← hz, h]; rfl
    have HP := Lib.hid hp
    rw [hp] at hv ⊢
    have HV0 := Lib.hid hv
    by_cases h13 : z = 0
    · subst h13
      have h130 := Lib.hid (hz0.1 rfl)
      have hbox : (w.alloc (.cells #[.slice (some ⟨g, off, none⟩) 512 c] 96)).drew.cell? ⟨w.heap.size, 0, none⟩ = some (.slice (some ⟨g, off, none⟩) 512 c) :=
        cell_of_row (w.alloc (.cells #[.slice (some ⟨g, off, none⟩) 512 c] 96)) w.heap.size 0 _ _ _ (heap_alloc_new w _)
      have hB0 : Below w.heap.size w (w.alloc (.cells #[.slice (some ⟨g, off, none⟩) 512 c] 96)) := (Below.refl _ _).alloc (Nat.le_refl _) _
      have hv1 : RdB F (w.alloc (.cells #[.slice (some ⟨g, off, none⟩) 512 c] 96)) (.slice (some ⟨g, off, none⟩) 512 c) p := hv.alloc _
      obtain ⟨w1, hw1⟩ : ∃ w1, w.alloc (.cells #[.slice (some ⟨g, off, none⟩) 512 c] 96) = w1 := ⟨_, rfl⟩
      rw [hw1] at hbox hB0 hv1
      have hs1 : w1.heap.size = w.heap.size + 1 := by rw [← hw1, World.size_alloc]
      have hcn : ∀ W, Below w1.heap.size w1 W → Calls Try.prog 57 #[.agg #[.slice (some ⟨g, off, none⟩) 512 c]] W fun e w' => e = .returned (.int .i64 (cnt p)) ∧ Below W.heap.size W w' :=
        fun W hW => count_any W _ p (hv1.below hW) HP.out
      have hlw : ∀ W, Below w1.heap.size w1 W → Calls Try.prog 58 #[.agg #[.slice (some ⟨g, off, none⟩) 512 c]] W fun e w' => e = .returned (.int .i64 (lowP p)) ∧ Below W.heap.size W w' :=
        fun W hW => low_any W _ p (hv1.below hW) HP.out
      have b1 : lowP p < 65536 := gt2_lt p 16
      have b2 : cnt p < 65536 := gt2_lt p 14
      obtain ⟨lo, hlo⟩ : ∃ lo, lowP p = lo := ⟨_, rfl⟩
      obtain ⟨n, hnn⟩ : ∃ n, cnt p = n := ⟨_, rfl⟩
      rw [hlo] at hlw b1
      rw [hnn] at hcn b2
      have hS0 : w1.drew.cell? ⟨w.heap.size, 0, none⟩ = some (.slice (some ⟨g, off, none⟩) 512 c) ∧ Below w1.heap.size w1 w1.drew := ⟨hbox, below_drewN (Below.refl _ _) 1⟩
      have BB := Lib.hid (And.intro b1 b2)
      have HLO := Lib.hid hlo
      have HNN := Lib.hid hnn
      have HV1 := Lib.hid (And.intro hv1 (And.intro hB0 hs1))
      have HCN := Lib.hid hcn
      have HLW := Lib.hid hlw
      clear hcells hz hz0 hv hbox hB0 hv1 hcn hlw hp hlo hnn b1 b2 hF hs1
      go_enter Try.func52, Try.ntmps52
      go_wp2
      go_region_held3 (fun W => W.cell? ⟨w.heap.size, 0, none⟩ = some (.slice (some ⟨g, off, none⟩) 512 c) ∧ Below w1.heap.size w1 W)
        (first | exact hS2 | exact hS1 | exact hS0)
        (first
        | ((go_at_call 57; refine (HCN.out _ hS0.2).mono ?_; rintro e W1 ⟨rfl, hb1⟩; have hS1 := boxS_keep hS0 hb1))
        | ((go_at_call 58; refine (HLW.out _ hS1.2).mono ?_; rintro e W2 ⟨rfl, hb2⟩; have hS2 := boxS_keep hS1 hb2)))
      have HS2 := Lib.hid (And.intro hS2 hS1.2)
      clear hS0 hS1 hS2 hb1 hb2 HCN HLW
      have hx2 := HS2.out.1.1
      have b2 : n < 65536 := BB.out.2
      by_cases hfit : 26 + 4 * n ≤ lo
      · by_cases hlow : lo ≤ 512
        · have hfi : 26 + 4 * (n : Int) ≤ (lo : Int) := by omega
          have hli : (lo : Int) ≤ 512 := by omega
          clear hfit hlow
          have HFL : Hid (26 + 4 * n ≤ lo ∧ lo ≤ 512) := by show _ ∧ _; omega
          have HHD : Hid (headOk p) := by show headOk p; exact ⟨HP.out, h130.out, by rw [HLO.out, HNN.out]; omega, by rw [HLO.out]; omega⟩
          go_upto_region 7 with (fail)
          apply wp_region_lit
          refine wpList_allocTo rfl (some 6) rfl (.pointer (some ⟨W2.heap.size, 0, none⟩)) (.cells tk0 120) (by simp [execOp, al69]) ?_
          apply wpList_nil
          have hst : GdR w (W2.alloc (.cells tk0 120)) w.heap.size W2.heap.size (.slice (some ⟨g, off, none⟩) 512 c) (List.replicate 512 false) := by
            have hB : Below w.heap.size w W2 := HV1.out.2.1.trans (HS2.out.1.2.mono HV1.out.2.1.size)
            have hsz : w.heap.size < W2.heap.size := by have h1 := HV1.out.2.2; have h2 := HS2.out.1.2.size; omega
            refine ⟨hB.alloc hB.size _, box_chg HS2.out.1.1 (Chg.of_below ((Below.refl _ _).alloc (Nat.le_refl _) _) (fun _ => False)) (fun x => x), ?_, by simp, by omega, by omega⟩
            rw [← tk0_eq]
            exact heap_alloc_new W2 _
          obtain ⟨W3, hW3⟩ : ∃ W3, W2.alloc (.cells tk0 120) = W3 := ⟨_, rfl⟩
          rw [hW3] at hst ⊢
          have HST := Lib.hid hst
          clear hst hW3 hx2 hfi HS2
          have hni : n ≤ 121 := by omega
          go_wp2
          go_loopw [36] (fun i wr => ∃ (k : Nat) (l : List Bool), k ≤ n ∧ i = .int .i64 (k : Int) ∧ GdR w wr w.heap.size W2.heap.size (.slice (some ⟨g, off, none⟩) 512 c) l ∧ tkInv p k l ∧ okUpto p k) (fun i _ => n - (intOf i).toNat)
          case atStart => exact ⟨0, _, by omega, rfl, HST.out, tkInv_zero p, ⟨fun j hj => by omega, fun a b _ hb => by omega⟩⟩
          case round =>
            obtain ⟨k, l, hk, rfl, hR, hI, hO⟩ := hrel
            rcases Nat.lt_or_eq_of_le hk with hlt | heq
            · have hfl := HFL.out
              have hsl := slot_any wr _ p k (RdB.below HV0.out hR.bl) HP.out (by omega)
              have hb1 : sFrom p k < 65536 := gt2_lt p _
              have hb2 : sSize p k < 65536 := gt2_lt p _
              obtain ⟨f, hf⟩ : ∃ f, sFrom p k = f := ⟨_, rfl⟩
              obtain ⟨s, hs⟩ : ∃ s, sSize p k = s := ⟨_, rfl⟩
              rw [hf] at hsl hb1
              rw [hs] at hsl hb2
              have HK : Hid (k < n ∧ sFrom p k = f ∧ sSize p k = s ∧ f < 65536 ∧ s < 65536) := ⟨hlt, hf, hs, hb1, hb2⟩
              have hxr := hR.box
              have HR := Lib.hid (And.intro hR (And.intro hI hO))
              have HSL := Lib.hid hsl
              have hki : (k : Int) < (n : Int) := by omega
              clear hR hI hO hsl hf hs hlt hk hfl hb1 hb2
              go_wp2_with fail
              refine HSL.out.mono ?_
              rintro e w5 ⟨rfl, hb5⟩
              have HR5 := Lib.hid (HR.out.1.below hb5)
              clear hb5 hxr
              have hkk := HK.out
              have hf1 : f < 65536 := hkk.2.2.2.1
              have hs1 : s < 65536 := hkk.2.2.2.2
              by_cases hc1 : f < lo
              · have HG : Hid (goodB p = false) := by
                  show _ = _
                  exact goodB_false (not_good_cell (by rw [HNN.out]; exact hkk.1) (fun h => by have := h.1; rw [HLO.out, hkk.2.1] at this; omega))
                have hci : (f : Int) < (lo : Int) := by omega
                clear hkk hc1
                go_wp2
                go_ret
                exact ⟨by rw [HG.out]; rfl, HR5.out.bl⟩
              · by_cases hc2 : f + s ≤ 512
                · have hci : ¬ (f : Int) < (lo : Int) := by omega
                  have hc2i : (f : Int) + (s : Int) ≤ 512 := by omega
                  have HCC : Hid (lo ≤ f ∧ f + s ≤ 512) := by show _ ∧ _; omega
                  clear hkk hc1 hc2
                  go_wp2
                  go_loopw [10] (fun kk wr2 => ∃ (x : Nat) (l2 : List Bool), f ≤ x ∧ x ≤ f + s ∧ kk = .int .i64 (x : Int) ∧ GdR w wr2 w.heap.size W2.heap.size (.slice (some ⟨g, off, none⟩) 512 c) l2 ∧ tkMid p k x l2 ∧ (∀ y, f ≤ y → y < x → ¬ ∃ j, j < k ∧ inC p j y)) (fun kk _ => f + s - (intOf kk).toNat)
                  case atStart =>
                    refine ⟨f, l, Nat.le_refl _, by omega, rfl, HR5.out, ?_, fun y h1 h2 => by omega⟩
                    have := tkMid_start HR.out.2.1
                    rw [HK.out.2.1] at this
                    exact this
                  case round =>
                    obtain ⟨x, l2, hx1, hx2, rfl, hR2, hM2, hF2⟩ := hrel
                    rcases Nat.lt_or_eq_of_le hx2 with hxlt | hxeq
                    · have hcc := HCC.out
                      have hx512 : x < l2.length := by rw [hR2.len]; omega
                      have hcl := hR2.cell x hx512
                      have hfr := hR2.frozen x
                      cases hb : l2[x] with
                      | true =>
                        have hex : ∃ j, j < k ∧ inC p j x := by
                          have := (hM2 x (by omega)).1 (by rw [List.getElem?_eq_getElem hx512, hb])
                          rcases this with h | h
                          · exact h
                          · omega
                        have HG : Hid (goodB p = false) := by
                          show _ = _
                          have hkk := HK.out
                          exact goodB_false (not_good_taken (k := x) (by rw [HNN.out]; exact hkk.1) ⟨by rw [hkk.2.1]; exact hx1, by rw [hkk.2.1, hkk.2.2.1]; exact hxlt⟩ hex)
                        rw [hb] at hcl
                        have HB := Lib.hid hR2.bl
                        have hxi : (x : Int) < (f : Int) + (s : Int) := by omega
                        have hxn : x < 512 := by omega
                        clear hR2 hM2 hF2 hex hb hcc hx1 hx2 hxlt hx512
                        go_wp2
                        go_ret
                        exact ⟨by rw [HG.out]; rfl, HB.out⟩
                      | false =>
                        have hnex : ¬ ∃ j, j < k ∧ inC p j x := by
                          intro h
                          have := (hM2 x (by omega)).2 (.inl h)
                          rw [List.getElem?_eq_getElem hx512, hb] at this
                          cases this
                        have hset := hR2.set x hx512
                        have hmid := tkMid_step hM2 hR2.len (by rw [HK.out.2.1]; exact hx1) (by omega)
                        have HN2 : Hid (GdR w (wr.setCell ⟨W2.heap.size, x, none⟩ (.bool true)) w.heap.size W2.heap.size (.slice (some ⟨g, off, none⟩) 512 c) (l2.set x true) ∧ tkMid p k (x + 1) (l2.set x true) ∧ (∀ y, f ≤ y → y < x + 1 → ¬ ∃ j, j < k ∧ inC p j y) ∧ f ≤ x ∧ x < f + s) := by
                          refine ⟨hset, hmid, fun y h1 h2 => ?_, hx1, hxlt⟩
                          rcases Nat.lt_or_eq_of_le (Nat.lt_succ_iff.1 h2) with h | rfl
                          · exact hF2 y h1 h
                          · exact hnex
                        rw [hb] at hcl
                        have hxi : (x : Int) < (f : Int) + (s : Int) := by omega
                        have hxn : x < 512 := by omega
                        clear hR2 hM2 hF2 hnex hb hcc hx1 hx2 hxlt hx512 hset hmid
                        go_wp2
                        go_roundw
                        case rel => exact ⟨x + 1, _, by have := HN2.out; omega, by have := HN2.out; omega, by go_num, HN2.out.1, HN2.out.2.1, HN2.out.2.2.1⟩
                        case measure => have := HN2.out; simp [intOf]; omega
                    · subst hxeq
                      have HE : Hid (GdR w wr w.heap.size W2.heap.size (.slice (some ⟨g, off, none⟩) 512 c) l2 ∧ tkInv p (k + 1) l2 ∧ okUpto p (k + 1)) := by
                        have hkk := HK.out
                        refine ⟨hR2, tkMid_end (by rw [hkk.2.1, hkk.2.2.1]; exact hM2), okUpto_succ HR.out.2.2 ?_ ?_⟩
                        · rw [hkk.2.1, hkk.2.2.1, HLO.out]; exact HCC.out
                        · intro y hy
                          unfold inC at hy
                          rw [hkk.2.1, hkk.2.2.1] at hy
                          exact hF2 y hy.1 hy.2
                      have hxi : ¬ (((f + s : Nat) : Int) < (f : Int) + (s : Int)) := by omega
                      clear hR2 hM2 hF2 hx1 hx2
                      go_wp2
                      go_roundw
                      case rel => exact ⟨k + 1, l2, by have := HK.out; omega, by go_num, HE.out.1, HE.out.2.1, HE.out.2.2⟩
                      case measure => have := HK.out; simp [intOf]; omega
                · have HG : Hid (goodB p = false) := by
                    show _ = _
                    exact goodB_false (not_good_cell (by rw [HNN.out]; exact hkk.1) (fun h => by have := h.2; rw [hkk.2.1, hkk.2.2.1] at this; omega))
                  have hci : ¬ (f : Int) < (lo : Int) := by omega
                  have hc2i : (f : Int) + (s : Int) > 512 := by omega
                  clear hkk hc1 hc2
                  go_wp2
                  go_ret
                  exact ⟨by rw [HG.out]; rfl, HR5.out.bl⟩
            · subst heq
              have HG : Hid (goodB p = true) := by show _ = _; exact goodB_true (good_of HHD.out (by rw [HNN.out]; exact hO))
              have HB := Lib.hid hR.bl
              clear hR hI hO hk
              go_wp2
              go_ret
              exact ⟨by rw [HG.out]; rfl, HB.out⟩
        · have HG : Hid (goodB p = false) := by show _ = _; exact goodB_false (fun h => hlow (by rw [← HLO.out]; exact h.low))
          have hfi : 26 + 4 * (n : Int) ≤ (lo : Int) := by omega
          have hli : ((lo : Int) > 512) := by omega
          clear hfit hlow
          go_wp2
          go_ret
          exact ⟨by rw [HG.out]; rfl, HV1.out.2.1.trans (HS2.out.1.2.mono HV1.out.2.1.size)⟩
      · have HG : Hid (goodB p = false) := by show _ = _; exact goodB_false (fun h => hfit (by rw [← HLO.out, ← HNN.out]; exact h.fit))
        have hfi : 26 + 4 * (n : Int) > (lo : Int) := by omega
        clear hfit
        go_wp2
        go_ret
        exact ⟨by rw [HG.out]; rfl, HV1.out.2.1.trans (HS2.out.1.2.mono HV1.out.2.1.size)⟩
    · have HG : Hid (goodB p = false) := by show _ = _; exact goodB_false (fun h => h13 (hz0.2 h.none))
      have t13 : ((z : Int) == 0) = false := by simpa using h13
      clear hcells hz hz0 hv
      go_enter Try.func52, Try.ntmps52
      go_wp2
      go_ret
      exact ⟨by rw [HG.out]; rfl, Below.refl _ _⟩
  · have HG : Hid (goodB p = false) := by show _ = _; exact goodB_false (fun h => hp h.len)
    obtain ⟨a, n, c, rfl, HN, hlc, hcm⟩ := hv.formN
    have hn : ((n : Int) != 512) = true := by have := HN.out; simp; omega
    have hn2 : ((n : Int) == 512) = false := by have := HN.out; simp; omega
    clear hv hp
    go_enter Try.func52, Try.ntmps52
    go_wp2
    go_ret
    exact ⟨by rw [HG.out]; rfl, Below.refl _ _⟩
end Mun
end

section
/- Contracts of of, copied, New. -/
set_option maxRecDepth 100000
set_option linter.unusedVariables false
set_option linter.unusedSimpArgs false
namespace Mun
open Go Go.RowKit
open Go.Proofs

theorem one_set {w : World} {b : Nat} {x v : Value} {t : TypeId} (h : w.heap[b]? = some (.cells #[x] t (0, 0))) : (w.setCell ⟨b, 0, none⟩ v).heap[b]? = some (.cells #[v] t (0, 0)) := by
  simp [World.setCell, Array.getElem?_modify, h]
theorem one_cell {w : World} {b : Nat} {x : Value} {t : TypeId} (h : w.heap[b]? = some (.cells #[x] t (0, 0))) : w.cell? ⟨b, 0, none⟩ = some x := cell_of_row w b 0 _ _ _ h
theorem one_free {w : World} {b : Nat} {x : Value} {t : TypeId} (h : w.heap[b]? = some (.cells #[x] t (0, 0))) : w.frozen? ⟨b, 0, none⟩ = false := by simp [World.frozen?, h]
theorem one_below {w w' : World} {b : Nat} {x : Value} {t : TypeId} (h : w.heap[b]? = some (.cells #[x] t (0, 0))) (hb : Below w.heap.size w w') : w'.heap[b]? = some (.cells #[x] t (0, 0)) :=
  (hb.block b (Array.getElem?_eq_some_iff.1 h).1).trans h

theorem pof_yes {F : Foot} (w : World) (v : Value) (p : List UInt8) (hv : RdB F w v p) (hg : GoodP p) :
    Calls Try.prog 41 #[v] w fun e w' => e = .returned (.tuple #[.agg #[v], .int .i64 0]) ∧ Below w.heap.size w w' := by
  have hgo := good_any (w.alloc (.cells #[.slice none 0 0] 96)) v p (hv.alloc _)
  rw [goodB_true hg] at hgo
  have hbox := heap_alloc_new w (.cells #[.slice none 0 0] 96)
  obtain ⟨a, n, c, rfl, HN, -, -⟩ := hv.formN
  have HG := Lib.hid hgo
  clear hgo hv hg HN
  go_enter Try.func41, Try.ntmps41
  go_wp2_with fail
  refine HG.out.mono ?_
  rintro e w2 ⟨rfl, hb⟩
  have hx := one_below hbox hb
  have hf := one_free hx
  have hc0 := one_cell hx
  have hc := one_cell (one_set (v := .slice a n c) hx)
  have HB := Lib.hid hb
  clear hb hbox hx
  go_wp2
  exact bodyPost_ret (v := .tuple #[.agg #[.slice a n c], .int .i64 0]) (by simp [results, Try.results41, go_sem, hc]) rfl ⟨rfl, (((Below.refl _ _).alloc (Nat.le_refl _) _).trans (HB.out.mono (by simp))).setCell (Nat.le_refl _) _⟩

theorem pof_no {F : Foot} (w : World) (v : Value) (p : List UInt8) (hv : RdB F w v p) (hg : ¬ GoodP p) :
    Calls Try.prog 41 #[v] w fun e w' => e = .returned (.tuple #[.agg #[.slice none 0 0], .int .i64 4]) ∧ Below w.heap.size w w' := by
  have hgo := good_any (w.alloc (.cells #[.slice none 0 0] 96)) v p (hv.alloc _)
  rw [goodB_false hg] at hgo
  have hbox := heap_alloc_new w (.cells #[.slice none 0 0] 96)
  obtain ⟨a, n, c, rfl, HN, -, -⟩ := hv.formN
  have HG := Lib.hid hgo
  clear hgo hv hg HN
  go_enter Try.func41, Try.ntmps41
  go_wp2_with fail
  refine HG.out.mono ?_
  rintro e w2 ⟨rfl, hb⟩
  have hx := one_below hbox hb
  have hf := one_free hx
  have hc0 := one_cell hx
  have hc := one_cell (one_set (v := .slice none 0 0) hx)
  have HB := Lib.hid hb
  clear hb hbox hx
  go_wp2
  exact bodyPost_ret (v := .tuple #[.agg #[.slice none 0 0], .int .i64 4]) (by simp [results, Try.results41, go_sem, hc]) rfl ⟨rfl, (((Below.refl _ _).alloc (Nat.le_refl _) _).trans (HB.out.mono (by simp))).setCell (Nat.le_refl _) _⟩

theorem copied_no {F : Foot} (w : World) (v : Value) (p : List UInt8) (hv : RdB F w v p) (hg : ¬ GoodP p) :
    Calls Try.prog 44 #[v] w fun e w' => e = .returned (.tuple #[.agg #[.slice none 0 0], .int .i64 4]) ∧ Below w.heap.size w w' := by
  have hgo := pof_no (w.alloc (.cells #[.slice none 0 0] 96)) v p (hv.alloc _) hg
  have hbox := heap_alloc_new w (.cells #[.slice none 0 0] 96)
  obtain ⟨a, n, c, rfl, HN, -, -⟩ := hv.formN
  have HG := Lib.hid hgo
  clear hgo hv hg HN
  go_enter Try.func44, Try.ntmps44
  go_wp2_with fail
  refine HG.out.mono ?_
  rintro e w2 ⟨rfl, hb⟩
  have hx := (one_below hbox hb)
  have hlt : w.heap.size < w2.heap.size := by have := hb.size; simp at this; omega
  have hx2 := one_below (one_set (v := .slice none 0 0) hx) ((Below.refl _ _).alloc (Nat.le_refl _) (.cells #[.slice none 0 0] 96))
  have hB3 : Below w.heap.size w ((w2.setCell ⟨w.heap.size, 0, none⟩ (.slice none 0 0)).alloc (.cells #[.slice none 0 0] 96)) :=
    ((((Below.refl _ _).alloc (Nat.le_refl _) _).trans (hb.mono (by simp))).setCell (Nat.le_refl _) _).alloc (by simp [World.setCell]; omega) _
  have hf := one_free hx
  have hc0 := one_cell hx
  have hc := one_cell hx2
  have HB := Lib.hid hB3
  clear hb hbox hx hx2 hB3
  go_wp2
  exact bodyPost_ret (v := .tuple #[.agg #[.slice none 0 0], .int .i64 4]) (by simp [results, Try.results44, go_sem, hc]) rfl ⟨rfl, HB.out⟩

theorem copied_yes {F : Foot} (w : World) (v : Value) (p : List UInt8) (hv : RdB F w v p) (hg : GoodP p) :
    Calls Try.prog 44 #[v] w fun e w' => ∃ g, e = .returned (.tuple #[.agg #[PV g], .int .i64 0]) ∧ PgAt w' g p ∧ w.heap.size ≤ g ∧ Below w.heap.size w w' := by
  have hgo := pof_yes (w.alloc (.cells #[.slice none 0 0] 96)) v p (hv.alloc _) hg
  have hbox := heap_alloc_new w (.cells #[.slice none 0 0] 96)
  have HV := Lib.hid hv
  have HP := Lib.hid hg.len
  obtain ⟨a, c, rfl, -, -⟩ := hv.form
  have hp := hg.len
  rw [hp] at hgo HV ⊢
  have HG := Lib.hid hgo
  clear hgo hv hg hp
  go_enter Try.func44, Try.ntmps44
  go_wp2_with fail
  refine HG.out.mono ?_
  rintro e w2 ⟨rfl, hb⟩
  have hx := (one_below hbox hb)
  have hlt : w.heap.size < w2.heap.size := by have := hb.size; simp at this; omega
  have hB2 : Below w.heap.size w w2 := ((Below.refl _ _).alloc (Nat.le_refl _) _).trans (hb.mono (by simp))
  have hx3 := one_below hx ((Below.refl _ _).alloc (Nat.le_refl _) (.cells #[.slice a 512 c] 96))
  have hs3 : (w2.alloc (.cells #[.slice a 512 c] 96)).cell? ⟨w2.heap.size, 0, none⟩ = some (.slice a 512 c) := one_cell (heap_alloc_new w2 _)
  have hv3 : RdB F (w2.alloc (.cells #[.slice a 512 c] 96)) (.slice a 512 c) p := RdB.alloc (RdB.below HV.out hB2) _
  have hB3 : Below w.heap.size w (w2.alloc (.cells #[.slice a 512 c] 96)) := hB2.alloc (by omega) _
  obtain ⟨w3, hw3⟩ : ∃ w3, w2.alloc (.cells #[.slice a 512 c] 96) = w3 := ⟨_, rfl⟩
  rw [hw3] at hx3 hs3 hv3 hB3
  have hmk : (Instr.makeSlice 31 (.int .i64 0) (.int .i64 512)).run Try.prog w3.drew = .ok (.slice (some ⟨w3.heap.size, 0, none⟩) 0 512) (w3.drew.alloc (bobj (zer 512))) := make_bytes0 512 (by decide) w3.drew
  have hcp := copied_bytes (ty := 31) (w := w3.drew) (RdB.drewN hv3 1) (by rw [HP.out]; decide)
  rw [HP.out] at hcp
  change (Builtin.append_ #[31, 31] 31 #[.slice (some ⟨w3.heap.size, 0, none⟩) 0 512, .slice a 512 c]).run Try.prog (w3.drew.alloc (bobj (zer 512))) = _ at hcp
  have HX := Lib.hid (And.intro hx3 (And.intro hs3 hB3))
  have HCP := Lib.hid hcp
  have hS0 : w3.drew.cell? ⟨w2.heap.size, 0, none⟩ = some (.slice a 512 c) := hs3
  clear hb hbox hx hB2 hx3 hs3 hv3 hB3 hcp
  go_wp2
  have hx4 := one_below HX.out.1 ((Below.refl _ _).alloc (Nat.le_refl _) (bobj p))
  have hfr := one_free hx4
  have hc00 := one_cell hx4
  have hx5 := one_set (v := .slice (some ⟨w3.heap.size, 0, none⟩) 512 512) hx4
  have hS5 : ((w3.alloc (bobj p)).setCell ⟨w.heap.size, 0, none⟩ (.slice (some ⟨w3.heap.size, 0, none⟩) 512 512)).drew.cell? ⟨w2.heap.size, 0, none⟩ = some (.slice a 512 c) := by
    have h1 := box_chg (F := fun _ => False) (F' := fun _ => False) (W := w3) (W' := w3.alloc (bobj p)) hS0 (Chg.of_below ((Below.refl _ _).alloc (Nat.le_refl _) _) _) (fun x => x)
    have h2 : Chg (fun k => k = w.heap.size) (fun k => k = w.heap.size) (w3.alloc (bobj p)) ((w3.alloc (bobj p)).setCell ⟨w.heap.size, 0, none⟩ (.slice (some ⟨w3.heap.size, 0, none⟩) 512 512)) :=
      ⟨rfl, rfl, rfl, by simp [World.setCell], fun k _ hk => Below.heap_setCell _ _ _ _ hk, fun _ h => .inl h⟩
    have h3 := box_chg h1 h2 (fun h => by have : w2.heap.size = w.heap.size := h; omega)
    exact h3
  have hpg : PgAt ((w3.alloc (bobj p)).setCell ⟨w.heap.size, 0, none⟩ (.slice (some ⟨w3.heap.size, 0, none⟩) 512 512)) w3.heap.size p :=
    ⟨(Below.heap_setCell _ _ _ _ (by have := (Array.getElem?_eq_some_iff.1 HX.out.1).1; simp; omega)).trans (heap_alloc_new w3 _), HP.out⟩
  have hBf : Below w.heap.size w ((w3.alloc (bobj p)).setCell ⟨w.heap.size, 0, none⟩ (.slice (some ⟨w3.heap.size, 0, none⟩) 512 512)) := (HX.out.2.2.alloc HX.out.2.2.size _).setCell (Nat.le_refl _) _
  have hcf := one_cell hx5
  have HF := Lib.hid (And.intro hpg (And.intro hBf HX.out.2.2.size))
  clear hx4 hx5 hpg hBf
  go_region_held_law (fun W => W.cell? ⟨w2.heap.size, 0, none⟩ = some (.slice a 512 c))
    (first | exact hS0 | exact hS5 | exact box_chg hS0 (Chg.of_below ((Below.refl _ _).alloc (Nat.le_refl _) _) (fun _ => False)) (fun x => x))
    ((refine step_append_eq rfl rfl HCP.out rfl rfl ?_))
  go_wp2
  exact bodyPost_ret (v := .tuple #[.agg #[.slice (some ⟨w3.heap.size, 0, none⟩) 512 512], .int .i64 0]) (by simp [results, Try.results44, go_sem, hcf]) rfl ⟨_, rfl, HF.out.1, HF.out.2.2, below_drewN HF.out.2.1 1⟩
end Mun
end

section
/- Plain: the cells of a good page take no more than the room above low; what Insert, Remove, Replace make of a page. No program in sight. -/
set_option linter.unusedVariables false
namespace Mun

theorem count_interval (f : Nat) : ∀ (N s : Nat), f + s ≤ N → (List.range N).countP (fun x => decide (f ≤ x ∧ x < f + s)) = s
  | 0, s, h => by obtain rfl : s = 0 := by omega
                  rfl
  | N + 1, s, h => by
    rw [List.range_succ, List.countP_append, List.countP_singleton]
    by_cases hN : f + s ≤ N
    · rw [count_interval f N s hN]
      have : decide (f ≤ N ∧ N < f + s) = false := by simp; omega
      rw [this]; rfl
    · cases s with
      | zero =>
        have : (List.range N).countP (fun x => decide (f ≤ x ∧ x < f + 0)) = 0 := by
          rw [List.countP_eq_zero]; intro x _; simp
        rw [this]
        have : decide (f ≤ N ∧ N < f + 0) = false := by simp
        rw [this]; rfl
      | succ t =>
        have e : (List.range N).countP (fun x => decide (f ≤ x ∧ x < f + (t + 1))) = (List.range N).countP (fun x => decide (f ≤ x ∧ x < f + t)) := by
          apply List.countP_congr
          intro x hx
          have := List.mem_range.1 hx
          simp only [decide_eq_true_eq]
          omega
        rw [e, count_interval f N t (by omega)]
        have : decide (f ≤ N ∧ N < f + (t + 1)) = true := by simp; omega
        rw [this]; rfl

theorem countP_or {l : List Nat} {P Q : Nat → Bool} (h : ∀ x ∈ l, ¬ (P x = true ∧ Q x = true)) : l.countP (fun x => P x || Q x) = l.countP P + l.countP Q := by
  induction l with
  | nil => rfl
  | cons a l ih =>
    have h1 := h a (by simp)
    rw [List.countP_cons, List.countP_cons, List.countP_cons, ih (fun x hx => h x (by simp [hx]))]
    cases hp : P a <;> cases hq : Q a <;> simp_all <;> omega

/-- x lies in one of the first k cells -/
def inSome (p : PBytes) : Nat → Nat → Bool
  | 0, _ => false
  | k + 1, x => inSome p k x || decide (sFrom p k ≤ x ∧ x < sFrom p k + sSize p k)
theorem inSome_iff (p : PBytes) (x : Nat) : ∀ k, inSome p k x = true ↔ ∃ j, j < k ∧ inC p j x
  | 0 => by simp [inSome]
  | k + 1 => by
    simp only [inSome, Bool.or_eq_true, inSome_iff p x k, decide_eq_true_eq]
    constructor
    · rintro (⟨j, hj, h⟩ | h)
      · exact ⟨j, by omega, h⟩
      · exact ⟨k, by omega, h⟩
    · rintro ⟨j, hj, h⟩
      rcases Nat.lt_or_eq_of_le (Nat.lt_succ_iff.1 hj) with hj | rfl
      · exact .inl ⟨j, hj, h⟩
      · exact .inr h

theorem inSome_count {p : PBytes} (h : GoodP p) : ∀ k, k ≤ cnt p → (List.range 512).countP (inSome p k) = szs p k
  | 0, _ => by
    show (List.range 512).countP (fun _ => false) = 0
    rw [List.countP_eq_zero]; intro x _; simp
  | k + 1, hk => by
    have ih := inSome_count h k (by omega)
    have hc := h.cell k (by omega)
    show (List.range 512).countP (fun x => inSome p k x || decide (sFrom p k ≤ x ∧ x < sFrom p k + sSize p k)) = szs p k + sSize p k
    rw [countP_or, ih, count_interval _ 512 _ hc.2]
    intro x _ ⟨h1, h2⟩
    obtain ⟨j, hj, hjc⟩ := (inSome_iff p x k).1 h1
    have h3 : sFrom p k ≤ x ∧ x < sFrom p k + sSize p k := by simpa using h2
    exact h.apart j k hj (by omega) x ⟨hjc, h3⟩

theorem good_szs {p : PBytes} (h : GoodP p) : szs p (cnt p) ≤ 512 - lowP p := by
  have hl := h.low
  rw [← inSome_count h (cnt p) (Nat.le_refl _), ← count_interval (lowP p) 512 (512 - lowP p) (by omega)]
  apply List.countP_mono_left
  intro x hx h1
  obtain ⟨j, hj, hjc⟩ := (inSome_iff p x _).1 h1
  have hc := h.cell j hj
  have hx5 := List.mem_range.1 hx
  unfold inC at hjc
  simp only [decide_eq_true_eq]
  omega

theorem good_anewOk {p : PBytes} (h : GoodP p) : AnewOk p := ⟨h.len, by have := good_szs h; have := h.fit; have := h.low; omega, fun i hi => (h.cell i hi).2⟩

/-- the page in which there is room for so many bytes -/
def roomP (p : PBytes) (k : Nat) : PBytes := if lowP p < 26 + 4 * cnt p + k then anewP p else p
/-- slots from i on moved up by one -/
def upP (q : PBytes) (i n : Nat) : PBytes := putAt q (26 + 4 * (i + 1)) (win q (26 + 4 * i) (4 * (n - i)))
def insP (p : PBytes) (i : Nat) (c : PBytes) : PBytes := belowP (pt (upP (roomP p (c.length + 4)) i (cnt p)) 14 2 (cnt p + 1)) i c

/-- what a page with room is -/
structure RoomOk (p q : PBytes) (k : Nat) : Prop where
  len : q.length = 512
  cnt : cnt q = cnt p
  room : 26 + 4 * Mun.cnt p + k ≤ lowP q
  low : lowP q ≤ 512
theorem room_ok {p : PBytes} (h : GoodP p) (k : Nat) (hf : ((k : Nat) : Int) ≤ freeP p) : RoomOk p (roomP p k) k := by
  unfold roomP
  split
  · have hi := anewP_inv (good_anewOk h)
    have := (good_anewOk h).fit
    unfold freeP at hf
    exact ⟨hi.len, hi.cnt, by rw [hi.low]; omega, by rw [hi.low]; omega⟩
  · exact ⟨h.len, rfl, by omega, h.low⟩

/-- slots behind i moved down by one, the last one zero -/
def downP (q : PBytes) (i n : Nat) : PBytes := putAt (putAt q (26 + 4 * i) (win q (26 + 4 * (i + 1)) (4 * (n - 1 - i)))) (26 + 4 * (n - 1)) (zer 4)
def remP (p : PBytes) (i : Nat) : PBytes :=
  if cnt p = 1 then pt (pt (downP p i (cnt p)) 14 2 (cnt p - 1)) 16 2 512 else pt (downP p i (cnt p)) 14 2 (cnt p - 1)

/-- the page whose cell i has no bytes -/
def holeP (p : PBytes) (i : Nat) : PBytes := ss p i (lowP p) 0
def repP (p : PBytes) (i : Nat) (c : PBytes) : PBytes :=
  if c.length ≤ sSize p i then ss (putAt p (sFrom p i) c) i (sFrom p i) c.length else belowP (roomP (holeP p i) c.length) i c

theorem cnt_ss (p : PBytes) (i f z : Nat) (hl : 26 + 4 * i + 4 ≤ p.length) : cnt (ss p i f z) = cnt p := gt_of_win (win_ss _ _ _ _ _ _ hl (by omega))
theorem lowP_ss (p : PBytes) (i f z : Nat) (hl : 26 + 4 * i + 4 ≤ p.length) : lowP (ss p i f z) = lowP p := gt_of_win (win_ss _ _ _ _ _ _ hl (by omega))

theorem szs_hole {p : PBytes} (hp : p.length = 512) {i : Nat} (hi : 26 + 4 * i + 4 ≤ 512) : ∀ k, (k ≤ i → szs (holeP p i) k = szs p k) ∧ (i < k → szs (holeP p i) k + sSize p i = szs p k)
  | 0 => ⟨fun _ => rfl, fun h => by omega⟩
  | k + 1 => by
    have ih := szs_hole hp hi k
    refine ⟨fun h => ?_, fun h => ?_⟩
    · show szs (holeP p i) k + sSize (holeP p i) k = szs p k + sSize p k
      rw [ih.1 (by omega)]
      unfold holeP
      rw [sSize_ss_ne _ _ _ _ _ (by omega) (by omega)]
    · show szs (holeP p i) k + sSize (holeP p i) k + sSize p i = szs p k + sSize p k
      by_cases hk : k = i
      · subst hk
        rw [ih.1 (Nat.le_refl _)]
        have : sSize (holeP p k) k = 0 := by unfold holeP; exact sSize_ss _ _ _ _ (by omega) (by omega)
        omega
      · have := ih.2 (by omega)
        have h2 : sSize (holeP p i) k = sSize p k := by unfold holeP; exact sSize_ss_ne _ _ _ _ _ (by omega) hk
        omega

theorem hole_good {p : PBytes} (h : GoodP p) {i : Nat} (hi : i < cnt p) : GoodP (holeP p i) := by
  have hfit := h.fit
  have hlow := h.low
  have hp := h.len
  have hl : 26 + 4 * i + 4 ≤ p.length := by omega
  have hc : cnt (holeP p i) = cnt p := cnt_ss _ _ _ _ hl
  have hlo : lowP (holeP p i) = lowP p := lowP_ss _ _ _ _ hl
  have h13 : (holeP p i)[13]? = some 0 := by
    have hw : win (holeP p i) 13 1 = win p 13 1 := win_ss _ _ _ _ _ _ hl (by omega)
    have e : ∀ q : PBytes, q[13]? = (win q 13 1)[0]? := by intro q; simp [win]
    rw [e, hw, ← e]
    exact h.none
  have hf : ∀ j, j ≠ i → sFrom (holeP p i) j = sFrom p j ∧ sSize (holeP p i) j = sSize p j := fun j hj => ⟨sFrom_ss_ne _ _ _ _ _ hl hj, sSize_ss_ne _ _ _ _ _ hl hj⟩
  have hfi : sFrom (holeP p i) i = lowP p ∧ sSize (holeP p i) i = 0 := ⟨sFrom_ss _ _ _ _ hl (by omega), sSize_ss _ _ _ _ hl (by omega)⟩
  refine ⟨by unfold holeP; rw [ss_length _ _ _ _ hl, hp], h13, by rw [hc, hlo]; exact hfit, by rw [hlo]; exact hlow, fun j hj => ?_, fun a b hab hb x ⟨h1, h2⟩ => ?_⟩
  · rw [hc] at hj
    rw [hlo]
    by_cases hji : j = i
    · subst hji
      rw [hfi.1, hfi.2]
      omega
    · rw [(hf j hji).1, (hf j hji).2]
      exact h.cell j hj
  · rw [hc] at hb
    unfold inC at h1 h2
    by_cases hai : a = i
    · subst hai; rw [hfi.1, hfi.2] at h1; omega
    · by_cases hbi : b = i
      · subst hbi; rw [hfi.1, hfi.2] at h2; omega
      · rw [(hf a hai).1, (hf a hai).2] at h1
        rw [(hf b hbi).1, (hf b hbi).2] at h2
        exact h.apart a b hab hb x ⟨h1, h2⟩

theorem freeP_hole {p : PBytes} (h : GoodP p) {i : Nat} (hi : i < cnt p) : freeP (holeP p i) = freeP p + sSize p i := by
  have hfit := h.fit
  have hlow := h.low
  have hp := h.len
  have hc : cnt (holeP p i) = cnt p := cnt_ss _ _ _ _ (by omega)
  have := (szs_hole hp (by omega : 26 + 4 * i + 4 ≤ 512) (cnt p)).2 hi
  unfold freeP
  rw [hc]
  omega
end Mun
end

section
/- Plain mathematics: bits that are turned in a row of bytes. -/
namespace Mun

def flipBit (l : List UInt8) (j : Nat) : List UInt8 := l.set (j / 8) (l.getD (j / 8) 0 ^^^ UInt8.ofNat (2 ^ (j % 8)))

theorem flipBit_length (l : List UInt8) (j : Nat) : (flipBit l j).length = l.length := by simp [flipBit]

theorem pow8_getLsbD (a b : Nat) (ha : a < 8) (hb : b < 8) : (UInt8.ofNat (2 ^ a)).toBitVec.getLsbD b = decide (a = b) := by
  have : a = 0 ∨ a = 1 ∨ a = 2 ∨ a = 3 ∨ a = 4 ∨ a = 5 ∨ a = 6 ∨ a = 7 := by omega
  have : b = 0 ∨ b = 1 ∨ b = 2 ∨ b = 3 ∨ b = 4 ∨ b = 5 ∨ b = 6 ∨ b = 7 := by omega
  rcases ‹a = 0 ∨ _› with rfl | rfl | rfl | rfl | rfl | rfl | rfl | rfl <;> rcases ‹b = 0 ∨ _› with rfl | rfl | rfl | rfl | rfl | rfl | rfl | rfl <;> decide

theorem bitAt_flipBit (l : List UInt8) (j i : Nat) (hj : j < 8 * l.length) : bitAt (flipBit l j) i = (bitAt l i ^^ decide (i = j)) := by
  unfold bitAt flipBit
  have hq : j / 8 < l.length := by omega
  rw [List.getD_eq_getElem?_getD, List.getElem?_set, List.getD_eq_getElem?_getD]
  by_cases h : j / 8 = i / 8
  · rw [if_pos h, if_pos hq]
    simp only [Option.getD_some]
    rw [UInt8.toBitVec_xor, BitVec.getLsbD_xor, pow8_getLsbD _ _ (by omega) (by omega), h, ← List.getD_eq_getElem?_getD]
    congr 1
    rw [Bool.eq_iff_iff]
    simp only [decide_eq_true_eq]
    omega
  · rw [if_neg h]
    have : ¬ i = j := by rintro rfl; exact h rfl
    simp [this]

/-- so many bits of a row are laid over the bits from k on: where the row has a bit, the bit is turned -/
def flips (l : List UInt8) (k row : Nat) : Nat → List UInt8
  | 0 => l
  | i + 1 => if k + i < 8 * l.length ∧ row.testBit i = true then flipBit (flips l k row i) (k + i) else flips l k row i

theorem flips_length (l : List UInt8) (k row i : Nat) : (flips l k row i).length = l.length := by
  induction i with
  | zero => rfl
  | succ i ih => simp only [flips]; split <;> simp [flipBit_length, ih]

theorem flips_out (l : List UInt8) (k row i j : Nat) (h : j < k ∨ k + i ≤ j) : bitAt (flips l k row i) j = bitAt l j := by
  induction i with
  | zero => rfl
  | succ i ih =>
    simp only [flips]
    split
    · rw [bitAt_flipBit _ _ _ (by rw [flips_length]; omega), ih (by omega)]
      have : ¬ j = k + i := by omega
      simp [this]
    · exact ih (by omega)

theorem flips_told (l : List UInt8) (k row i : Nat) (hi : i ≤ 32) : crcOf l = crcOf (flips l k row i) ↔ l = flips l k row i :=
  crcOf_window (flips_length l k row i).symm k (fun j hj => (flips_out l k row i j (by omega)).symm)

theorem flips_stop (l : List UInt8) (k row i n : Nat) (h : 8 * l.length ≤ k + i) : flips l k row (i + n) = flips l k row i := by
  induction n with
  | zero => rfl
  | succ n ih =>
    rw [← Nat.add_assoc]
    simp only [flips]
    rw [if_neg (by omega), ih]

end Mun
end

section
/- Plain: the sum reckoned in steps that the kernel can take. -/
set_option linter.unusedVariables false
namespace Mun

def stepN (r : Nat) : Nat := if r % 2 = 1 then (r / 2) ^^^ 0xEDB88320 else r / 2
def iterN : Nat → Nat → Nat
  | 0, r => r
  | n + 1, 0 => 0
  | n + 1, r + 1 => iterN n (stepN (r + 1))
def evalN : List UInt8 → Nat → Nat
  | [], r => r
  | b :: l, r => match iterN 8 (r ^^^ b.toNat) with
    | 0 => evalN l 0
    | q + 1 => evalN l (q + 1)

theorem stepN_eq (r : BitVec 32) : (crcBit r).toNat = stepN r.toNat := by
  unfold crcBit stepN
  have h : r.getLsbD 0 = decide (r.toNat % 2 = 1) := by
    rw [BitVec.getLsbD, Nat.testBit_zero]
  rw [h]
  by_cases hb : r.toNat % 2 = 1
  · simp only [hb, decide_true, if_true]
    rw [BitVec.toNat_xor, BitVec.toNat_ushiftRight, Nat.shiftRight_eq_div_pow]
    rfl
  · simp only [hb, decide_false, if_false, Bool.false_eq_true]
    rw [BitVec.toNat_ushiftRight, Nat.shiftRight_eq_div_pow]
theorem iterN_eq : ∀ (n : Nat) (r : BitVec 32), (crcIter n r).toNat = iterN n r.toNat
  | 0, r => rfl
  | n + 1, r => by
    have h1 : crcIter (n + 1) r = crcIter n (crcBit r) := rfl
    rw [h1, iterN_eq n, stepN_eq]
    cases hr : r.toNat with
    | zero =>
      have : ∀ n, iterN n (stepN 0) = 0 := by
        intro n
        show iterN n 0 = 0
        cases n <;> rfl
      rw [this]; rfl
    | succ k => rfl
theorem evalN_eq : ∀ (l : List UInt8) (r : BitVec 32), (crcReg r l).toNat = evalN l r.toNat
  | [], r => rfl
  | b :: l, r => by
    have h1 : crcReg r (b :: l) = crcReg (crcByte r b) l := rfl
    have h2 : (crcByte r b).toNat = iterN 8 (r.toNat ^^^ b.toNat) := by
      unfold crcByte
      rw [iterN_eq, BitVec.toNat_xor]
      have h3 : (b.toBitVec.setWidth 32).toNat = b.toNat := by
        rw [BitVec.toNat_setWidth]
        have := b.toNat_lt
        show b.toNat % 2 ^ 32 = b.toNat
        omega
      rw [h3]
    rw [h1, evalN_eq l, h2]
    show _ = evalN (b :: l) r.toNat
    show _ = match iterN 8 (r.toNat ^^^ b.toNat) with
      | 0 => evalN l 0
      | q + 1 => evalN l (q + 1)
    cases iterN 8 (r.toNat ^^^ b.toNat) <;> rfl
theorem crc_ne_zero {l : List UInt8} (h : evalN l 4294967295 ≠ 4294967295) : (crcOf l).toNat ≠ 0 := by
  intro h0
  apply h
  have h1 : crcOf l = 0#32 := BitVec.eq_of_toNat_eq h0
  unfold crcOf crcMore at h1
  have h2 : crcReg (0#32 ^^^ 0xffffffff#32) l = 0xffffffff#32 := by
    have := congrArg (· ^^^ 0xffffffff#32) h1
    simp only [BitVec.xor_assoc, BitVec.xor_self, BitVec.xor_zero, BitVec.zero_xor] at this
    rw [BitVec.zero_xor]
    exact this
  have h3 := evalN_eq l (0#32 ^^^ 0xffffffff#32)
  rw [h2] at h3
  exact h3.symm
end Mun
end

section
/- Plain: pages whose head alone differs; sealed pages. No program in sight. -/
set_option linter.unusedVariables false
namespace Mun

theorem win_sub (p : PBytes) (A N a n : Nat) (h1 : A ≤ a) (h2 : a + n ≤ A + N) : win p a n = win (win p A N) (a - A) n := by
  unfold win
  rw [List.drop_take, List.drop_drop, List.take_take]
  congr 1
  · omega
  · congr 1; omega
theorem win_get (q : PBytes) (a : Nat) : q[a]? = (win q a 1)[0]? := by simp [win]

/-- the same but for numbers in the head that tell nothing of the cells -/
structure Same (p q : PBytes) : Prop where
  len : q.length = 512
  mid : win q 12 6 = win p 12 6
  body : win q 26 486 = win p 26 486
theorem Same.win {p q : PBytes} (h : Same p q) (a n : Nat) (ha : 26 ≤ a ∧ a + n ≤ 512 ∨ 12 ≤ a ∧ a + n ≤ 18) : win q a n = win p a n := by
  rcases ha with ha | ha
  · rw [win_sub q 26 486 a n ha.1 (by omega), win_sub p 26 486 a n ha.1 (by omega), h.body]
  · rw [win_sub q 12 6 a n ha.1 (by omega), win_sub p 12 6 a n ha.1 (by omega), h.mid]
theorem Same.cnt {p q : PBytes} (h : Same p q) : cnt q = cnt p := gt_of_win (h.win 14 2 (by omega))
theorem Same.low {p q : PBytes} (h : Same p q) : lowP q = lowP p := gt_of_win (h.win 16 2 (by omega))
theorem Same.slot {p q : PBytes} (h : Same p q) (i : Nat) (hi : 26 + 4 * i + 4 ≤ 512) : sFrom q i = sFrom p i ∧ sSize q i = sSize p i := ⟨gt_of_win (h.win _ 2 (by omega)), gt_of_win (h.win _ 2 (by omega))⟩
theorem Same.good {p q : PBytes} (h : Same p q) (hg : GoodP p) : GoodP q := by
  have hfit := hg.fit
  have hlow := hg.low
  refine ⟨h.len, by rw [win_get, h.win 13 1 (by omega), ← win_get]; exact hg.none, by rw [h.cnt, h.low]; exact hfit, by rw [h.low]; exact hlow, fun i hi => ?_, fun a b hab hb x ⟨h1, h2⟩ => ?_⟩
  · rw [h.cnt] at hi
    have hs := h.slot i (by omega)
    rw [hs.1, hs.2, h.low]
    exact hg.cell i hi
  · rw [h.cnt] at hb
    have ha := h.slot a (by omega)
    have hbb := h.slot b (by omega)
    unfold inC at h1 h2
    rw [ha.1, ha.2] at h1
    rw [hbb.1, hbb.2] at h2
    exact hg.apart a b hab hb x ⟨h1, h2⟩
theorem Same.cell {p q : PBytes} (h : Same p q) (hg : GoodP p) (i : Nat) (hi : i < Mun.cnt p) : cellP q i = cellP p i := by
  have hfit := hg.fit
  have hlow := hg.low
  have hc := hg.cell i hi
  have hs := h.slot i (by omega)
  rw [cellP_win, cellP_win, hs.1, hs.2]
  exact h.win _ _ (by omega)
theorem Same.szs {p q : PBytes} (h : Same p q) (k : Nat) (hk : 26 + 4 * k ≤ 512) : szs q k = szs p k := szs_congr (fun j hj => (h.slot j (by omega)).2)
theorem Same.free {p q : PBytes} (h : Same p q) (hg : GoodP p) : freeP q = freeP p := by
  have hfit := hg.fit
  have hlow := hg.low
  unfold freeP
  rw [h.cnt, h.szs _ (by omega)]

/-- a page of nothing -/
def newP (k : Nat) : PBytes := pt ((zer 512).set 12 (UInt8.ofNat k)) 16 2 512
def lsnP (p : PBytes) (n : Nat) : PBytes := pt p 4 8 n
def sealP (p : PBytes) (n : Nat) : PBytes := pt (lsnP p n) 0 4 (crcOf ((lsnP p n).drop 4)).toNat
def setP (p : PBytes) (l x : Nat) : PBytes := pt (pt p 18 4 l) 22 4 x

theorem seal_len {p : PBytes} (hp : p.length = 512) (n : Nat) : (sealP p n).length = 512 := by
  unfold sealP lsnP
  rw [pt_length _ _ _ _ (by rw [pt_length _ _ _ _ (by omega)]; omega), pt_length _ _ _ _ (by omega), hp]
theorem seal_win {p : PBytes} (hp : p.length = 512) (n a m : Nat) (ha : 12 ≤ a) : win (sealP p n) a m = win p a m := by
  unfold sealP lsnP
  rw [win_pt _ _ _ _ _ _ (by rw [pt_length _ _ _ _ (by omega)]; omega) (by omega), win_pt _ _ _ _ _ _ (by omega) (by omega)]
theorem seal_same {p : PBytes} (hp : p.length = 512) (n : Nat) : Same p (sealP p n) := ⟨seal_len hp n, seal_win hp n _ _ (by omega), seal_win hp n _ _ (by omega)⟩
theorem set_same {p : PBytes} (hp : p.length = 512) (l x : Nat) : Same p (setP p l x) := by
  have h1 : (pt p 18 4 l).length = 512 := by rw [pt_length _ _ _ _ (by omega), hp]
  unfold setP
  refine ⟨by rw [pt_length _ _ _ _ (by omega), h1], ?_, ?_⟩
  · rw [win_pt _ _ _ _ _ _ (by omega) (by omega), win_pt _ _ _ _ _ _ (by omega) (by omega)]
  · rw [win_pt _ _ _ _ _ _ (by omega) (by omega), win_pt _ _ _ _ _ _ (by omega) (by omega)]
theorem Same.trans {p q r : PBytes} (h : Same p q) (k : Same q r) : Same p r := ⟨k.len, k.mid.trans h.mid, k.body.trans h.body⟩

theorem gt_seal_lsn {p : PBytes} (hp : p.length = 512) (n : Nat) (hn : n < 18446744073709551616) : gt (sealP p n) 4 8 = n := by
  unfold sealP lsnP
  rw [gt_pt_apart _ _ _ _ _ _ (by rw [pt_length _ _ _ _ (by omega)]; omega) (by omega), gt_pt_same _ _ _ _ (by omega)]
  omega
theorem gt_seal {p : PBytes} (hp : p.length = 512) (n a m : Nat) (ha : 12 ≤ a) : gt (sealP p n) a m = gt p a m := gt_of_win (seal_win hp n a m ha)
theorem gt_set_link {p : PBytes} (hp : p.length = 512) (l x : Nat) (hl : l < 4294967296) : gt (setP p l x) 18 4 = l := by
  unfold setP
  rw [gt_pt_apart _ _ _ _ _ _ (by rw [pt_length _ _ _ _ (by omega)]; omega) (by omega), gt_pt_same _ _ _ _ (by omega)]
  omega
theorem gt_set_extra {p : PBytes} (hp : p.length = 512) (l x : Nat) (hx : x < 4294967296) : gt (setP p l x) 22 4 = x := by
  unfold setP
  rw [gt_pt_same _ _ _ _ (by rw [pt_length _ _ _ _ (by omega)]; omega)]
  omega
theorem gt_set {p : PBytes} (hp : p.length = 512) (l x a m : Nat) (ha : a + m ≤ 18) : gt (setP p l x) a m = gt p a m := by
  unfold setP
  rw [gt_pt_apart _ _ _ _ _ _ (by rw [pt_length _ _ _ _ (by omega)]; omega) (by omega), gt_pt_apart _ _ _ _ _ _ (by omega) (by omega)]

open Classical in
/-- what is wrong with a page that was read -/
noncomputable def checkP (p : PBytes) : Int := if p = zer 512 then 0 else if ¬ GoodP p then 4 else if gt p 0 4 ≠ (crcOf (p.drop 4)).toNat then 8 else 0

theorem seal_drop {p : PBytes} (hp : p.length = 512) (n : Nat) : (sealP p n).drop 4 = (lsnP p n).drop 4 := by
  have hl : (lsnP p n).length = 512 := by unfold lsnP; rw [pt_length _ _ _ _ (by omega), hp]
  unfold sealP pt
  exact putAt_drop_after _ _ _ _ (by rw [leBytes_length]; omega) (by rw [leBytes_length]; omega)
theorem seal_sum {p : PBytes} (hp : p.length = 512) (n : Nat) : gt (sealP p n) 0 4 = (crcOf ((sealP p n).drop 4)).toNat := by
  have hl : (lsnP p n).length = 512 := by unfold lsnP; rw [pt_length _ _ _ _ (by omega), hp]
  rw [seal_drop hp]
  unfold sealP
  rw [gt_pt_same _ _ _ _ (by omega)]
  have := (crcOf ((lsnP p n).drop 4)).isLt
  omega
theorem check_seal {p : PBytes} (hg : GoodP p) (n : Nat) : checkP (sealP p n) = 0 := by
  have h1 := (seal_same hg.len n).good hg
  have h2 := seal_sum hg.len n
  unfold checkP
  by_cases hz : sealP p n = zer 512
  · rw [if_pos hz]
  · rw [if_neg hz, if_neg (by simpa using h1), if_neg (by simpa using h2)]

theorem win_set (l : PBytes) (i : Nat) (b : UInt8) (a n : Nat) (h : i < a ∨ a + n ≤ i) : win (l.set i b) a n = win l a n := by
  apply List.ext_getElem?
  intro j
  unfold win
  rw [List.getElem?_take, List.getElem?_take]
  split
  · rw [List.getElem?_drop, List.getElem?_drop, List.getElem?_set, if_neg (by omega)]
  · rfl
theorem bitAt_drop (l : PBytes) (j : Nat) : bitAt (l.drop 4) j = bitAt l (j + 32) := by
  unfold bitAt
  rw [List.getD_eq_getElem?_getD, List.getD_eq_getElem?_getD, List.getElem?_drop, show (j + 32) / 8 = 4 + j / 8 by omega, show (j + 32) % 8 = j % 8 by omega]
theorem bitAt_zer (n j : Nat) : bitAt (zer n) j = false := by
  unfold bitAt zer
  have : (List.replicate n (0 : UInt8)).getD (j / 8) 0 = 0 := by
    rw [List.getD_eq_getElem?_getD, List.getElem?_replicate]
    split <;> rfl
  rw [this]
  simp

/-- the sums of pages of which one bit of low alone is set -/
theorem low_sums : ∀ k, k < 16 → (crcOf ((flipBit (zer 512) (128 + k)).drop 4)).toNat ≠ 0 := by
  intro k hk
  apply crc_ne_zero
  revert k
  decide +kernel

theorem check_flip {p : PBytes} (hg : GoodP p) (n k : Nat) (hk : k < 4096) : checkP (flipBit (sealP p n) k) ≠ 0 := by
  have hgq := (seal_same hg.len n).good hg
  have hsum := seal_sum hg.len n
  obtain ⟨q, hq⟩ : ∃ q, sealP p n = q := ⟨_, rfl⟩
  rw [hq] at hgq hsum ⊢
  have hql := hgq.len
  have hbit := fun i => bitAt_flipBit q k i (by rw [hql]; exact hk)
  have hne : flipBit q k ≠ q := by
    intro he
    have := hbit k
    rw [he] at this
    simp at this
  unfold checkP
  by_cases hz : flipBit q k = zer 512
  · exfalso
    have hqe : q = flipBit (zer 512) k := by
      refine eq_of_bitAt (by rw [flipBit_length, hql, zer_length]) (fun j _ => ?_)
      have h1 := hbit j
      rw [hz, bitAt_zer] at h1
      rw [bitAt_flipBit _ _ _ (by rw [zer_length]; exact hk), bitAt_zer]
      cases hb : bitAt q j <;> simp_all
    have hlow : 26 ≤ lowP q := by have := hgq.fit; omega
    by_cases hr : 128 ≤ k ∧ k < 144
    · obtain ⟨r, hr2⟩ : ∃ r, k = 128 + r := ⟨k - 128, by omega⟩
      have h1 := low_sums r (by omega)
      rw [← hr2, ← hqe, ← hsum] at h1
      apply h1
      rw [hqe]
      have h2 : win (flipBit (zer 512) k) 0 4 = win (zer 512) 0 4 := win_set _ _ _ _ _ (by omega)
      rw [gt_of_win h2]
      decide +kernel
    · have h2 : win (flipBit (zer 512) k) 16 2 = win (zer 512) 16 2 := win_set _ _ _ _ _ (by omega)
      have h3 : lowP q = gt (zer 512) 16 2 := by rw [hqe]; exact gt_of_win h2
      have h4 : gt (zer 512) 16 2 = 0 := by decide +kernel
      omega
  · rw [if_neg hz]
    by_cases hg2 : GoodP (flipBit q k)
    · rw [if_neg (by simpa using hg2)]
      by_cases hs : gt (flipBit q k) 0 4 = (crcOf ((flipBit q k).drop 4)).toNat
      · exfalso
        apply hne
        by_cases hk32 : k < 32
        · have hd : (flipBit q k).drop 4 = q.drop 4 := by
            apply List.ext_getElem?
            intro j
            unfold flipBit
            rw [List.getElem?_drop, List.getElem?_drop, List.getElem?_set, if_neg (by omega)]
          rw [hd, ← hsum] at hs
          have hw : win (flipBit q k) 0 4 = win q 0 4 := by
            have h1 := leBytes_leNat (win (flipBit q k) 0 4)
            have h2 := leBytes_leNat (win q 0 4)
            rw [win_length _ _ _ (by rw [flipBit_length]; omega)] at h1
            rw [win_length _ _ _ (by omega)] at h2
            rw [← h1, ← h2]
            exact congrArg _ hs
          have e : ∀ l : PBytes, l = win l 0 4 ++ l.drop 4 := fun l => by unfold win; rw [List.drop_zero, List.take_append_drop]
          rw [e (flipBit q k), hw, hd, ← e]
        · have hw : win (flipBit q k) 0 4 = win q 0 4 := win_set _ _ _ _ _ (by omega)
          rw [gt_of_win hw, hsum] at hs
          have hcrc : crcOf (q.drop 4) = crcOf ((flipBit q k).drop 4) := BitVec.eq_of_toNat_eq hs
          have hd := (crcOf_window (a := q.drop 4) (b := (flipBit q k).drop 4) (by rw [List.length_drop, List.length_drop, flipBit_length]) (k - 32) (fun j hj => by
            rw [bitAt_drop, bitAt_drop, hbit]
            have : decide (j + 32 = k) = false := by simp; omega
            rw [this]; simp)).1 hcrc
          have e : ∀ l : PBytes, l = win l 0 4 ++ l.drop 4 := fun l => by unfold win; rw [List.drop_zero, List.take_append_drop]
          rw [e (flipBit q k), hw, ← hd, ← e]
      · rw [if_pos hs]
        decide
    · rw [if_pos hg2]
      decide

theorem new_len (k : Nat) : (newP k).length = 512 := by
  unfold newP
  rw [pt_length _ _ _ _ (by rw [List.length_set, zer_length]; decide), List.length_set, zer_length]
theorem new_cnt (k : Nat) : cnt (newP k) = 0 := by
  have h : win (newP k) 14 2 = win (zer 512) 14 2 := by
    unfold newP
    rw [win_pt _ _ _ _ _ _ (by rw [List.length_set, zer_length]; decide) (by omega), win_set _ _ _ _ _ (by omega)]
  show gt _ 14 2 = 0
  rw [gt_of_win h]
  decide +kernel
theorem new_low (k : Nat) : lowP (newP k) = 512 := by
  show gt (newP k) 16 2 = 512
  unfold newP
  rw [gt_pt2 _ _ _ (by rw [List.length_set, zer_length]; decide) (by decide)]
theorem new_good (k : Nat) : GoodP (newP k) := by
  refine ⟨new_len k, ?_, by rw [new_cnt, new_low]; decide, by rw [new_low]; decide, fun i hi => by rw [new_cnt] at hi; omega, fun a b _ hb => by rw [new_cnt] at hb; omega⟩
  have h : win (newP k) 13 1 = win (zer 512) 13 1 := by
    unfold newP
    rw [win_pt _ _ _ _ _ _ (by rw [List.length_set, zer_length]; decide) (by omega), win_set _ _ _ _ _ (by omega)]
  rw [win_get, h, ← win_get]
  decide +kernel
theorem new_free (k : Nat) : freeP (newP k) = 486 := by
  unfold freeP
  rw [new_cnt]
  rfl
end Mun
end
