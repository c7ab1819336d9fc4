/- Texts of mine, one behind the other: PageN, P5, P6, P7, P8. -/
import Derived.Test.YtjfepmohoijalaaGreatMgD
import Derived.Great.Walk
import Derived.Deep.DeepCutAuto
section
/- Plain: what the changes of a page come to. No program in sight. -/
set_option linter.unusedVariables false
namespace Mun

def win (p : PBytes) (a n : Nat) : PBytes := (p.drop a).take n
theorem gt_win (p : PBytes) (a n : Nat) : gt p a n = leNat (win p a n) := rfl
theorem win_putAt (p : PBytes) (A : Nat) (bs : PBytes) (a n : Nat) (hl : A + bs.length ≤ p.length) (h : a + n ≤ A ∨ A + bs.length ≤ a) : win (putAt p A bs) a n = win p a n := putAt_window_apart p A bs a n hl h
theorem win_pt (p : PBytes) (A k x a n : Nat) (hl : A + k ≤ p.length) (h : a + n ≤ A ∨ A + k ≤ a) : win (pt p A k x) a n = win p a n :=
  win_putAt p A _ a n (by rw [leBytes_length]; exact hl) (by rw [leBytes_length]; exact h)
theorem gt_of_win {p q : PBytes} {a n : Nat} (h : win p a n = win q a n) : gt p a n = gt q a n := by rw [gt_win, gt_win, h]
theorem cellP_win (p : PBytes) (i : Nat) : cellP p i = win p (sFrom p i) (sSize p i) := rfl

theorem szs_congr {p q : PBytes} : ∀ {k : Nat}, (∀ j, j < k → sSize p j = sSize q j) → szs p k = szs q k
  | 0, _ => rfl
  | k + 1, h => by
    show szs p k + sSize p k = szs q k + sSize q k
    rw [szs_congr (fun j hj => h j (by omega)), h k (by omega)]

/-- what anew wants of a page -/
structure AnewOk (p : PBytes) : Prop where
  len : p.length = 512
  fit : 26 + 4 * cnt p + szs p (cnt p) ≤ 512
  cell : ∀ i, i < cnt p → sFrom p i + sSize p i ≤ 512

/-- the first k cells laid anew -/
structure AnewI (p : PBytes) (k : Nat) (q : PBytes) : Prop where
  len : q.length = 512
  head : ∀ a n, a + n ≤ 26 → win q a n = win p a n
  old : ∀ j, k ≤ j → j < cnt p → sFrom q j = sFrom p j ∧ sSize q j = sSize p j
  from_ : ∀ j, j < k → sFrom q j = 512 - szs p (j + 1)
  size : ∀ j, j < k → sSize q j = sSize p j
  cell : ∀ j, j < k → win q (512 - szs p (j + 1)) (sSize p j) = cellP p j
  mid : ∀ a n, 26 + 4 * cnt p ≤ a → a + n ≤ 512 - szs p k → win q a n = win p a n

/-- a page laid out anew -/
structure AnewD (p q : PBytes) : Prop where
  len : q.length = 512
  head : ∀ a n, a + n ≤ 16 ∨ (18 ≤ a ∧ a + n ≤ 26) → win q a n = win p a n
  low : lowP q = 512 - szs p (cnt p)
  cnt : cnt q = cnt p
  from_ : ∀ j, j < Mun.cnt p → sFrom q j = 512 - szs p (j + 1)
  size : ∀ j, j < Mun.cnt p → sSize q j = sSize p j
  cell : ∀ j, j < Mun.cnt p → cellP q j = cellP p j
  zero : win q (26 + 4 * Mun.cnt p) (512 - szs p (Mun.cnt p) - (26 + 4 * Mun.cnt p)) = zer (512 - szs p (Mun.cnt p) - (26 + 4 * Mun.cnt p))

end Mun
end

section
/- Contract of anew: a page's cells laid out anew. -/
set_option maxRecDepth 100000
set_option linter.unusedVariables false
set_option linter.unusedSimpArgs false
namespace Mun
open Go Go.RowKit
open Go.Proofs

/-- a round of anew stands so -/
structure AnewR (w1 wr : World) (b g b2 : Nat) (vold : Value) (p : PBytes) (k : Nat) : Prop where
  bx : Bx w1 wr b g (anewS p k)
  old : wr.cell? ⟨b2, 0, none⟩ = some vold
  rd : RdB (G1 g) wr vold p

end Mun
end

section
/- Contract of Good. -/
set_option maxRecDepth 100000
set_option linter.unusedVariables false
set_option linter.unusedSimpArgs false
namespace Mun
open Go Go.RowKit
open Go.Proofs
open Go.Great

@[irreducible] def tk0 : Array Value := Array.replicate 512 (.bool false)
theorem z69 (w : World) : (zeroValue 177).run Tryz.prog w = .ok (.agg tk0) w := by
  have h : ((Tryz.prog.info? 177).bind (·.zero)) = some (.agg tk0) := by unfold tk0; kernel_rfl
  cases hq : Tryz.prog.info? 177 with
  | none => simp [hq] at h
  | some i =>
    simp [hq] at h
    simp [zeroValue, typeInfo, hq, h]
theorem al69 (w : World) : (Instr.alloc 177 true (.tuple #[])).run Tryz.prog w = .ok (.pointer (some ⟨w.heap.size, 0, none⟩)) (w.alloc (.cells tk0 177)) := by
  simp only [Instr.alloc, Sem.run_bind, z69, Result.andThen, newVar, newRow, Value.cells]
  rfl
/-- a row of bools -/
def tkA (l : List Bool) : Array Value := (l.map Value.bool).toArray
theorem tk0_eq : tk0 = tkA (List.replicate 512 false) := by
  unfold tk0 tkA
  rw [List.map_replicate]
  rfl
theorem tkA_get (l : List Bool) (k : Nat) (h : k < l.length) : (tkA l)[k]? = some (.bool l[k]) := by simp [tkA, h]

structure GdR (w0 wr : World) (b T : Nat) (v : Value) (l : List Bool) : Prop where
  bl : Below w0.heap.size w0 wr
  box : wr.cell? ⟨b, 0, none⟩ = some v
  tk : wr.heap[T]? = some (.cells (tkA l) 177 (0, 0))
  len : l.length = 512
  hT : w0.heap.size ≤ T
  ne : b ≠ T

theorem GdR.below {w0 wr w' : World} {b T : Nat} {v : Value} {l : List Bool} (h : GdR w0 wr b T v l) (hb : Below wr.heap.size wr w') : GdR w0 w' b T v l :=
  ⟨h.bl.trans (hb.mono h.bl.size), box_chg h.box (Chg.of_below hb (fun _ => False)) (fun x => x), (hb.block T (Array.getElem?_eq_some_iff.1 h.tk).1).trans h.tk, h.len, h.hT, h.ne⟩
theorem GdR.cell {w0 wr : World} {b T : Nat} {v : Value} {l : List Bool} (h : GdR w0 wr b T v l) (k : Nat) (hk : k < l.length) : wr.cell? ⟨T, k, none⟩ = some (.bool l[k]) := by
  rw [cell_of_row wr T k _ _ _ h.tk, tkA_get l k hk]
theorem GdR.frozen {w0 wr : World} {b T : Nat} {v : Value} {l : List Bool} (h : GdR w0 wr b T v l) (k : Nat) : wr.frozen? ⟨T, k, none⟩ = false := by simp [World.frozen?, h.tk]
theorem GdR.set {w0 wr : World} {b T : Nat} {v : Value} {l : List Bool} (h : GdR w0 wr b T v l) (k : Nat) (hk : k < l.length) : GdR w0 (wr.setCell ⟨T, k, none⟩ (.bool true)) b T v (l.set k true) := by
  have hs : ∀ j, j ≠ T → (wr.setCell ⟨T, k, none⟩ (.bool true)).heap[j]? = wr.heap[j]? := fun j hj => Below.heap_setCell wr ⟨T, k, none⟩ _ j hj
  refine ⟨h.bl.setCell h.hT _, ?_, ?_, by rw [List.length_set]; exact h.len, h.hT, h.ne⟩
  · obtain ⟨_, cur, e, fr, hh, hc⟩ := cell_block h.box
    rw [cell_of_row _ b 0 cur e fr ((hs b h.ne).trans hh)]
    exact hc
  · have h1 := h.tk
    have : (tkA l).setIfInBounds k (.bool true) = tkA (l.set k true) := by simp [tkA, List.map_set]
    rw [← this]
    simp [World.setCell, Array.getElem?_modify, h1]

/-- what is taken when the first i cells are looked at -/
def tkInv (p : PBytes) (i : Nat) (l : List Bool) : Prop := ∀ x, x < 512 → (l[x]? = some true ↔ ∃ j, j < i ∧ inC p j x)
/-- the first i cells are right -/
structure okUpto (p : PBytes) (i : Nat) : Prop where
  cell : ∀ j, j < i → lowP p ≤ sFrom p j ∧ sFrom p j + sSize p j ≤ 512
  apart : ∀ a b, a < b → b < i → ∀ x, ¬ (inC p a x ∧ inC p b x)

theorem tkInv_zero (p : PBytes) : tkInv p 0 (List.replicate 512 false) := by
  intro x hx
  rw [List.getElem?_replicate, if_pos hx]
  constructor
  · intro h; cases h
  · rintro ⟨j, hj, _⟩; omega

/-- in the midst of cell i, up to k -/
def tkMid (p : PBytes) (i k : Nat) (l : List Bool) : Prop := ∀ x, x < 512 → (l[x]? = some true ↔ (∃ j, j < i ∧ inC p j x) ∨ (sFrom p i ≤ x ∧ x < k))
theorem tkMid_start {p : PBytes} {i : Nat} {l : List Bool} (h : tkInv p i l) : tkMid p i (sFrom p i) l := by
  intro x hx
  rw [h x hx]
  constructor
  · exact .inl
  · rintro (h | h)
    · exact h
    · omega
theorem tkMid_step {p : PBytes} {i k : Nat} {l : List Bool} (h : tkMid p i k l) (hl : l.length = 512) (h1 : sFrom p i ≤ k) (hk : k < 512) : tkMid p i (k + 1) (l.set k true) := by
  intro x hx
  rw [List.getElem?_set]
  by_cases hxk : k = x
  · subst hxk
    rw [if_pos rfl, if_pos (by omega)]
    constructor
    · intro _; exact .inr ⟨h1, by omega⟩
    · intro _; rfl
  · rw [if_neg hxk, h x hx]
    constructor
    · rintro (h | h)
      · exact .inl h
      · exact .inr ⟨h.1, by omega⟩
    · rintro (h | h)
      · exact .inl h
      · exact .inr ⟨h.1, by omega⟩
theorem tkMid_end {p : PBytes} {i : Nat} {l : List Bool} (h : tkMid p i (sFrom p i + sSize p i) l) : tkInv p (i + 1) l := by
  intro x hx
  rw [h x hx]
  constructor
  · rintro (⟨j, hj, hc⟩ | hc)
    · exact ⟨j, by omega, hc⟩
    · exact ⟨i, by omega, hc⟩
  · rintro ⟨j, hj, hc⟩
    rcases Nat.lt_or_eq_of_le (Nat.lt_succ_iff.1 hj) with hj | rfl
    · exact .inl ⟨j, hj, hc⟩
    · exact .inr hc
theorem okUpto_succ {p : PBytes} {i : Nat} (h : okUpto p i) (hc : lowP p ≤ sFrom p i ∧ sFrom p i + sSize p i ≤ 512) (hf : ∀ x, inC p i x → ¬ ∃ j, j < i ∧ inC p j x) : okUpto p (i + 1) := by
  refine ⟨fun j hj => ?_, fun a b hab hb x hx => ?_⟩
  · rcases Nat.lt_or_eq_of_le (Nat.lt_succ_iff.1 hj) with hj | rfl
    · exact h.cell j hj
    · exact hc
  · rcases Nat.lt_or_eq_of_le (Nat.lt_succ_iff.1 hb) with hb | rfl
    · exact h.apart a b hab hb x hx
    · exact hf x hx.2 ⟨a, hab, hx.1⟩
/-- what Good looks at first -/
structure headOk (p : PBytes) : Prop where
  len : p.length = 512
  none : p[13]? = some 0
  fit : 26 + 4 * cnt p ≤ lowP p
  low : lowP p ≤ 512
theorem good_of {p : PBytes} (h : headOk p) (ho : okUpto p (cnt p)) : GoodP p := ⟨h.len, h.none, h.fit, h.low, ho.cell, ho.apart⟩
theorem not_good_cell {p : PBytes} {i : Nat} (hi : i < cnt p) (h : ¬ (lowP p ≤ sFrom p i ∧ sFrom p i + sSize p i ≤ 512)) : ¬ GoodP p := fun hg => h (hg.cell i hi)
theorem not_good_taken {p : PBytes} {i k : Nat} (hi : i < cnt p) (h1 : inC p i k) (h2 : ∃ j, j < i ∧ inC p j k) : ¬ GoodP p := fun hg => by
  obtain ⟨j, hj, hc⟩ := h2
  exact hg.apart j i hj hi k ⟨hc, h1⟩
end Mun
end

section
/- Contract of Good: the walk. -/
set_option maxRecDepth 100000
set_option linter.unusedVariables false
set_option linter.unusedSimpArgs false
namespace Mun
open Go Go.RowKit
open Go.Proofs
open Go.Great

set_option maxHeartbeats 4000000 in
theorem good_any {F : Foot} (w : World) (v : Value) (p : List UInt8) (hv : RdB F w v p) : Calls Tryz.prog 102 #[v] w fun e w' => e = .returned (.bool (goodB p)) ∧ Below w.heap.size w w' := by
  by_cases hp : p.length = 512
  · obtain ⟨g, off, c, rfl, hlc, hcm, hF, hglt, hcells⟩ := hv.at_ (by omega)
    have c13 := hcells 13 (by omega)
    obtain ⟨z, hz⟩ : ∃ z : Nat, p[13].toNat = z := ⟨_, rfl⟩
    rw [hz] at c13
    have hz0 : z = 0 ↔ p[13]? = some 0 := by
      rw [List.getElem?_eq_getElem (by omega)]
      constructor
      · intro h; rw [← hz] at h; congr 1; exact UInt8.toNat_inj.1 h
      · intro h; injection h with h; rw [← hz, h]; rfl
    have HP := Lib.hid hp
    rw [hp] at hv ⊢
    have HV0 := Lib.hid hv
    by_cases h13 : z = 0
    · subst h13
      have h130 := Lib.hid (hz0.1 rfl)
      have hbox : (w.alloc (.cells #[.slice (some ⟨g, off, none⟩) 512 c] 149)).drew.cell? ⟨w.heap.size, 0, none⟩ = some (.slice (some ⟨g, off, none⟩) 512 c) :=
        cell_of_row (w.alloc (.cells #[.slice (some ⟨g, off, none⟩) 512 c] 149)) w.heap.size 0 _ _ _ (heap_alloc_new w _)
      have hB0 : Below w.heap.size w (w.alloc (.cells #[.slice (some ⟨g, off, none⟩) 512 c] 149)) := (Below.refl _ _).alloc (Nat.le_refl _) _
      have hv1 : RdB F (w.alloc (.cells #[.slice (some ⟨g, off, none⟩) 512 c] 149)) (.slice (some ⟨g, off, none⟩) 512 c) p := hv.alloc _
      obtain ⟨w1, hw1⟩ : ∃ w1, w.alloc (.cells #[.slice (some ⟨g, off, none⟩) 512 c] 149) = w1 := ⟨_, rfl⟩
      rw [hw1] at hbox hB0 hv1
      have hs1 : w1.heap.size = w.heap.size + 1 := by rw [← hw1, World.size_alloc]
      have hcn : ∀ W, Below w1.heap.size w1 W → Calls Tryz.prog 111 #[.agg #[.slice (some ⟨g, off, none⟩) 512 c]] W fun e w' => e = .returned (.int .i64 (cnt p)) ∧ Below W.heap.size W w' :=
        fun W hW => count_any W _ p (hv1.below hW) HP.out
      have hlw : ∀ W, Below w1.heap.size w1 W → Calls Tryz.prog 112 #[.agg #[.slice (some ⟨g, off, none⟩) 512 c]] W fun e w' => e = .returned (.int .i64 (lowP p)) ∧ Below W.heap.size W w' :=
        fun W hW => low_any W _ p (hv1.below hW) HP.out
      have b1 : lowP p < 65536 := gt2_lt p 16
      have b2 : cnt p < 65536 := gt2_lt p 14
      obtain ⟨lo, hlo⟩ : ∃ lo, lowP p = lo := ⟨_, rfl⟩
      obtain ⟨n, hnn⟩ : ∃ n, cnt p = n := ⟨_, rfl⟩
      rw [hlo] at hlw b1
      rw [hnn] at hcn b2
      have hS0 : w1.drew.cell? ⟨w.heap.size, 0, none⟩ = some (.slice (some ⟨g, off, none⟩) 512 c) ∧ Below w1.heap.size w1 w1.drew := ⟨hbox, below_drewN (Below.refl _ _) 1⟩
      have BB := Lib.hid (And.intro b1 b2)
      have HLO := Lib.hid hlo
      have HNN := Lib.hid hnn
      have HV1 := Lib.hid (And.intro hv1 (And.intro hB0 hs1))
      have HCN := Lib.hid hcn
      have HLW := Lib.hid hlw
      clear hcells hz hz0 hv hbox hB0 hv1 hcn hlw hp hlo hnn b1 b2 hF hs1
      go_enter Tryz.func102, Tryz.ntmps102
      go_wp2
      go_region_held3 (fun W => W.cell? ⟨w.heap.size, 0, none⟩ = some (.slice (some ⟨g, off, none⟩) 512 c) ∧ Below w1.heap.size w1 W)
        (first | exact hS2 | exact hS1 | exact hS0)
        (first
        | ((go_at_call 111; refine (HCN.out _ hS0.2).mono ?_; rintro e W1 ⟨rfl, hb1⟩; have hS1 := boxS_keep hS0 hb1))
        | ((go_at_call 112; refine (HLW.out _ hS1.2).mono ?_; rintro e W2 ⟨rfl, hb2⟩; have hS2 := boxS_keep hS1 hb2)))
      have HS2 := Lib.hid (And.intro hS2 hS1.2)
      clear hS0 hS1 hS2 hb1 hb2 HCN HLW
      have hx2 := HS2.out.1.1
      have b2 : n < 65536 := BB.out.2
      by_cases hfit : 26 + 4 * n ≤ lo
      · by_cases hlow : lo ≤ 512
        · have hfi : 26 + 4 * (n : Int) ≤ (lo : Int) := by omega
          have hli : (lo : Int) ≤ 512 := by omega
          clear hfit hlow
          have HFL : Hid (26 + 4 * n ≤ lo ∧ lo ≤ 512) := by show _ ∧ _; omega
          have HHD : Hid (headOk p) := by show headOk p; exact ⟨HP.out, h130.out, by rw [HLO.out, HNN.out]; omega, by rw [HLO.out]; omega⟩
          go_upto_region 7 with (fail)
          apply wp_region_lit
          refine wpList_allocTo rfl (some 6) rfl (.pointer (some ⟨W2.heap.size, 0, none⟩)) (.cells tk0 177) (by simp [execOp, al69]) ?_
          apply wpList_nil
          have hst : GdR w (W2.alloc (.cells tk0 177)) w.heap.size W2.heap.size (.slice (some ⟨g, off, none⟩) 512 c) (List.replicate 512 false) := by
            have hB : Below w.heap.size w W2 := HV1.out.2.1.trans (HS2.out.1.2.mono HV1.out.2.1.size)
            have hsz : w.heap.size < W2.heap.size := by have h1 := HV1.out.2.2; have h2 := HS2.out.1.2.size; omega
            refine ⟨hB.alloc hB.size _, box_chg HS2.out.1.1 (Chg.of_below ((Below.refl _ _).alloc (Nat.le_refl _) _) (fun _ => False)) (fun x => x), ?_, by simp, by omega, by omega⟩
            rw [← tk0_eq]
            exact heap_alloc_new W2 _
          obtain ⟨W3, hW3⟩ : ∃ W3, W2.alloc (.cells tk0 177) = W3 := ⟨_, rfl⟩
          rw [hW3] at hst ⊢
          have HST := Lib.hid hst
          clear hst hW3 hx2 hfi HS2
          have hni : n ≤ 121 := by omega
          go_wp2
          go_loopw [36] (fun i wr => ∃ (k : Nat) (l : List Bool), k ≤ n ∧ i = .int .i64 (k : Int) ∧ GdR w wr w.heap.size W2.heap.size (.slice (some ⟨g, off, none⟩) 512 c) l ∧ tkInv p k l ∧ okUpto p k) (fun i _ => n - (intOf i).toNat)
          case atStart => exact ⟨0, _, by omega, rfl, HST.out, tkInv_zero p, ⟨fun j hj => by omega, fun a b _ hb => by omega⟩⟩
          case round =>
            obtain ⟨k, l, hk, rfl, hR, hI, hO⟩ := hrel
            rcases Nat.lt_or_eq_of_le hk with hlt | heq
            · have hfl := HFL.out
              have hsl := slot_any wr _ p k (RdB.below HV0.out hR.bl) HP.out (by omega)
              have hb1 : sFrom p k < 65536 := gt2_lt p _
              have hb2 : sSize p k < 65536 := gt2_lt p _
              obtain ⟨f, hf⟩ : ∃ f, sFrom p k = f := ⟨_, rfl⟩
              obtain ⟨s, hs⟩ : ∃ s, sSize p k = s := ⟨_, rfl⟩
              rw [hf] at hsl hb1
              rw [hs] at hsl hb2
              have HK : Hid (k < n ∧ sFrom p k = f ∧ sSize p k = s ∧ f < 65536 ∧ s < 65536) := ⟨hlt, hf, hs, hb1, hb2⟩
              have hxr := hR.box
              have HR := Lib.hid (And.intro hR (And.intro hI hO))
              have HSL := Lib.hid hsl
              have hki : (k : Int) < (n : Int) := by omega
              clear hR hI hO hsl hf hs hlt hk hfl hb1 hb2
              go_wp2_with fail
              refine HSL.out.mono ?_
              rintro e w5 ⟨rfl, hb5⟩
              have HR5 := Lib.hid (HR.out.1.below hb5)
              clear hb5 hxr
              have hkk := HK.out
              have hf1 : f < 65536 := hkk.2.2.2.1
              have hs1 : s < 65536 := hkk.2.2.2.2
              by_cases hc1 : f < lo
              · have HG : Hid (goodB p = false) := by
                  show _ = _
                  exact goodB_false (not_good_cell (by rw [HNN.out]; exact hkk.1) (fun h => by have := h.1; rw [HLO.out, hkk.2.1] at this; omega))
                have hci : (f : Int) < (lo : Int) := by omega
                clear hkk hc1
                go_wp2
                go_ret
                exact ⟨by rw [HG.out]; rfl, HR5.out.bl⟩
              · by_cases hc2 : f + s ≤ 512
                · have hci : ¬ (f : Int) < (lo : Int) := by omega
                  have hc2i : (f : Int) + (s : Int) ≤ 512 := by omega
                  have HCC : Hid (lo ≤ f ∧ f + s ≤ 512) := by show _ ∧ _; omega
                  clear hkk hc1 hc2
                  go_wp2
                  go_loopw [10] (fun kk wr2 => ∃ (x : Nat) (l2 : List Bool), f ≤ x ∧ x ≤ f + s ∧ kk = .int .i64 (x : Int) ∧ GdR w wr2 w.heap.size W2.heap.size (.slice (some ⟨g, off, none⟩) 512 c) l2 ∧ tkMid p k x l2 ∧ (∀ y, f ≤ y → y < x → ¬ ∃ j, j < k ∧ inC p j y)) (fun kk _ => f + s - (intOf kk).toNat)
                  case atStart =>
                    refine ⟨f, l, Nat.le_refl _, by omega, rfl, HR5.out, ?_, fun y h1 h2 => by omega⟩
                    have := tkMid_start HR.out.2.1
                    rw [HK.out.2.1] at this
                    exact this
                  case round =>
                    obtain ⟨x, l2, hx1, hx2, rfl, hR2, hM2, hF2⟩ := hrel
                    rcases Nat.lt_or_eq_of_le hx2 with hxlt | hxeq
                    · have hcc := HCC.out
                      have hx512 : x < l2.length := by rw [hR2.len]; omega
                      have hcl := hR2.cell x hx512
                      have hfr := hR2.frozen x
                      cases hb : l2[x] with
                      | true =>
                        have hex : ∃ j, j < k ∧ inC p j x := by
                          have := (hM2 x (by omega)).1 (by rw [List.getElem?_eq_getElem hx512, hb])
                          rcases this with h | h
                          · exact h
                          · omega
                        have HG : Hid (goodB p = false) := by
                          show _ = _
                          have hkk := HK.out
                          exact goodB_false (not_good_taken (k := x) (by rw [HNN.out]; exact hkk.1) ⟨by rw [hkk.2.1]; exact hx1, by rw [hkk.2.1, hkk.2.2.1]; exact hxlt⟩ hex)
                        rw [hb] at hcl
                        have HB := Lib.hid hR2.bl
                        have hxi : (x : Int) < (f : Int) + (s : Int) := by omega
                        have hxn : x < 512 := by omega
                        clear hR2 hM2 hF2 hex hb hcc hx1 hx2 hxlt hx512
                        go_wp2
                        go_ret
                        exact ⟨by rw [HG.out]; rfl, HB.out⟩
                      | false =>
                        have hnex : ¬ ∃ j, j < k ∧ inC p j x := by
                          intro h
                          have := (hM2 x (by omega)).2 (.inl h)
                          rw [List.getElem?_eq_getElem hx512, hb] at this
                          cases this
                        have hset := hR2.set x hx512
                        have hmid := tkMid_step hM2 hR2.len (by rw [HK.out.2.1]; exact hx1) (by omega)
                        have HN2 : Hid (GdR w (wr.setCell ⟨W2.heap.size, x, none⟩ (.bool true)) w.heap.size W2.heap.size (.slice (some ⟨g, off, none⟩) 512 c) (l2.set x true) ∧ tkMid p k (x + 1) (l2.set x true) ∧ (∀ y, f ≤ y → y < x + 1 → ¬ ∃ j, j < k ∧ inC p j y) ∧ f ≤ x ∧ x < f + s) := by
                          refine ⟨hset, hmid, fun y h1 h2 => ?_, hx1, hxlt⟩
                          rcases Nat.lt_or_eq_of_le (Nat.lt_succ_iff.1 h2) with h | rfl
                          · exact hF2 y h1 h
                          · exact hnex
                        rw [hb] at hcl
                        have hxi : (x : Int) < (f : Int) + (s : Int) := by omega
                        have hxn : x < 512 := by omega
                        clear hR2 hM2 hF2 hnex hb hcc hx1 hx2 hxlt hx512 hset hmid
                        go_wp2
                        go_roundw
                        case rel => exact ⟨x + 1, _, by have := HN2.out; omega, by have := HN2.out; omega, by go_num, HN2.out.1, HN2.out.2.1, HN2.out.2.2.1⟩
                        case measure => have := HN2.out; simp [intOf]; omega
                    · subst hxeq
                      have HE : Hid (GdR w wr w.heap.size W2.heap.size (.slice (some ⟨g, off, none⟩) 512 c) l2 ∧ tkInv p (k + 1) l2 ∧ okUpto p (k + 1)) := by
                        have hkk := HK.out
                        refine ⟨hR2, tkMid_end (by rw [hkk.2.1, hkk.2.2.1]; exact hM2), okUpto_succ HR.out.2.2 ?_ ?_⟩
                        · rw [hkk.2.1, hkk.2.2.1, HLO.out]; exact HCC.out
                        · intro y hy
                          unfold inC at hy
                          rw [hkk.2.1, hkk.2.2.1] at hy
                          exact hF2 y hy.1 hy.2
                      have hxi : ¬ (((f + s : Nat) : Int) < (f : Int) + (s : Int)) := by omega
                      clear hR2 hM2 hF2 hx1 hx2
                      go_wp2
                      go_roundw
                      case rel => exact ⟨k + 1, l2, by have := HK.out; omega, by go_num, HE.out.1, HE.out.2.1, HE.out.2.2⟩
                      case measure => have := HK.out; simp [intOf]; omega
                · have HG : Hid (goodB p = false) := by
                    show _ = _
                    exact goodB_false (not_good_cell (by rw [HNN.out]; exact hkk.1) (fun h => by have := h.2; rw [hkk.2.1, hkk.2.2.1] at this; omega))
                  have hci : ¬ (f : Int) < (lo : Int) := by omega
                  have hc2i : (f : Int) + (s : Int) > 512 := by omega
                  clear hkk hc1 hc2
                  go_wp2
                  go_ret
                  exact ⟨by rw [HG.out]; rfl, HR5.out.bl⟩
            · subst heq
              have HG : Hid (goodB p = true) := by show _ = _; exact goodB_true (good_of HHD.out (by rw [HNN.out]; exact hO))
              have HB := Lib.hid hR.bl
              clear hR hI hO hk
              go_wp2
              go_ret
              exact ⟨by rw [HG.out]; rfl, HB.out⟩
        · have HG : Hid (goodB p = false) := by show _ = _; exact goodB_false (fun h => hlow (by rw [← HLO.out]; exact h.low))
          have hfi : 26 + 4 * (n : Int) ≤ (lo : Int) := by omega
          have hli : ((lo : Int) > 512) := by omega
          clear hfit hlow
          go_wp2
          go_ret
          exact ⟨by rw [HG.out]; rfl, HV1.out.2.1.trans (HS2.out.1.2.mono HV1.out.2.1.size)⟩
      · have HG : Hid (goodB p = false) := by show _ = _; exact goodB_false (fun h => hfit (by rw [← HLO.out, ← HNN.out]; exact h.fit))
        have hfi : 26 + 4 * (n : Int) > (lo : Int) := by omega
        clear hfit
        go_wp2
        go_ret
        exact ⟨by rw [HG.out]; rfl, HV1.out.2.1.trans (HS2.out.1.2.mono HV1.out.2.1.size)⟩
    · have HG : Hid (goodB p = false) := by show _ = _; exact goodB_false (fun h => h13 (hz0.2 h.none))
      have t13 : ((z : Int) == 0) = false := by simpa using h13
      clear hcells hz hz0 hv
      go_enter Tryz.func102, Tryz.ntmps102
      go_wp2
      go_ret
      exact ⟨by rw [HG.out]; rfl, Below.refl _ _⟩
  · have HG : Hid (goodB p = false) := by show _ = _; exact goodB_false (fun h => hp h.len)
    obtain ⟨a, n, c, rfl, HN, hlc, hcm⟩ := hv.formN
    have hn : ((n : Int) != 512) = true := by have := HN.out; simp; omega
    have hn2 : ((n : Int) == 512) = false := by have := HN.out; simp; omega
    clear hv hp
    go_enter Tryz.func102, Tryz.ntmps102
    go_wp2
    go_ret
    exact ⟨by rw [HG.out]; rfl, Below.refl _ _⟩
end Mun
end

section
/- Contracts of of, copied, New. -/
set_option maxRecDepth 100000
set_option linter.unusedVariables false
set_option linter.unusedSimpArgs false
namespace Mun
open Go Go.RowKit
open Go.Proofs

theorem one_set {w : World} {b : Nat} {x v : Value} {t : TypeId} (h : w.heap[b]? = some (.cells #[x] t (0, 0))) : (w.setCell ⟨b, 0, none⟩ v).heap[b]? = some (.cells #[v] t (0, 0)) := by
  simp [World.setCell, Array.getElem?_modify, h]
theorem one_cell {w : World} {b : Nat} {x : Value} {t : TypeId} (h : w.heap[b]? = some (.cells #[x] t (0, 0))) : w.cell? ⟨b, 0, none⟩ = some x := cell_of_row w b 0 _ _ _ h
theorem one_free {w : World} {b : Nat} {x : Value} {t : TypeId} (h : w.heap[b]? = some (.cells #[x] t (0, 0))) : w.frozen? ⟨b, 0, none⟩ = false := by simp [World.frozen?, h]
theorem one_below {w w' : World} {b : Nat} {x : Value} {t : TypeId} (h : w.heap[b]? = some (.cells #[x] t (0, 0))) (hb : Below w.heap.size w w') : w'.heap[b]? = some (.cells #[x] t (0, 0)) :=
  (hb.block b (Array.getElem?_eq_some_iff.1 h).1).trans h

theorem pof_yes {F : Foot} (w : World) (v : Value) (p : List UInt8) (hv : RdB F w v p) (hg : GoodP p) :
    Calls Tryz.prog 83 #[v] w fun e w' => e = .returned (.tuple #[.agg #[v], .int .i64 0]) ∧ Below w.heap.size w w' := by
  have hgo := good_any (w.alloc (.cells #[.slice none 0 0] 149)) v p (hv.alloc _)
  rw [goodB_true hg] at hgo
  have hbox := heap_alloc_new w (.cells #[.slice none 0 0] 149)
  obtain ⟨a, n, c, rfl, HN, -, -⟩ := hv.formN
  have HG := Lib.hid hgo
  clear hgo hv hg HN
  go_enter Tryz.func83, Tryz.ntmps83
  go_wp2_with fail
  refine HG.out.mono ?_
  rintro e w2 ⟨rfl, hb⟩
  have hx := one_below hbox hb
  have hf := one_free hx
  have hc0 := one_cell hx
  have hc := one_cell (one_set (v := .slice a n c) hx)
  have HB := Lib.hid hb
  clear hb hbox hx
  go_wp2
  exact bodyPost_ret (v := .tuple #[.agg #[.slice a n c], .int .i64 0]) (by simp [results, Tryz.results83, go_sem, hc]) rfl ⟨rfl, (((Below.refl _ _).alloc (Nat.le_refl _) _).trans (HB.out.mono (by simp))).setCell (Nat.le_refl _) _⟩

theorem pof_no {F : Foot} (w : World) (v : Value) (p : List UInt8) (hv : RdB F w v p) (hg : ¬ GoodP p) :
    Calls Tryz.prog 83 #[v] w fun e w' => e = .returned (.tuple #[.agg #[.slice none 0 0], .int .i64 4]) ∧ Below w.heap.size w w' := by
  have hgo := good_any (w.alloc (.cells #[.slice none 0 0] 149)) v p (hv.alloc _)
  rw [goodB_false hg] at hgo
  have hbox := heap_alloc_new w (.cells #[.slice none 0 0] 149)
  obtain ⟨a, n, c, rfl, HN, -, -⟩ := hv.formN
  have HG := Lib.hid hgo
  clear hgo hv hg HN
  go_enter Tryz.func83, Tryz.ntmps83
  go_wp2_with fail
  refine HG.out.mono ?_
  rintro e w2 ⟨rfl, hb⟩
  have hx := one_below hbox hb
  have hf := one_free hx
  have hc0 := one_cell hx
  have hc := one_cell (one_set (v := .slice none 0 0) hx)
  have HB := Lib.hid hb
  clear hb hbox hx
  go_wp2
  exact bodyPost_ret (v := .tuple #[.agg #[.slice none 0 0], .int .i64 4]) (by simp [results, Tryz.results83, go_sem, hc]) rfl ⟨rfl, (((Below.refl _ _).alloc (Nat.le_refl _) _).trans (HB.out.mono (by simp))).setCell (Nat.le_refl _) _⟩

theorem copied_no {F : Foot} (w : World) (v : Value) (p : List UInt8) (hv : RdB F w v p) (hg : ¬ GoodP p) :
    Calls Tryz.prog 91 #[v] w fun e w' => e = .returned (.tuple #[.agg #[.slice none 0 0], .int .i64 4]) ∧ Below w.heap.size w w' := by
  have hgo := pof_no (w.alloc (.cells #[.slice none 0 0] 149)) v p (hv.alloc _) hg
  have hbox := heap_alloc_new w (.cells #[.slice none 0 0] 149)
  obtain ⟨a, n, c, rfl, HN, -, -⟩ := hv.formN
  have HG := Lib.hid hgo
  clear hgo hv hg HN
  go_enter Tryz.func91, Tryz.ntmps91
  go_wp2_with fail
  refine HG.out.mono ?_
  rintro e w2 ⟨rfl, hb⟩
  have hx := (one_below hbox hb)
  have hlt : w.heap.size < w2.heap.size := by have := hb.size; simp at this; omega
  have hx2 := one_below (one_set (v := .slice none 0 0) hx) ((Below.refl _ _).alloc (Nat.le_refl _) (.cells #[.slice none 0 0] 149))
  have hB3 : Below w.heap.size w ((w2.setCell ⟨w.heap.size, 0, none⟩ (.slice none 0 0)).alloc (.cells #[.slice none 0 0] 149)) :=
    ((((Below.refl _ _).alloc (Nat.le_refl _) _).trans (hb.mono (by simp))).setCell (Nat.le_refl _) _).alloc (by simp [World.setCell]; omega) _
  have hf := one_free hx
  have hc0 := one_cell hx
  have hc := one_cell hx2
  have HB := Lib.hid hB3
  clear hb hbox hx hx2 hB3
  go_wp2
  exact bodyPost_ret (v := .tuple #[.agg #[.slice none 0 0], .int .i64 4]) (by simp [results, Tryz.results91, go_sem, hc]) rfl ⟨rfl, HB.out⟩

theorem copied_yes {F : Foot} (w : World) (v : Value) (p : List UInt8) (hv : RdB F w v p) (hg : GoodP p) :
    Calls Tryz.prog 91 #[v] w fun e w' => ∃ g, e = .returned (.tuple #[.agg #[PV g], .int .i64 0]) ∧ PgAt w' g p ∧ w.heap.size ≤ g ∧ Below w.heap.size w w' := by
  have hgo := pof_yes (w.alloc (.cells #[.slice none 0 0] 149)) v p (hv.alloc _) hg
  have hbox := heap_alloc_new w (.cells #[.slice none 0 0] 149)
  have HV := Lib.hid hv
  have HP := Lib.hid hg.len
  obtain ⟨a, c, rfl, -, -⟩ := hv.form
  have hp := hg.len
  rw [hp] at hgo HV ⊢
  have HG := Lib.hid hgo
  clear hgo hv hg hp
  go_enter Tryz.func91, Tryz.ntmps91
  go_wp2_with fail
  refine HG.out.mono ?_
  rintro e w2 ⟨rfl, hb⟩
  have hx := (one_below hbox hb)
  have hlt : w.heap.size < w2.heap.size := by have := hb.size; simp at this; omega
  have hB2 : Below w.heap.size w w2 := ((Below.refl _ _).alloc (Nat.le_refl _) _).trans (hb.mono (by simp))
  have hx3 := one_below hx ((Below.refl _ _).alloc (Nat.le_refl _) (.cells #[.slice a 512 c] 149))
  have hs3 : (w2.alloc (.cells #[.slice a 512 c] 149)).cell? ⟨w2.heap.size, 0, none⟩ = some (.slice a 512 c) := one_cell (heap_alloc_new w2 _)
  have hv3 : RdB F (w2.alloc (.cells #[.slice a 512 c] 149)) (.slice a 512 c) p := RdB.alloc (RdB.below HV.out hB2) _
  have hB3 : Below w.heap.size w (w2.alloc (.cells #[.slice a 512 c] 149)) := hB2.alloc (by omega) _
  obtain ⟨w3, hw3⟩ : ∃ w3, w2.alloc (.cells #[.slice a 512 c] 149) = w3 := ⟨_, rfl⟩
  rw [hw3] at hx3 hs3 hv3 hB3
  have hmk : (Instr.makeSlice 41 (.int .i64 0) (.int .i64 512)).run Tryz.prog w3.drew = .ok (.slice (some ⟨w3.heap.size, 0, none⟩) 0 512) (w3.drew.alloc (bobj (zer 512))) := make_bytes0 512 (by decide) w3.drew
  have hcp := copied_bytes (ty := 41) (w := w3.drew) (RdB.drewN hv3 1) (by rw [HP.out]; decide)
  rw [HP.out] at hcp
  change (Builtin.append_ #[41, 41] 41 #[.slice (some ⟨w3.heap.size, 0, none⟩) 0 512, .slice a 512 c]).run Tryz.prog (w3.drew.alloc (bobj (zer 512))) = _ at hcp
  have HX := Lib.hid (And.intro hx3 (And.intro hs3 hB3))
  have HCP := Lib.hid hcp
  have hS0 : w3.drew.cell? ⟨w2.heap.size, 0, none⟩ = some (.slice a 512 c) := hs3
  clear hb hbox hx hB2 hx3 hs3 hv3 hB3 hcp
  go_wp2
  have hx4 := one_below HX.out.1 ((Below.refl _ _).alloc (Nat.le_refl _) (bobj p))
  have hfr := one_free hx4
  have hc00 := one_cell hx4
  have hx5 := one_set (v := .slice (some ⟨w3.heap.size, 0, none⟩) 512 512) hx4
  have hS5 : ((w3.alloc (bobj p)).setCell ⟨w.heap.size, 0, none⟩ (.slice (some ⟨w3.heap.size, 0, none⟩) 512 512)).drew.cell? ⟨w2.heap.size, 0, none⟩ = some (.slice a 512 c) := by
    have h1 := box_chg (F := fun _ => False) (F' := fun _ => False) (W := w3) (W' := w3.alloc (bobj p)) hS0 (Chg.of_below ((Below.refl _ _).alloc (Nat.le_refl _) _) _) (fun x => x)
    have h2 : Chg (fun k => k = w.heap.size) (fun k => k = w.heap.size) (w3.alloc (bobj p)) ((w3.alloc (bobj p)).setCell ⟨w.heap.size, 0, none⟩ (.slice (some ⟨w3.heap.size, 0, none⟩) 512 512)) :=
      ⟨rfl, rfl, rfl, by simp [World.setCell], fun k _ hk => Below.heap_setCell _ _ _ _ hk, fun _ h => .inl h⟩
    have h3 := box_chg h1 h2 (fun h => by have : w2.heap.size = w.heap.size := h; omega)
    exact h3
  have hpg : PgAt ((w3.alloc (bobj p)).setCell ⟨w.heap.size, 0, none⟩ (.slice (some ⟨w3.heap.size, 0, none⟩) 512 512)) w3.heap.size p :=
    ⟨(Below.heap_setCell _ _ _ _ (by have := (Array.getElem?_eq_some_iff.1 HX.out.1).1; simp; omega)).trans (heap_alloc_new w3 _), HP.out⟩
  have hBf : Below w.heap.size w ((w3.alloc (bobj p)).setCell ⟨w.heap.size, 0, none⟩ (.slice (some ⟨w3.heap.size, 0, none⟩) 512 512)) := (HX.out.2.2.alloc HX.out.2.2.size _).setCell (Nat.le_refl _) _
  have hcf := one_cell hx5
  have HF := Lib.hid (And.intro hpg (And.intro hBf HX.out.2.2.size))
  clear hx4 hx5 hpg hBf
  go_region_held_law (fun W => W.cell? ⟨w2.heap.size, 0, none⟩ = some (.slice a 512 c))
    (first | exact hS0 | exact hS5 | exact box_chg hS0 (Chg.of_below ((Below.refl _ _).alloc (Nat.le_refl _) _) (fun _ => False)) (fun x => x))
    ((refine step_append_eq rfl rfl HCP.out rfl rfl ?_))
  go_wp2
  exact bodyPost_ret (v := .tuple #[.agg #[.slice (some ⟨w3.heap.size, 0, none⟩) 512 512], .int .i64 0]) (by simp [results, Tryz.results91, go_sem, hcf]) rfl ⟨_, rfl, HF.out.1, HF.out.2.2, below_drewN HF.out.2.1 1⟩
end Mun
end
