/- Contract of Good: the walk. -/
import Derived.Test.YtjfepmohoijalaaP6
set_option maxRecDepth 100000
set_option linter.unusedVariables false
set_option linter.unusedSimpArgs false
namespace Mun
open Go Go.RowKit
open Go.Proofs
open Go.Great

set_option maxHeartbeats 4000000 in
theorem good_any {F : Foot} (w : World) (v : Value) (p : List UInt8) (hv : RdB F w v p) : Calls Try.prog 52 #[v] w fun e w' => e = .returned (.bool (goodB p)) ∧ Below w.heap.size w w' := by
  by_cases hp : p.length = 512
  · obtain ⟨g, off, c, rfl, hlc, hcm, hF, hglt, hcells⟩ := hv.at_ (by omega)
    have c13 := hcells 13 (by omega)
    obtain ⟨z, hz⟩ : ∃ z : Nat, p[13].toNat = z := ⟨_, rfl⟩
    rw [hz] at c13
    have hz0 : z = 0 ↔ p[13]? = some 0 := by
      rw [List.getElem?_eq_getElem (by omega)]
      constructor
      · intro h; rw [← hz] at h; congr 1; exact UInt8.toNat_inj.1 h
      · intro h; injection h with h; rw [← hz, h]; rfl
    have HP := Lib.hid hp
    rw [hp] at hv ⊢
    have HV0 := Lib.hid hv
    by_cases h13 : z = 0
    · subst h13
      have h130 := Lib.hid (hz0.1 rfl)
      have hbox : (w.alloc (.cells #[.slice (some ⟨g, off, none⟩) 512 c] 96)).drew.cell? ⟨w.heap.size, 0, none⟩ = some (.slice (some ⟨g, off, none⟩) 512 c) :=
        cell_of_row (w.alloc (.cells #[.slice (some ⟨g, off, none⟩) 512 c] 96)) w.heap.size 0 _ _ _ (heap_alloc_new w _)
      have hB0 : Below w.heap.size w (w.alloc (.cells #[.slice (some ⟨g, off, none⟩) 512 c] 96)) := (Below.refl _ _).alloc (Nat.le_refl _) _
      have hv1 : RdB F (w.alloc (.cells #[.slice (some ⟨g, off, none⟩) 512 c] 96)) (.slice (some ⟨g, off, none⟩) 512 c) p := hv.alloc _
      obtain ⟨w1, hw1⟩ : ∃ w1, w.alloc (.cells #[.slice (some ⟨g, off, none⟩) 512 c] 96) = w1 := ⟨_, rfl⟩
      rw [hw1] at hbox hB0 hv1
      have hs1 : w1.heap.size = w.heap.size + 1 := by rw [← hw1, World.size_alloc]
      have hcn : ∀ W, Below w1.heap.size w1 W → Calls Try.prog 57 #[.agg #[.slice (some ⟨g, off, none⟩) 512 c]] W fun e w' => e = .returned (.int .i64 (cnt p)) ∧ Below W.heap.size W w' :=
        fun W hW => count_any W _ p (hv1.below hW) HP.out
      have hlw : ∀ W, Below w1.heap.size w1 W → Calls Try.prog 58 #[.agg #[.slice (some ⟨g, off, none⟩) 512 c]] W fun e w' => e = .returned (.int .i64 (lowP p)) ∧ Below W.heap.size W w' :=
        fun W hW => low_any W _ p (hv1.below hW) HP.out
      have b1 : lowP p < 65536 := gt2_lt p 16
      have b2 : cnt p < 65536 := gt2_lt p 14
      obtain ⟨lo, hlo⟩ : ∃ lo, lowP p = lo := ⟨_, rfl⟩
      obtain ⟨n, hnn⟩ : ∃ n, cnt p = n := ⟨_, rfl⟩
      rw [hlo] at hlw b1
      rw [hnn] at hcn b2
      have hS0 : w1.drew.cell? ⟨w.heap.size, 0, none⟩ = some (.slice (some ⟨g, off, none⟩) 512 c) ∧ Below w1.heap.size w1 w1.drew := ⟨hbox, below_drewN (Below.refl _ _) 1⟩
      have BB := Lib.hid (And.intro b1 b2)
      have HLO := Lib.hid hlo
      have HNN := Lib.hid hnn
      have HV1 := Lib.hid (And.intro hv1 (And.intro hB0 hs1))
      have HCN := Lib.hid hcn
      have HLW := Lib.hid hlw
      clear hcells hz hz0 hv hbox hB0 hv1 hcn hlw hp hlo hnn b1 b2 hF hs1
      go_enter Try.func52, Try.ntmps52
      go_wp2
      go_region_held3 (fun W => W.cell? ⟨w.heap.size, 0, none⟩ = some (.slice (some ⟨g, off, none⟩) 512 c) ∧ Below w1.heap.size w1 W)
        (first | exact hS2 | exact hS1 | exact hS0)
        (first
        | ((go_at_call 57; refine (HCN.out _ hS0.2).mono ?_; rintro e W1 ⟨rfl, hb1⟩; have hS1 := boxS_keep hS0 hb1))
        | ((go_at_call 58; refine (HLW.out _ hS1.2).mono ?_; rintro e W2 ⟨rfl, hb2⟩; have hS2 := boxS_keep hS1 hb2)))
      have HS2 := Lib.hid (And.intro hS2 hS1.2)
      clear hS0 hS1 hS2 hb1 hb2 HCN HLW
      have hx2 := HS2.out.1.1
      have b2 : n < 65536 := BB.out.2
      by_cases hfit : 26 + 4 * n ≤ lo
      · by_cases hlow : lo ≤ 512
        · have hfi : 26 + 4 * (n : Int) ≤ (lo : Int) := by omega
          have hli : (lo : Int) ≤ 512 := by omega
          clear hfit hlow
          have HFL : Hid (26 + 4 * n ≤ lo ∧ lo ≤ 512) := by show _ ∧ _; omega
          have HHD : Hid (headOk p) := by show headOk p; exact ⟨HP.out, h130.out, by rw [HLO.out, HNN.out]; omega, by rw [HLO.out]; omega⟩
          go_upto_region 7 with (fail)
          apply wp_region_lit
          refine wpList_allocTo rfl (some 6) rfl (.pointer (some ⟨W2.heap.size, 0, none⟩)) (.cells tk0 120) (by simp [execOp, al69]) ?_
          apply wpList_nil
          have hst : GdR w (W2.alloc (.cells tk0 120)) w.heap.size W2.heap.size (.slice (some ⟨g, off, none⟩) 512 c) (List.replicate 512 false) := by
            have hB : Below w.heap.size w W2 := HV1.out.2.1.trans (HS2.out.1.2.mono HV1.out.2.1.size)
            have hsz : w.heap.size < W2.heap.size := by have h1 := HV1.out.2.2; have h2 := HS2.out.1.2.size; omega
            refine ⟨hB.alloc hB.size _, box_chg HS2.out.1.1 (Chg.of_below ((Below.refl _ _).alloc (Nat.le_refl _) _) (fun _ => False)) (fun x => x), ?_, by simp, by omega, by omega⟩
            rw [← tk0_eq]
            exact heap_alloc_new W2 _
          obtain ⟨W3, hW3⟩ : ∃ W3, W2.alloc (.cells tk0 120) = W3 := ⟨_, rfl⟩
          rw [hW3] at hst ⊢
          have HST := Lib.hid hst
          clear hst hW3 hx2 hfi HS2
          have hni : n ≤ 121 := by omega
          go_wp2
          go_loopw [36] (fun i wr => ∃ (k : Nat) (l : List Bool), k ≤ n ∧ i = .int .i64 (k : Int) ∧ GdR w wr w.heap.size W2.heap.size (.slice (some ⟨g, off, none⟩) 512 c) l ∧ tkInv p k l ∧ okUpto p k) (fun i _ => n - (intOf i).toNat)
          case atStart => exact ⟨0, _, by omega, rfl, HST.out, tkInv_zero p, ⟨fun j hj => by omega, fun a b _ hb => by omega⟩⟩
          case round =>
            obtain ⟨k, l, hk, rfl, hR, hI, hO⟩ := hrel
            rcases Nat.lt_or_eq_of_le hk with hlt | heq
            · have hfl := HFL.out
              have hsl := slot_any wr _ p k (RdB.below HV0.out hR.bl) HP.out (by omega)
              have hb1 : sFrom p k < 65536 := gt2_lt p _
              have hb2 : sSize p k < 65536 := gt2_lt p _
              obtain ⟨f, hf⟩ : ∃ f, sFrom p k = f := ⟨_, rfl⟩
              obtain ⟨s, hs⟩ : ∃ s, sSize p k = s := ⟨_, rfl⟩
              rw [hf] at hsl hb1
              rw [hs] at hsl hb2
              have HK : Hid (k < n ∧ sFrom p k = f ∧ sSize p k = s ∧ f < 65536 ∧ s < 65536) := ⟨hlt, hf, hs, hb1, hb2⟩
              have hxr := hR.box
              have HR := Lib.hid (And.intro hR (And.intro hI hO))
              have HSL := Lib.hid hsl
              have hki : (k : Int) < (n : Int) := by omega
              clear hR hI hO hsl hf hs hlt hk hfl hb1 hb2
              go_wp2_with fail
              refine HSL.out.mono ?_
              rintro e w5 ⟨rfl, hb5⟩
              have HR5 := Lib.hid (HR.out.1.below hb5)
              clear hb5 hxr
              have hkk := HK.out
              have hf1 : f < 65536 := hkk.2.2.2.1
              have hs1 : s < 65536 := hkk.2.2.2.2
              by_cases hc1 : f < lo
              · have HG : Hid (goodB p = false) := by
                  show _ = _
                  exact goodB_false (not_good_cell (by rw [HNN.out]; exact hkk.1) (fun h => by have := h.1; rw [HLO.out, hkk.2.1] at this; omega))
                have hci : (f : Int) < (lo : Int) := by omega
                clear hkk hc1
                go_wp2
                go_ret
                exact ⟨by rw [HG.out]; rfl, HR5.out.bl⟩
              · by_cases hc2 : f + s ≤ 512
                · have hci : ¬ (f : Int) < (lo : Int) := by omega
                  have hc2i : (f : Int) + (s : Int) ≤ 512 := by omega
                  have HCC : Hid (lo ≤ f ∧ f + s ≤ 512) := by show _ ∧ _; omega
                  clear hkk hc1 hc2
                  go_wp2
                  go_loopw [10] (fun kk wr2 => ∃ (x : Nat) (l2 : List Bool), f ≤ x ∧ x ≤ f + s ∧ kk = .int .i64 (x : Int) ∧ GdR w wr2 w.heap.size W2.heap.size (.slice (some ⟨g, off, none⟩) 512 c) l2 ∧ tkMid p k x l2 ∧ (∀ y, f ≤ y → y < x → ¬ ∃ j, j < k ∧ inC p j y)) (fun kk _ => f + s - (intOf kk).toNat)
                  case atStart =>
                    refine ⟨f, l, Nat.le_refl _, by omega, rfl, HR5.out, ?_, fun y h1 h2 => by omega⟩
                    have := tkMid_start HR.out.2.1
                    rw [HK.out.2.1] at this
                    exact this
                  case round =>
                    obtain ⟨x, l2, hx1, hx2, rfl, hR2, hM2, hF2⟩ := hrel
                    rcases Nat.lt_or_eq_of_le hx2 with hxlt | hxeq
                    · have hcc := HCC.out
                      have hx512 : x < l2.length := by rw [hR2.len]; omega
                      have hcl := hR2.cell x hx512
                      have hfr := hR2.frozen x
                      cases hb : l2[x] with
                      | true =>
                        have hex : ∃ j, j < k ∧ inC p j x := by
                          have := (hM2 x (by omega)).1 (by rw [List.getElem?_eq_getElem hx512, hb])
                          rcases this with h | h
                          · exact h
                          · omega
                        have HG : Hid (goodB p = false) := by
                          show _ = _
                          have hkk := HK.out
                          exact goodB_false (not_good_taken (k := x) (by rw [HNN.out]; exact hkk.1) ⟨by rw [hkk.2.1]; exact hx1, by rw [hkk.2.1, hkk.2.2.1]; exact hxlt⟩ hex)
                        rw [hb] at hcl
                        have HB := Lib.hid hR2.bl
                        have hxi : (x : Int) < (f : Int) + (s : Int) := by omega
                        have hxn : x < 512 := by omega
                        clear hR2 hM2 hF2 hex hb hcc hx1 hx2 hxlt hx512
                        go_wp2
                        go_ret
                        exact ⟨by rw [HG.out]; rfl, HB.out⟩
                      | false =>
                        have hnex : ¬ ∃ j, j < k ∧ inC p j x := by
                          intro h
                          have := (hM2 x (by omega)).2 (.inl h)
                          rw [List.getElem?_eq_getElem hx512, hb] at this
                          cases this
                        have hset := hR2.set x hx512
                        have hmid := tkMid_step hM2 hR2.len (by rw [HK.out.2.1]; exact hx1) (by omega)
                        have HN2 : Hid (GdR w (wr.setCell ⟨W2.heap.size, x, none⟩ (.bool true)) w.heap.size W2.heap.size (.slice (some ⟨g, off, none⟩) 512 c) (l2.set x true) ∧ tkMid p k (x + 1) (l2.set x true) ∧ (∀ y, f ≤ y → y < x + 1 → ¬ ∃ j, j < k ∧ inC p j y) ∧ f ≤ x ∧ x < f + s) := by
                          refine ⟨hset, hmid, fun y h1 h2 => ?_, hx1, hxlt⟩
                          rcases Nat.lt_or_eq_of_le (Nat.lt_succ_iff.1 h2) with h | rfl
                          · exact hF2 y h1 h
                          · exact hnex
                        rw [hb] at hcl
                        have hxi : (x : Int) < (f : Int) + (s : Int) := by omega
                        have hxn : x < 512 := by omega
                        clear hR2 hM2 hF2 hnex hb hcc hx1 hx2 hxlt hx512 hset hmid
                        go_wp2
                        go_roundw
                        case rel => exact ⟨x + 1, _, by have := HN2.out; omega, by have := HN2.out; omega, by go_num, HN2.out.1, HN2.out.2.1, HN2.out.2.2.1⟩
                        case measure => have := HN2.out; simp [intOf]; omega
                    · subst hxeq
                      have HE : Hid (GdR w wr w.heap.size W2.heap.size (.slice (some ⟨g, off, none⟩) 512 c) l2 ∧ tkInv p (k + 1) l2 ∧ okUpto p (k + 1)) := by
                        have hkk := HK.out
                        refine ⟨hR2, tkMid_end (by rw [hkk.2.1, hkk.2.2.1]; exact hM2), okUpto_succ HR.out.2.2 ?_ ?_⟩
                        · rw [hkk.2.1, hkk.2.2.1, HLO.out]; exact HCC.out
                        · intro y hy
                          unfold inC at hy
                          rw [hkk.2.1, hkk.2.2.1] at hy
                          exact hF2 y hy.1 hy.2
                      have hxi : ¬ (((f + s : Nat) : Int) < (f : Int) + (s : Int)) := by omega
                      clear hR2 hM2 hF2 hx1 hx2
                      go_wp2
                      go_roundw
                      case rel => exact ⟨k + 1, l2, by have := HK.out; omega, by go_num, HE.out.1, HE.out.2.1, HE.out.2.2⟩
                      case measure => have := HK.out; simp [intOf]; omega
                · have HG : Hid (goodB p = false) := by
                    show _ = _
                    exact goodB_false (not_good_cell (by rw [HNN.out]; exact hkk.1) (fun h => by have := h.2; rw [hkk.2.1, hkk.2.2.1] at this; omega))
                  have hci : ¬ (f : Int) < (lo : Int) := by omega
                  have hc2i : (f : Int) + (s : Int) > 512 := by omega
                  clear hkk hc1 hc2
                  go_wp2
                  go_ret
                  exact ⟨by rw [HG.out]; rfl, HR5.out.bl⟩
            · subst heq
              have HG : Hid (goodB p = true) := by show _ = _; exact goodB_true (good_of HHD.out (by rw [HNN.out]; exact hO))
              have HB := Lib.hid hR.bl
              clear hR hI hO hk
              go_wp2
              go_ret
              exact ⟨by rw [HG.out]; rfl, HB.out⟩
        · have HG : Hid (goodB p = false) := by show _ = _; exact goodB_false (fun h => hlow (by rw [← HLO.out]; exact h.low))
          have hfi : 26 + 4 * (n : Int) ≤ (lo : Int) := by omega
          have hli : ((lo : Int) > 512) := by omega
          clear hfit hlow
          go_wp2
          go_ret
          exact ⟨by rw [HG.out]; rfl, HV1.out.2.1.trans (HS2.out.1.2.mono HV1.out.2.1.size)⟩
      · have HG : Hid (goodB p = false) := by show _ = _; exact goodB_false (fun h => hfit (by rw [← HLO.out, ← HNN.out]; exact h.fit))
        have hfi : 26 + 4 * (n : Int) > (lo : Int) := by omega
        clear hfit
        go_wp2
        go_ret
        exact ⟨by rw [HG.out]; rfl, HV1.out.2.1.trans (HS2.out.1.2.mono HV1.out.2.1.size)⟩
    · have HG : Hid (goodB p = false) := by show _ = _; exact goodB_false (fun h => h13 (hz0.2 h.none))
      have t13 : ((z : Int) == 0) = false := by simpa using h13
      clear hcells hz hz0 hv
      go_enter Try.func52, Try.ntmps52
      go_wp2
      go_ret
      exact ⟨by rw [HG.out]; rfl, Below.refl _ _⟩
  · have HG : Hid (goodB p = false) := by show _ = _; exact goodB_false (fun h => hp h.len)
    obtain ⟨a, n, c, rfl, HN, hlc, hcm⟩ := hv.formN
    have hn : ((n : Int) != 512) = true := by have := HN.out; simp; omega
    have hn2 : ((n : Int) == 512) = false := by have := HN.out; simp; omega
    clear hv hp
    go_enter Try.func52, Try.ntmps52
    go_wp2
    go_ret
    exact ⟨by rw [HG.out]; rfl, Below.refl _ _⟩
end Mun
