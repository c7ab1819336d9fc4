/- Contract of munimentref5.Good. -/
import Derived.Test.YtndeebchiodimaaR5A
import Derived.Test.YtndeebchiodimaaP7
set_option maxRecDepth 100000
set_option linter.unusedVariables false
set_option linter.unusedSimpArgs false
namespace Mun
open Go Go.RowKit
open Go.Proofs

theorem info_bool : (Try.prog.info? 4).map (fun i => (i.zero, i.size, i.bytes)) = some (some (.bool false), 1, 1) := by kernel_rfl
@[irreducible] def tkb0 : Array Value := tkA (List.replicate 512 false)
theorem tkb0_eq : tkb0 = tkA (List.replicate 512 false) := by unfold tkb0; rfl
theorem madeCells_bool (n : Nat) : madeCells #[Value.bool false] n = tkA (List.replicate n false) := by
  apply Array.ext_getElem?
  intro i
  by_cases h : i < n
  · simp [madeCells, tkA, h, Nat.mod_one]
  · simp [madeCells, tkA, h]
theorem make_used (w : World) : (Instr.makeSlice 76 (.int .i64 512) (.int .i64 512)).run Try.prog w = .ok (.slice (some ⟨w.heap.size, 0, none⟩) 512 512) (w.alloc (.cells tkb0 4)) := by
  obtain ⟨i, hi, hz, h1, h2⟩ := info_of info_bool
  have hr := run_make (P := Try.prog) w _ _ i _ Try.underlying76 hi hz .i64 .i64 512 512 (by omega) (by omega) (by rw [h2]; omega) (by omega)
  rw [h1] at hr
  have e : madeCells #[Value.bool false] 512 = tkb0 := by rw [tkb0_eq]; exact madeCells_bool 512
  have e2 : (512 : Int).toNat * 1 = 512 := rfl
  simp only [Value.cells, e2] at hr
  rw [e] at hr
  exact hr

structure GdS (w0 wr : World) (T : Nat) (l : List Bool) : Prop where
  bl : Below w0.heap.size w0 wr
  tk : wr.heap[T]? = some (.cells (tkA l) 4 (0, 0))
  len : l.length = 512
  hT : w0.heap.size ≤ T
theorem GdS.cell {w0 wr : World} {T : Nat} {l : List Bool} (h : GdS w0 wr T l) (k : Nat) (hk : k < l.length) : wr.cell? ⟨T, k, none⟩ = some (.bool l[k]) := by
  rw [cell_of_row wr T k _ _ _ h.tk, tkA_get l k hk]
theorem GdS.frozen {w0 wr : World} {T : Nat} {l : List Bool} (h : GdS w0 wr T l) (k : Nat) : wr.frozen? ⟨T, k, none⟩ = false := by simp [World.frozen?, h.tk]
theorem GdS.set {w0 wr : World} {T : Nat} {l : List Bool} (h : GdS w0 wr T l) (k : Nat) (hk : k < l.length) : GdS w0 (wr.setCell ⟨T, k, none⟩ (.bool true)) T (l.set k true) := by
  refine ⟨h.bl.setCell h.hT _, ?_, by rw [List.length_set]; exact h.len, h.hT⟩
  have h1 := h.tk
  have : (tkA l).setIfInBounds k (.bool true) = tkA (l.set k true) := by simp [tkA, List.map_set]
  rw [← this]
  simp [World.setCell, Array.getElem?_modify, h1]

set_option maxHeartbeats 4000000 in
theorem r5good {F : Foot} (w : World) (v : Value) (p : List UInt8) (hv : RdB F w v p) : Calls Try.prog 21 #[v] w fun e w' => e = .returned (.bool (goodB p)) ∧ Below w.heap.size w w' := by
  by_cases hp : p.length = 512
  · obtain ⟨g, off, c, rfl, hlc, hcm, hF, hglt, hcells⟩ := hv.at_ (by omega)
    have c13 := hcells 13 (by omega)
    obtain ⟨z, hz⟩ : ∃ z : Nat, p[13].toNat = z := ⟨_, rfl⟩
    rw [hz] at c13
    have hz0 : z = 0 ↔ p[13]? = some 0 := by
      rw [List.getElem?_eq_getElem (by omega)]
      constructor
      · intro h; rw [← hz] at h; congr 1; exact UInt8.toNat_inj.1 h
      · intro h; injection h with h; rw [← hz, h]; rfl
    have HP := Lib.hid hp
    rw [hp] at hv ⊢
    have HV0 := Lib.hid hv
    by_cases h13 : z = 0
    · subst h13
      have h130 := Lib.hid (hz0.1 rfl)
      have hcn := r5count w _ p hv (by rw [HP.out]; decide)
      have hlw := reflow_any w _ p hv (by rw [HP.out]; decide)
      have b1 : lowP p < 65536 := gt2_lt p 16
      have b2 : cnt p < 65536 := gt2_lt p 14
      obtain ⟨lo, hlo⟩ : ∃ lo, lowP p = lo := ⟨_, rfl⟩
      obtain ⟨n, hnn⟩ : ∃ n, cnt p = n := ⟨_, rfl⟩
      rw [hlo] at hlw b1
      rw [hnn] at hcn b2
      have HLO := Lib.hid hlo
      have HNN := Lib.hid hnn
      have HCN := Lib.hid hcn
      have HLW := Lib.hid hlw
      have hmk := make_used w
      have ht : (((0 : Nat) : Int) != 0) = false := rfl
      clear hcells hz hz0 hv hcn hlw hp hlo hnn hF
      go_enter Try.func21, Try.ntmps21
      go_wp2_with fail
      refine HCN.out.mono ?_
      rintro e w2 ⟨rfl, rfl⟩
      go_wp2_with fail
      refine HLW.out.mono ?_
      rintro e w2 ⟨rfl, rfl⟩
      clear HCN HLW c13
      by_cases hfit : 26 + 4 * n ≤ lo
      · by_cases hlow : lo ≤ 512
        · have hfi : 26 + 4 * (n : Int) ≤ (lo : Int) := by omega
          have hli : (lo : Int) ≤ 512 := by omega
          have HFL : Hid (26 + 4 * n ≤ lo ∧ lo ≤ 512) := by show _ ∧ _; omega
          have HHD : Hid (headOk p) := by show headOk p; exact ⟨HP.out, h130.out, by rw [HLO.out, HNN.out]; omega, by rw [HLO.out]; omega⟩
          clear hfit hlow
          have hst : GdS w (w.alloc (.cells tkb0 4)) w.heap.size (List.replicate 512 false) := by
            refine ⟨(Below.refl _ _).alloc (Nat.le_refl _) _, ?_, by simp, Nat.le_refl _⟩
            rw [← tkb0_eq]
            exact heap_alloc_new w _
          have HST := Lib.hid hst
          have hni : n ≤ 121 := by omega
          clear hst
          go_wp2
          clear hmk
          go_loopw [6] (fun i wr => ∃ (k : Nat) (l : List Bool), k ≤ n ∧ i = .int .i64 (k : Int) ∧ GdS w wr w.heap.size l ∧ tkInv p k l ∧ okUpto p k) (fun i _ => n - (intOf i).toNat)
          case atStart => exact ⟨0, _, by omega, rfl, HST.out, tkInv_zero p, ⟨fun j hj => by omega, fun a b _ hb => by omega⟩⟩
          case round =>
            obtain ⟨k, l, hk, rfl, hR, hI, hO⟩ := hrel
            rcases Nat.lt_or_eq_of_le hk with hlt | heq
            · have hfl := HFL.out
              have hsl := r5slot wr _ p k (RdB.below HV0.out hR.bl) (by rw [HP.out]; omega) (by rw [HP.out]; decide)
              have hb1 : sFrom p k < 65536 := gt2_lt p _
              have hb2 : sSize p k < 65536 := gt2_lt p _
              obtain ⟨f, hf⟩ : ∃ f, sFrom p k = f := ⟨_, rfl⟩
              obtain ⟨s, hs⟩ : ∃ s, sSize p k = s := ⟨_, rfl⟩
              rw [hf] at hsl hb1
              rw [hs] at hsl hb2
              have HK : Hid (k < n ∧ sFrom p k = f ∧ sSize p k = s ∧ f < 65536 ∧ s < 65536) := ⟨hlt, hf, hs, hb1, hb2⟩
              have HR := Lib.hid (And.intro hR (And.intro hI hO))
              have HSL := Lib.hid hsl
              have hki : (k : Int) < (n : Int) := by omega
              have hk0 : (0 : Int) ≤ (k : Int) := by omega
              clear hR hI hO hsl hf hs hlt hk hfl hb1 hb2
              go_wp2_with fail
              refine HSL.out.mono ?_
              rintro e w5 ⟨rfl, rfl⟩
              have hkk := HK.out
              have hf1 : f < 65536 := hkk.2.2.2.1
              have hs1 : s < 65536 := hkk.2.2.2.2
              by_cases hc1 : f < lo
              · have HG : Hid (goodB p = false) := by
                  show _ = _
                  exact goodB_false (not_good_cell (by rw [HNN.out]; exact hkk.1) (fun h => by have := h.1; rw [HLO.out, hkk.2.1] at this; omega))
                have hci : (f : Int) < (lo : Int) := by omega
                clear hkk hc1
                go_wp2
                go_ret
                exact ⟨by rw [HG.out]; rfl, HR.out.1.bl⟩
              · by_cases hc2 : f + s ≤ 512
                · have hci : ¬ (f : Int) < (lo : Int) := by omega
                  have hc2i : (f : Int) + (s : Int) ≤ 512 := by omega
                  have HCC : Hid (lo ≤ f ∧ f + s ≤ 512) := by show _ ∧ _; omega
                  clear hkk hc1 hc2
                  go_wp2
                  obtain ⟨wm, rfl⟩ : ∃ wm : World, wm = wr := ⟨_, rfl⟩
                  go_loopw [9] (fun kk wr2 => ∃ (x : Nat) (l2 : List Bool), f ≤ x ∧ x ≤ f + s ∧ kk = .int .i64 (x : Int) ∧ GdS w wr2 w.heap.size l2 ∧ tkMid p k x l2 ∧ (∀ y, f ≤ y → y < x → ¬ ∃ j, j < k ∧ inC p j y)) (fun kk _ => f + s - (intOf kk).toNat)
                  case atStart =>
                    refine ⟨f, l, Nat.le_refl _, by omega, rfl, HR.out.1, ?_, fun y h1 h2 => by omega⟩
                    have := tkMid_start HR.out.2.1
                    rw [HK.out.2.1] at this
                    exact this
                  case round =>
                    obtain ⟨x, l2, hx1, hx2, rfl, hR2, hM2, hF2⟩ := hrel
                    rcases Nat.lt_or_eq_of_le hx2 with hxlt | hxeq
                    · have hcc := HCC.out
                      have hx512 : x < l2.length := by rw [hR2.len]; omega
                      have hcl := hR2.cell x hx512
                      have hfr := hR2.frozen x
                      cases hb : l2[x] with
                      | true =>
                        have hex : ∃ j, j < k ∧ inC p j x := by
                          have := (hM2 x (by omega)).1 (by rw [List.getElem?_eq_getElem hx512, hb])
                          rcases this with h | h
                          · exact h
                          · omega
                        have HG : Hid (goodB p = false) := by
                          show _ = _
                          have hkk := HK.out
                          exact goodB_false (not_good_taken (k := x) (by rw [HNN.out]; exact hkk.1) ⟨by rw [hkk.2.1]; exact hx1, by rw [hkk.2.1, hkk.2.2.1]; exact hxlt⟩ hex)
                        rw [hb] at hcl
                        have HB := Lib.hid hR2.bl
                        have hxi : (x : Int) < (f : Int) + (s : Int) := by omega
                        have hxn : x < 512 := by omega
                        clear hR2 hM2 hF2 hex hb hcc hx1 hx2 hxlt hx512
                        go_wp2
                        go_ret
                        exact ⟨by rw [HG.out]; rfl, HB.out⟩
                      | false =>
                        have hnex : ¬ ∃ j, j < k ∧ inC p j x := by
                          intro h
                          have := (hM2 x (by omega)).2 (.inl h)
                          rw [List.getElem?_eq_getElem hx512, hb] at this
                          cases this
                        have hset := hR2.set x hx512
                        have hmid := tkMid_step hM2 hR2.len (by rw [HK.out.2.1]; exact hx1) (by omega)
                        have HN2 : Hid (GdS w (wr.setCell ⟨w.heap.size, x, none⟩ (.bool true)) w.heap.size (l2.set x true) ∧ tkMid p k (x + 1) (l2.set x true) ∧ (∀ y, f ≤ y → y < x + 1 → ¬ ∃ j, j < k ∧ inC p j y) ∧ f ≤ x ∧ x < f + s) := by
                          refine ⟨hset, hmid, fun y h1 h2 => ?_, hx1, hxlt⟩
                          rcases Nat.lt_or_eq_of_le (Nat.lt_succ_iff.1 h2) with h | rfl
                          · exact hF2 y h1 h
                          · exact hnex
                        rw [hb] at hcl
                        have hxi : (x : Int) < (f : Int) + (s : Int) := by omega
                        have hxn : x < 512 := by omega
                        clear hR2 hM2 hF2 hnex hb hcc hx1 hx2 hxlt hx512 hset hmid
                        go_wp2
                        go_roundw
                        case rel => exact ⟨x + 1, _, by have := HN2.out; omega, by have := HN2.out; omega, by go_num, HN2.out.1, HN2.out.2.1, HN2.out.2.2.1⟩
                        case measure => have := HN2.out; simp [intOf]; omega
                    · subst hxeq
                      have HE : Hid (GdS w wr w.heap.size l2 ∧ tkInv p (k + 1) l2 ∧ okUpto p (k + 1)) := by
                        have hkk := HK.out
                        refine ⟨hR2, tkMid_end (by rw [hkk.2.1, hkk.2.2.1]; exact hM2), okUpto_succ HR.out.2.2 ?_ ?_⟩
                        · rw [hkk.2.1, hkk.2.2.1, HLO.out]; exact HCC.out
                        · intro y hy
                          unfold inC at hy
                          rw [hkk.2.1, hkk.2.2.1] at hy
                          exact hF2 y hy.1 hy.2
                      have hxi : ¬ (((f + s : Nat) : Int) < (f : Int) + (s : Int)) := by omega
                      clear hR2 hM2 hF2 hx1 hx2
                      go_wp2
                      go_roundw
                      case rel => exact ⟨k + 1, l2, by have := HK.out; omega, by go_num, HE.out.1, HE.out.2.1, HE.out.2.2⟩
                      case measure => have := HK.out; simp [intOf]; omega
                · have HG : Hid (goodB p = false) := by
                    show _ = _
                    exact goodB_false (not_good_cell (by rw [HNN.out]; exact hkk.1) (fun h => by have := h.2; rw [hkk.2.1, hkk.2.2.1] at this; omega))
                  have hci : ¬ (f : Int) < (lo : Int) := by omega
                  have hc2i : (f : Int) + (s : Int) > 512 := by omega
                  clear hkk hc1 hc2
                  go_wp2
                  go_ret
                  exact ⟨by rw [HG.out]; rfl, HR.out.1.bl⟩
            · subst heq
              have HG : Hid (goodB p = true) := by show _ = _; exact goodB_true (good_of HHD.out (by rw [HNN.out]; exact hO))
              have HB := Lib.hid hR.bl
              clear hR hI hO hk
              go_wp2
              go_ret
              exact ⟨by rw [HG.out]; rfl, HB.out⟩
        · have HG : Hid (goodB p = false) := by show _ = _; exact goodB_false (fun h => hlow (by rw [← HLO.out]; exact h.low))
          have hfi : 26 + 4 * (n : Int) ≤ (lo : Int) := by omega
          have hli : ((lo : Int) > 512) := by omega
          clear hfit hlow hmk
          go_wp2
          go_ret
          exact ⟨by rw [HG.out]; rfl, Below.refl _ _⟩
      · have HG : Hid (goodB p = false) := by show _ = _; exact goodB_false (fun h => hfit (by rw [← HLO.out, ← HNN.out]; exact h.fit))
        have hfi : 26 + 4 * (n : Int) > (lo : Int) := by omega
        clear hfit hmk
        go_wp2
        go_ret
        exact ⟨by rw [HG.out]; rfl, Below.refl _ _⟩
    · have HG : Hid (goodB p = false) := by show _ = _; exact goodB_false (fun h => h13 (hz0.2 h.none))
      have t13 : ((z : Int) == 0) = false := by simpa using h13
      have t14 : ((z : Int) != 0) = true := by simpa using h13
      clear hcells hz hz0 hv
      go_enter Try.func21, Try.ntmps21
      go_wp2
      go_ret
      exact ⟨by rw [HG.out]; rfl, Below.refl _ _⟩
  · have HG : Hid (goodB p = false) := by show _ = _; exact goodB_false (fun h => hp h.len)
    obtain ⟨a, n, c, rfl, HN, hlc, hcm⟩ := hv.formN
    have hn : ((n : Int) != 512) = true := by have := HN.out; simp; omega
    have hn2 : ((n : Int) == 512) = false := by have := HN.out; simp; omega
    clear hv hp
    go_enter Try.func21, Try.ntmps21
    go_wp2
    go_ret
    exact ⟨by rw [HG.out]; rfl, Below.refl _ _⟩
end Mun
