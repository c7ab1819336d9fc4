/- Which frame is found: the clock, plainly; slices.ContainsFunc over the frames. -/
import Derived.Test.YtjfepmohoijalaaPoolA
set_option maxRecDepth 100000
set_option linter.unusedVariables false
set_option linter.unusedSimpArgs false
namespace Mun
open Go Go.RowKit
open Go.Proofs

/-- the clock: so many frames are passed over until one is found -/
inductive ClockN : Nat → List FV → Nat → List FV → Nat → Nat → Prop
  | stop {fs : List FV} {h : Nat} {x : FV} : fs[h]? = some x → x.1.pins = 0 → x.1.touch = false → ClockN 0 fs h fs ((h + 1) % fs.length) h
  | pin {k : Nat} {fs : List FV} {h : Nat} {x : FV} {fs' : List FV} {h' i : Nat} : fs[h]? = some x → 0 < x.1.pins → ClockN k fs ((h + 1) % fs.length) fs' h' i → ClockN (k + 1) fs h fs' h' i
  | tch {k : Nat} {fs : List FV} {h : Nat} {x : FV} {fs' : List FV} {h' i : Nat} : fs[h]? = some x → x.1.pins = 0 → x.1.touch = true → ClockN k (fs.set h ({ x.1 with touch := false }, x.2)) ((h + 1) % fs.length) fs' h' i → ClockN (k + 1) fs h fs' h' i

theorem clock_ex (t : Nat) : ∀ (d : Nat) (fs : List FV) (h : Nat), fs.countP (·.1.touch) ≤ t → h < fs.length → (∃ x, fs[(h + d) % fs.length]? = some x ∧ x.1.pins = 0) → ∃ k fs' h' i, ClockN k fs h fs' h' i := by
  induction t with
  | zero =>
    intro d
    induction d with
    | zero =>
      intro fs h hc hl ⟨x, hx, hp⟩
      rw [Nat.add_zero, Nat.mod_eq_of_lt hl] at hx
      have ht : x.1.touch = false := by
        have h1 : fs.countP (·.1.touch) = 0 := by omega
        rw [List.countP_eq_zero] at h1
        have h2 := h1 x (List.mem_of_getElem? hx)
        simpa using h2
      exact ⟨0, _, _, _, .stop hx hp ht⟩
    | succ d ih =>
      intro fs h hc hl ⟨x, hx, hp⟩
      obtain ⟨y, hy⟩ : ∃ y, fs[h]? = some y := ⟨_, List.getElem?_eq_getElem hl⟩
      have ht : y.1.touch = false := by
        have h1 : fs.countP (·.1.touch) = 0 := by omega
        rw [List.countP_eq_zero] at h1
        have h2 := h1 y (List.mem_of_getElem? hy)
        simpa using h2
      by_cases hq : y.1.pins = 0
      · exact ⟨0, _, _, _, .stop hy hq ht⟩
      · have hpos : 0 < fs.length := by omega
        have hm : ((h + 1) % fs.length + d) % fs.length = (h + (d + 1)) % fs.length := by
          rw [Nat.mod_add_mod]; congr 1; omega
        obtain ⟨k, fs', h', i, hk⟩ := ih fs ((h + 1) % fs.length) hc (Nat.mod_lt _ hpos) ⟨x, by rw [hm]; exact hx, hp⟩
        exact ⟨k + 1, _, _, _, .pin hy (by omega) hk⟩
  | succ t iht =>
    intro d
    induction d with
    | zero =>
      intro fs h hc hl ⟨x, hx, hp⟩
      rw [Nat.add_zero, Nat.mod_eq_of_lt hl] at hx
      by_cases ht : x.1.touch = true
      · have hpos : 0 < fs.length := by omega
        have hset : (fs.set h ({ x.1 with touch := false }, x.2)).countP (·.1.touch) ≤ t := by
          have hxe : fs[h] = x := by rw [List.getElem?_eq_getElem hl] at hx; injection hx
          rw [List.countP_set hl]
          have h1 : 0 < fs.countP (·.1.touch) := List.countP_pos_iff.2 ⟨x, List.mem_of_getElem? hx, ht⟩
          simp only [hxe, ht]
          simp
          omega
        have hx' : (fs.set h ({ x.1 with touch := false }, x.2))[h]? = some ({ x.1 with touch := false }, x.2) := by simp [hl]
        have hlen : (fs.set h ({ x.1 with touch := false }, x.2)).length = fs.length := by simp
        obtain ⟨k, fs', h', i, hk⟩ := iht (fs.length - 1) (fs.set h ({ x.1 with touch := false }, x.2)) ((h + 1) % fs.length) hset (by rw [hlen]; exact Nat.mod_lt _ hpos) ⟨({ x.1 with touch := false }, x.2), by
          rw [hlen, Nat.mod_add_mod, show h + 1 + (fs.length - 1) = h + fs.length by omega, Nat.add_mod_right, Nat.mod_eq_of_lt hl]
          exact hx', hp⟩
        exact ⟨k + 1, _, _, _, .tch hx hp ht hk⟩
      · exact ⟨0, _, _, _, .stop hx hp (by simpa using ht)⟩
    | succ d ih =>
      intro fs h hc hl ⟨x, hx, hp⟩
      obtain ⟨y, hy⟩ : ∃ y, fs[h]? = some y := ⟨_, List.getElem?_eq_getElem hl⟩
      have hpos : 0 < fs.length := by omega
      by_cases hq : y.1.pins = 0
      · by_cases ht : y.1.touch = true
        · have hset : (fs.set h ({ y.1 with touch := false }, y.2)).countP (·.1.touch) ≤ t := by
            have hxe : fs[h] = y := by rw [List.getElem?_eq_getElem hl] at hy; injection hy
            rw [List.countP_set hl]
            have h1 : 0 < fs.countP (·.1.touch) := List.countP_pos_iff.2 ⟨y, List.mem_of_getElem? hy, ht⟩
            simp only [hxe, ht]
            simp
            omega
          have hx' : (fs.set h ({ y.1 with touch := false }, y.2))[h]? = some ({ y.1 with touch := false }, y.2) := by simp [hl]
          have hlen : (fs.set h ({ y.1 with touch := false }, y.2)).length = fs.length := by simp
          obtain ⟨k, fs', h', i, hk⟩ := iht (fs.length - 1) (fs.set h ({ y.1 with touch := false }, y.2)) ((h + 1) % fs.length) hset (by rw [hlen]; exact Nat.mod_lt _ hpos) ⟨({ y.1 with touch := false }, y.2), by
            rw [hlen, Nat.mod_add_mod, show h + 1 + (fs.length - 1) = h + fs.length by omega, Nat.add_mod_right, Nat.mod_eq_of_lt hl]
            exact hx', hq⟩
          exact ⟨k + 1, _, _, _, .tch hy hq ht hk⟩
        · exact ⟨0, _, _, _, .stop hy hq (by simpa using ht)⟩
      · have hm : ((h + 1) % fs.length + d) % fs.length = (h + (d + 1)) % fs.length := by
          rw [Nat.mod_add_mod]; congr 1; omega
        obtain ⟨k, fs', h', i, hk⟩ := ih fs ((h + 1) % fs.length) hc (Nat.mod_lt _ hpos) ⟨x, by rw [hm]; exact hx, hp⟩
        exact ⟨k + 1, _, _, _, .pin hy (by omega) hk⟩

/-- a frame that is not pinned is found -/
theorem clock_any (fs : List FV) (h : Nat) (hl : h < fs.length) (x : FV) (hx : x ∈ fs) (hp : x.1.pins = 0) : ∃ k fs' h' i, ClockN k fs h fs' h' i := by
  obtain ⟨j, hj, rfl⟩ := List.getElem_of_mem hx
  refine clock_ex _ (j + fs.length - h) fs h (Nat.le_refl _) hl ⟨fs[j], ?_, hp⟩
  rw [show h + (j + fs.length - h) = j + fs.length by omega, Nat.add_mod_right, Nat.mod_eq_of_lt hj, List.getElem?_eq_getElem hj]

/-- touches apart, the frames are the same -/
def SameF (x y : FV) : Prop := y.1.pg = x.1.pg ∧ y.1.b = x.1.b ∧ y.1.pins = x.1.pins ∧ y.1.chg = x.1.chg ∧ y.2 = x.2
def SameFs (fs fs' : List FV) : Prop := fs'.length = fs.length ∧ ∀ (i : Nat) (x : FV), fs[i]? = some x → ∃ y : FV, fs'[i]? = some y ∧ SameF x y
theorem SameFs.refl (fs : List FV) : SameFs fs fs := ⟨rfl, fun i x hx => ⟨x, hx, rfl, rfl, rfl, rfl, rfl⟩⟩
theorem SameFs.trans {a b c : List FV} (h : SameFs a b) (k : SameFs b c) : SameFs a c := ⟨k.1.trans h.1, fun i x hx => by
  obtain ⟨y, hy, e1, e2, e3, e4, e5⟩ := h.2 i x hx
  obtain ⟨z, hz, f1, f2, f3, f4, f5⟩ := k.2 i y hy
  exact ⟨z, hz, f1.trans e1, f2.trans e2, f3.trans e3, f4.trans e4, f5.trans e5⟩⟩
theorem sameFs_touch {fs : List FV} {h : Nat} {x : FV} (hx : fs[h]? = some x) (t : Bool) : SameFs fs (fs.set h ({ x.1 with touch := t }, x.2)) := by
  refine ⟨by simp, fun i y hy => ?_⟩
  by_cases hi : h = i
  · subst hi
    rw [hx] at hy
    injection hy with hy
    subst hy
    exact ⟨({ x.1 with touch := t }, x.2), by simp [(List.getElem?_eq_some_iff.1 hx).1], rfl, rfl, rfl, rfl, rfl⟩
  · exact ⟨y, by rw [List.getElem?_set_ne hi]; exact hy, rfl, rfl, rfl, rfl, rfl⟩

theorem ClockN.facts {k : Nat} {fs : List FV} {h : Nat} {fs' : List FV} {h' i : Nat} (hc : ClockN k fs h fs' h' i) : SameFs fs fs' ∧ h' < fs.length ∧ ∃ x, fs'[i]? = some x ∧ x.1.pins = 0 ∧ x.1.touch = false := by
  induction hc with
  | stop hx hp ht =>
    have := (List.getElem?_eq_some_iff.1 hx).1
    exact ⟨SameFs.refl _, Nat.mod_lt _ (by omega), _, hx, hp, ht⟩
  | pin hx hp hc ih => exact ih
  | tch hx hp ht hc ih =>
    refine ⟨(sameFs_touch hx false).trans ih.1, ?_, ih.2.2⟩
    have := ih.2.1
    simpa using this

/-- the least number of which a thing holds -/
theorem least_ex (p : Nat → Prop) (h : ∃ k, p k) : ∃ k, p k ∧ ∀ j, p j → k ≤ j := by
  obtain ⟨k, hk⟩ := h
  induction k using Nat.strongRecOn with
  | ind k ih =>
    by_cases h1 : ∃ j, j < k ∧ p j
    · obtain ⟨j, hj, hp⟩ := h1
      exact ih j hj hp
    · exact ⟨k, hk, fun j hj => Nat.le_of_not_lt fun hlt => h1 ⟨j, hlt, hj⟩⟩
open Classical in
noncomputable def leastK (p : Nat → Prop) : Nat := if h : ∃ k, p k then Classical.choose (least_ex p h) else 0
theorem leastK_spec (p : Nat → Prop) (h : ∃ k, p k) : p (leastK p) := by
  unfold leastK
  rw [dif_pos h]
  exact (Classical.choose_spec (least_ex p h)).1
theorem leastK_le (p : Nat → Prop) (k : Nat) (hk : p k) : leastK p ≤ k := by
  have h : ∃ k, p k := ⟨k, hk⟩
  unfold leastK
  rw [dif_pos h]
  exact (Classical.choose_spec (least_ex p h)).2 k hk

theorem fc5 {w : World} {G : Nat} {fs : List FV} {ty : TypeId} (hG : w.heap[G]? = some (.cells (fcells fs).toArray ty (0, 0))) {k : Nat} {x : FV} (hx : fs[k]? = some x) :
    w.cell? ⟨G, k * 5, none⟩ = some (.int .i64 x.1.pg) ∧ w.cell? ⟨G, k * 5 + 1, none⟩ = some x.2 ∧ w.cell? ⟨G, k * 5 + 2, none⟩ = some (.int .i64 (x.1.pins : Int)) ∧ w.cell? ⟨G, k * 5 + 3, none⟩ = some (.bool x.1.touch) ∧ w.cell? ⟨G, k * 5 + 4, none⟩ = some (.bool x.1.chg) := by
  have h : ∀ j, j < 5 → w.cell? ⟨G, k * 5 + j, none⟩ = (f5 x)[j]? := fun j hj => by
    rw [cell_of_row w G _ _ _ _ hG, List.getElem?_toArray, Nat.mul_comm]
    exact fcells_get fs k j x hx hj
  exact ⟨h 0 (by omega), h 1 (by omega), h 2 (by omega), h 3 (by omega), h 4 (by omega)⟩

theorem found1 (w : World) (a0 : Int) (b : Value) (n : Nat) (t c : Bool) : Calls Try.prog 35 #[.agg #[.int .i64 a0, b, .int .i64 (n : Int), .bool t, .bool c]] w fun e w' => e = .returned (.bool (decide (n = 0))) ∧ Below w.heap.size w w' := by
  have hd : decide (n = 0) = decide ((n : Int) = 0) := by by_cases h : n = 0 <;> simp [h]
  rw [hd]
  have hb : Below w.heap.size w (w.alloc (.cells #[.int .i64 a0, b, .int .i64 (n : Int), .bool t, .bool c] 58)) := (Below.refl _ _).alloc (Nat.le_refl _) _
  have HB := Lib.hid hb
  clear hb hd
  go_enter Try.func35, Try.ntmps35
  go_wp2
  go_ret
  exact ⟨rfl, HB.out⟩

def anyFree (fs : List FV) : Bool := fs.any fun x => decide (x.1.pins = 0)

theorem indexFree (w : World) (G : Nat) (fs : List FV) (hG : w.heap[G]? = some (.cells (fcells fs).toArray 58 (0, 0))) (hn : fs.length ≤ 1024) :
    Calls Try.prog 50 #[.slice (some ⟨G, 0, none⟩) fs.length fs.length, .func (.func 35) #[] #[]] w fun e w' => ∃ r : Int, e = .returned (.int .i64 r) ∧ decide (0 ≤ r) = anyFree fs ∧ Below w.heap.size w w' := by
  obtain ⟨qn, hqn⟩ : ∃ qn, fs.length = qn := ⟨_, rfl⟩
  have hGl : G < w.heap.size := (Array.getElem?_eq_some_iff.1 hG).1
  rw [hqn]
  have HQ := Lib.hid (And.intro hG (And.intro hqn (And.intro hGl hn)))
  clear hG hqn hGl hn
  go_enter Try.func50, Try.ntmps50
  go_wp2
  go_loopw [5, 8] (fun a i wr => ∃ k : Nat, k ≤ qn ∧ i = .int .i64 (k : Int) ∧ Below w.heap.size w wr ∧ ∀ (i : Nat) (x : FV), fs[i]? = some x → i < k → 0 < x.1.pins) (fun _ i _ => qn - (intOf i).toNat)
  case atStart => exact ⟨0, by omega, rfl, Below.refl _ _, fun i _ _ hi => absurd hi (by omega)⟩
  case round =>
    obtain ⟨k, hk, rfl, hbr, hno⟩ := hrel
    rcases Nat.lt_or_eq_of_le hk with hlt | heq
    · have hkl : k < fs.length := by rw [HQ.out.2.1]; exact hlt
      obtain ⟨x, hx⟩ : ∃ x, fs[k]? = some x := ⟨_, List.getElem?_eq_getElem hkl⟩
      have hGr : wr.heap[G]? = some (.cells (fcells fs).toArray 58 (0, 0)) := (hbr.block G HQ.out.2.2.1).trans HQ.out.1
      obtain ⟨k0, k1, k2, k3, k4⟩ := fc5 hGr hx
      have hcl := found1 wr x.1.pg x.2 x.1.pins x.1.touch x.1.chg
      have hki : (k : Int) < (qn : Int) := by omega
      have hk0 : (0 : Int) ≤ (k : Int) := by omega
      have HWJ : Hid (wrap64 ((k : Int) + 1) = (k : Int) + 1) := by show _ = _; have h9 := HQ.out.2.2.2; have h8 := HQ.out.2.1; unfold wrap64; omega
      have HBR := Lib.hid (And.intro hbr (And.intro hlt (And.intro hno hx)))
      obtain ⟨f1, f2, f3, f4, f5'⟩ : ∃ a b c d e, x.1.pg = a ∧ x.2 = b ∧ x.1.pins = c ∧ x.1.touch = d ∧ x.1.chg = e := ⟨_, _, _, _, _, rfl, rfl, rfl, rfl, rfl⟩
      obtain ⟨f6, e1, e2, e3, e4, e5⟩ := f5'
      rw [e1] at k0 hcl
      rw [e2] at k1 hcl
      rw [e3] at k2 hcl
      rw [e4] at k3 hcl
      rw [e5] at k4 hcl
      have E3 := Lib.hid e3
      have HCL := Lib.hid hcl
      clear hcl hbr hlt hk hno hx hGr e1 e2 e3 e4 e5 hkl
      by_cases hp : f3 = 0
      · subst hp
        have hany : anyFree fs = true := List.any_eq_true.2 ⟨x, List.mem_of_getElem? HBR.out.2.2.2, by rw [E3.out]; rfl⟩
        have HA := Lib.hid hany
        clear hany
        go_wp2_with fail
        refine HCL.out.mono ?_
        rintro e w5 ⟨rfl, hb5⟩
        go_wp2
        go_ret
        exact ⟨k, rfl, by rw [HA.out]; simp, HBR.out.1.trans (hb5.mono HBR.out.1.size)⟩
      · have hdp : decide (f3 = 0) = false := decide_eq_false hp
        have HP := Lib.hid hp
        rw [hdp] at HCL
        clear hdp hp
        go_wp2_with fail
        refine HCL.out.mono ?_
        rintro e w5 ⟨rfl, hb5⟩
        go_wp2
        go_roundw
        case rel => exact ⟨k + 1, by have := HBR.out.2.1; omega, by rw [HWJ.out]; rfl, HBR.out.1.trans (hb5.mono HBR.out.1.size), fun i y hi hik => by
          rcases Nat.lt_or_eq_of_le (Nat.le_of_lt_succ hik) with h9 | h9
          · exact HBR.out.2.2.1 i y hi h9
          · subst h9
            rw [HBR.out.2.2.2] at hi
            injection hi with hi
            subst hi
            rw [E3.out]
            have := HP.out
            omega⟩
        case measure => have := HBR.out.2.1; rw [HWJ.out]; simp [intOf]; omega
    · subst heq
      have hany : anyFree fs = false := by
        rw [anyFree, List.any_eq_false]
        intro x hx
        obtain ⟨i, hi, rfl⟩ := List.getElem_of_mem hx
        have := hno i _ (List.getElem?_eq_getElem hi) (by rw [← HQ.out.2.1]; exact hi)
        simp only [decide_eq_true_eq]
        omega
      have HI := Lib.hid hany
      clear hany hno
      go_wp2
      go_ret
      exact ⟨-1, rfl, by rw [HI.out]; rfl, hbr⟩

theorem containsFree (w : World) (G : Nat) (fs : List FV) (hG : w.heap[G]? = some (.cells (fcells fs).toArray 58 (0, 0))) (hn : fs.length ≤ 1024) :
    Calls Try.prog 34 #[.slice (some ⟨G, 0, none⟩) fs.length fs.length, .func (.func 35) #[] #[]] w fun e w' => e = .returned (.bool (anyFree fs)) ∧ Below w.heap.size w w' := by
  have hi := indexFree w G fs hG hn
  obtain ⟨qn, hqn⟩ : ∃ qn, fs.length = qn := ⟨_, rfl⟩
  rw [hqn] at hi ⊢
  have HI := Lib.hid hi
  clear hi hG hn hqn
  go_enter Try.func34, Try.ntmps34
  go_wp2_with fail
  refine HI.out.mono ?_
  rintro e w5 ⟨r, rfl, hr, hb5⟩
  have HR := Lib.hid hr
  clear hr
  go_wp2
  go_ret
  exact ⟨by rw [← HR.out]; rfl, hb5⟩
end Mun
