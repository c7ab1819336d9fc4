/- Uniform contracts of package page and its reference; told. -/
import Derived.Test.YtndeebchiodimaaR5D
import Derived.Test.YtndeebchiodimaaR5I
import Derived.Test.YtndeebchiodimaaHeadsW
set_option maxRecDepth 100000
set_option linter.unusedVariables false
set_option linter.unusedSimpArgs false
namespace Mun
open Go Go.RowKit
open Go.Proofs

/-- bytes that read -/
def Rds (w : World) (L : List (Value × PBytes)) : Prop := ∀ x ∈ L, RdB NoF w x.1 x.2
structure St (W w : World) (L : List (Value × PBytes)) : Prop where
  bl : Below W.heap.size W w
  rd : Rds w L
theorem St.step {W w w' : World} {L : List (Value × PBytes)} (h : St W w L) (hb : Below w.heap.size w w') : St W w' L :=
  ⟨h.bl.trans (hb.mono h.bl.size), fun x hx => RdB.below (h.rd x hx) hb⟩
theorem St.push {W w : World} {L : List (Value × PBytes)} {v : Value} {l : PBytes} (h : St W w L) (hr : RdB NoF w v l) : St W w ((v, l) :: L) :=
  ⟨h.bl, fun x hx => by
    rcases List.mem_cons.1 hx with rfl | hx
    · exact hr
    · exact h.rd x hx⟩
theorem St.at_ {W w : World} {L : List (Value × PBytes)} (h : St W w L) (i : Nat) {x : Value × PBytes} (hx : L[i]? = some x) : RdB NoF w x.1 x.2 := h.rd x (List.mem_of_getElem? hx)

/-- a page or nothing, and an error -/
def Out1 (w : World) (X : PBytes × Int) (e : Ending) (w' : World) : Prop := ∃ a n c, e = .returned (.tuple #[.slice a n c, .int .i64 X.2]) ∧ RdB NoF w' (.slice a n c) X.1 ∧ Below w.heap.size w w'
theorem PageOut.out1 {w w' : World} {p : PBytes} {e : Ending} (h : PageOut w p e w') : Out1 w (p, 0) e w' := by
  obtain ⟨g, rfl, hp, hg, hb⟩ := h
  exact ⟨_, _, _, rfl, hp.rd (noF _), hb⟩
theorem PageNo.out1 {w w' : World} {k : Int} {e : Ending} (h : PageNo w k e w') : Out1 w ([], k) e w' := by
  obtain ⟨rfl, hb⟩ := h
  exact ⟨_, _, _, rfl, RdB.nil _ _, hb⟩
/-- a page, and whether there is room -/
def Out2 (w : World) (X : PBytes × Bool) (e : Ending) (w' : World) : Prop := ∃ a n c, e = .returned (.tuple #[.slice a n c, .bool X.2]) ∧ RdB NoF w' (.slice a n c) X.1 ∧ Below w.heap.size w w'
theorem PwOut2.out2 {w w' : World} {p : PBytes} {e : Ending} (h : PwOut2 w p e w') : Out2 w (p, true) e w' := by
  obtain ⟨g, cap, rfl, hp, hb⟩ := h
  exact ⟨_, _, _, rfl, hp.rd (noF _), hb⟩
theorem PwNo2.out2 {w w' : World} {e : Ending} (h : PwNo2 w e w') : Out2 w ([], false) e w' := by
  obtain ⟨rfl, hb⟩ := h
  exact ⟨_, _, _, rfl, RdB.nil _ _, hb⟩
/-- a page alone -/
def Out0 (w : World) (X : PBytes) (e : Ending) (w' : World) : Prop := ∃ a n c, e = .returned (.slice a n c) ∧ RdB NoF w' (.slice a n c) X ∧ Below w.heap.size w w'
theorem PwOut.out0 {w w' : World} {p : PBytes} {e : Ending} (h : PwOut w p e w') : Out0 w p e w' := by
  obtain ⟨g, cap, rfl, hp, hb⟩ := h
  exact ⟨_, _, _, rfl, hp.rd (noF _), hb⟩

open Classical in
noncomputable def insO (p : PBytes) (i : Int) (c : PBytes) : PBytes × Int :=
  if ¬ GoodP p then ([], 4) else if i < 0 ∨ (cnt p : Int) < i then ([], 1) else if freeP p < (c.length : Int) + 4 then ([], 7) else (insP p i.toNat c, 0)
open Classical in
noncomputable def remO (p : PBytes) (i : Int) : PBytes × Int :=
  if ¬ GoodP p then ([], 4) else if i < 0 ∨ (cnt p : Int) ≤ i then ([], 1) else (remP p i.toNat, 0)
open Classical in
noncomputable def repO (p : PBytes) (i : Int) (c : PBytes) : PBytes × Int :=
  if ¬ GoodP p then ([], 4) else if i < 0 ∨ (cnt p : Int) ≤ i then ([], 1) else if sSize p i.toNat < c.length ∧ freeP p < (c.length : Int) - sSize p i.toNat then ([], 7) else (repP p i.toNat c, 0)
noncomputable def rinsO (p : PBytes) (i : Nat) (c : PBytes) : PBytes × Bool := if freeP p < (c.length : Int) + 4 then ([], false) else (insP p i c, true)
noncomputable def rrepO (p : PBytes) (i : Nat) (c : PBytes) : PBytes × Bool := if sSize p i < c.length ∧ freeP p < (c.length : Int) - sSize p i then ([], false) else (repP p i c, true)

section
variable {w : World} {v u : Value} {p c : List UInt8} {i : Int}
theorem insert_u (hv : RdB NoF w v p) (hu : RdB NoF w u c) (hcl : c.length ≤ 140737488355328) : Calls Try.prog 17 #[v, .int .i64 i, u] w (Out1 w (insO p i c)) := by
  unfold insO
  by_cases hg : GoodP p
  · rw [if_neg (by simpa using hg)]
    by_cases hb : i < 0 ∨ (cnt p : Int) < i
    · rw [if_pos hb]
      exact (insert_bad w v u p c i hv hu hg (by omega)).mono fun _ _ h => h.out1
    · rw [if_neg hb]
      obtain ⟨j, rfl⟩ := Int.eq_ofNat_of_zero_le (show 0 ≤ i by omega)
      by_cases hf : freeP p < (c.length : Int) + 4
      · rw [if_pos hf]
        exact (insert_full w v u p c j hv hu hg (by omega) hf hcl).mono fun _ _ h => h.out1
      · rw [if_neg hf]
        exact (insert_yes w v u p c j hv hu hg (by omega) (by omega)).mono fun _ _ h => h.out1
  · rw [if_pos hg]
    exact (insert_no w v u p c i hv hu hg).mono fun _ _ h => h.out1
theorem remove_u (hv : RdB NoF w v p) : Calls Try.prog 19 #[v, .int .i64 i] w (Out1 w (remO p i)) := by
  unfold remO
  by_cases hg : GoodP p
  · rw [if_neg (by simpa using hg)]
    by_cases hb : i < 0 ∨ (cnt p : Int) ≤ i
    · rw [if_pos hb]
      exact (remove_bad w v p i hv hg (by omega)).mono fun _ _ h => h.out1
    · rw [if_neg hb]
      obtain ⟨j, rfl⟩ := Int.eq_ofNat_of_zero_le (show 0 ≤ i by omega)
      exact (remove_yes w v p j hv hg (by omega)).mono fun _ _ h => h.out1
  · rw [if_pos hg]
    exact (remove_no w v p i hv hg).mono fun _ _ h => h.out1
theorem replace_u (hv : RdB NoF w v p) (hu : RdB NoF w u c) (hcl : c.length ≤ 140737488355328) : Calls Try.prog 20 #[v, .int .i64 i, u] w (Out1 w (repO p i c)) := by
  unfold repO
  by_cases hg : GoodP p
  · rw [if_neg (by simpa using hg)]
    by_cases hb : i < 0 ∨ (cnt p : Int) ≤ i
    · rw [if_pos hb]
      exact (replace_bad w v u p c i hv hu hg (by omega)).mono fun _ _ h => h.out1
    · rw [if_neg hb]
      obtain ⟨j, rfl⟩ := Int.eq_ofNat_of_zero_le (show 0 ≤ i by omega)
      by_cases hs : sSize p j < c.length
      · by_cases hf : freeP p < (c.length : Int) - sSize p j
        · rw [if_pos ⟨hs, hf⟩]
          exact (replace_full w v u p c j hv hu hg (by omega) hs hf hcl).mono fun _ _ h => h.out1
        · rw [if_neg (fun h => hf h.2)]
          exact (replace_yes w v u p c j hv hu hg (by omega) hs (by omega)).mono fun _ _ h => h.out1
      · rw [if_neg (fun h => hs h.1)]
        exact (replace_fits w v u p c j hv hu hg (by omega) (by omega)).mono fun _ _ h => h.out1
  · rw [if_pos hg]
    exact (replace_no w v u p c i hv hu hg).mono fun _ _ h => h.out1
theorem rinsert_u (j : Nat) (hv : RdB NoF w v p) (hu : RdB NoF w u c) (hg : GoodP p) (hj : j ≤ cnt p) (hcl : c.length ≤ 140737488355328) : Calls Try.prog 24 #[v, .int .i64 j, u] w (Out2 w (rinsO p j c)) := by
  unfold rinsO
  by_cases hf : freeP p < (c.length : Int) + 4
  · rw [if_pos hf]
    exact (r5insert_no w v u p c j hv hu hg hcl hf).mono fun _ _ h => h.out2
  · rw [if_neg hf]
    exact (r5insert_yes w v u p c j hv hu hg hj (by omega)).mono fun _ _ h => h.out2
theorem rreplace_u (j : Nat) (hv : RdB NoF w v p) (hu : RdB NoF w u c) (hg : GoodP p) (hj : j < cnt p) (hcl : c.length ≤ 140737488355328) : Calls Try.prog 25 #[v, .int .i64 j, u] w (Out2 w (rrepO p j c)) := by
  unfold rrepO
  by_cases hf : sSize p j < c.length ∧ freeP p < (c.length : Int) - sSize p j
  · rw [if_pos hf]
    exact (r5replace_no w v u p c j hv hu hg hj hcl hf.1 hf.2).mono fun _ _ h => h.out2
  · rw [if_neg hf]
    exact (r5replace_yes w v u p c j hv hu hg hj hcl (by omega)).mono fun _ _ h => h.out2
theorem rremove_u (j : Nat) (hv : RdB NoF w v p) (hg : GoodP p) (hj : j < cnt p) : Calls Try.prog 26 #[v, .int .i64 j] w (Out0 w (remP p j)) :=
  (r5remove w v p j hv hg hj).mono fun _ _ h => h.out0
end

theorem told_yes (w : World) (x y : Value) (X Y : PBytes) (E E' : Int) (hx : RdB NoF w x X) (hy : RdB NoF w y Y) (hE : E = E') (hX : X = Y) :
    Calls Try.prog 22 #[x, .int .i64 E, y, .int .i64 E'] w fun e w' => e = .returned (.bool true) ∧ w = w' := by
  subst hE hX
  have h1 := str_bytes hx
  have h2 := str_bytes hy
  obtain ⟨a1, n1, c1, rfl, -, -, -⟩ := hx.formN
  obtain ⟨a2, n2, c2, rfl, -, -, -⟩ := hy.formN
  obtain ⟨s, hs⟩ : ∃ s, strOf X = s := ⟨_, rfl⟩
  rw [hs] at h1 h2
  have t1 : (E == E) = true := by simp
  have t2 : (s.toList == s.toList) = true := by simp
  clear hx hy hs
  go_enter Try.func22, Try.ntmps22
  go_wp2
  go_ret
  exact ⟨rfl, rfl⟩
end Mun
