/- LockKnown, in plain words: chapter 14's examples. -/
import Derived.Test.YtbdkhegfmnladaaMgM
set_option maxRecDepth 100000
set_option linter.unusedVariables false
set_option linter.unusedSimpArgs false
namespace Mun
open Go Go.RowKit
open Go.Proofs

section
variable {A : AS} {o m : Int} {s : ByteArray}
theorem ask_ok (h1 : ¬ (o = 0 ∨ isM m = false)) (h2 : ¬ A.waits o) (h3 : A.H s o = none) (h4 : A.Q s = []) (h5 : GoesF (A.H s) o m) : A.ask o s m = (A.setH s (upd (A.H s) o (some m)), 0) := by
  unfold AS.ask; rw [if_neg h1, if_neg h2, h3]; simp only; rw [if_pos ⟨h4, h5⟩]
theorem ask_wait_no (h1 : ¬ (o = 0 ∨ isM m = false)) (h2 : ¬ A.waits o) (h3 : A.H s o = none) (h4 : ¬ (A.Q s = [] ∧ GoesF (A.H s) o m)) : A.ask o s m = (A.setQ s (A.Q s ++ [(o, m)]), 10) := by
  unfold AS.ask; rw [if_neg h1, if_neg h2, h3]; simp only; rw [if_neg h4]
theorem ask_wait_up {k : Int} (h1 : ¬ (o = 0 ∨ isM m = false)) (h2 : ¬ A.waits o) (h3 : A.H s o = some k) (h4 : jn k m ≠ k) (h5 : ¬ GoesF (A.H s) o (jn k m)) : A.ask o s m = (A.setQ s (qins (A.Q s) ((A.Q s).findIdx fun a => isFreeF (A.H s) a.1) (o, jn k m)), 10) := by
  unfold AS.ask; rw [if_neg h1, if_neg h2, h3]; simp only; rw [if_neg h4, if_neg h5]
end

abbrev kA : ByteArray := ⟨#[97]⟩
abbrev kB : ByteArray := ⟨#[98]⟩
abbrev kC : ByteArray := ⟨#[99]⟩

/-- one holds, two hold -/
def h1 (a : Int) : Int → Option Int := fun u => if u = 1 then some a else none
def h2 : Int → Option Int := fun u => if u = 1 then some 3 else if u = 2 then some 3 else none
def at1 (s : ByteArray) (h : Int → Option Int) : ByteArray → Int → Option Int := fun s' => if s' = s then h else fun _ => none
def q1 (s : ByteArray) (q : List (Int × Int)) : ByteArray → List (Int × Int) := fun s' => if s' = s then q else []
theorem at1_self (s : ByteArray) (h : Int → Option Int) : at1 s h s = h := if_pos rfl
theorem at1_ne {s s' : ByteArray} (h : Int → Option Int) (e : ¬ s' = s) : at1 s h s' = fun _ => none := if_neg e
theorem q1_self (s : ByteArray) (q : List (Int × Int)) : q1 s q s = q := if_pos rfl
theorem q1_ne {s s' : ByteArray} (q : List (Int × Int)) (e : ¬ s' = s) : q1 s q s' = [] := if_neg e
theorem pair_eq {A B : AS} {e : Int} (h : A = B) : (A, e) = (B, e) := by rw [h]
def T1 : AS := ⟨at1 kA (h1 3), fun _ => []⟩
def T2 : AS := ⟨at1 kA h2, fun _ => []⟩
def T3 : AS := ⟨at1 kA h2, q1 kA [(1, 4)]⟩
def T4 : AS := ⟨at1 kA h2, q1 kA [(1, 4), (3, 1)]⟩

theorem t1_ask : AS.none.ask 1 kA 3 = (T1, 0) := by
  rw [ask_ok (by decide) (by rintro ⟨s, m, h⟩; cases h) rfl rfl (fun u k h => by cases h)]
  refine pair_eq (AS.ext' (fun s u => ?_) (fun s => rfl))
  show (updS (β := Int → Option Int) _ _ _ s) u = at1 kA (h1 3) s u
  unfold updS at1 upd h1 AS.none
  split <;> rfl
theorem t2_ask : T1.ask 2 kA 3 = (T2, 0) := by
  have hh : T1.H kA = h1 3 := at1_self kA (h1 3)
  rw [ask_ok (by decide) (by rintro ⟨s, m, h⟩; cases h) (by rw [hh]; rfl) rfl (fun u k h _ => by
    rw [hh] at h
    unfold h1 at h
    split at h
    · injection h with h; subst h; decide
    · cases h)]
  refine pair_eq (AS.ext' (fun s u => ?_) (fun s => rfl))
  show (updS (β := Int → Option Int) _ _ _ s) u = at1 kA h2 s u
  rw [hh]
  unfold updS at1
  split
  · unfold upd h1 h2
    by_cases e : u = 2
    · subst e; simp
    · simp [e]
  · rename_i e; show T1.H s u = none; unfold T1 at1; simp only; rw [if_neg e]
theorem t2_H : T2.H kA = h2 := at1_self kA h2
theorem t3_ask : T2.ask 1 kA 4 = (T3, 10) := by
  rw [ask_wait_up (k := 3) (by decide) (by rintro ⟨s, m, h⟩; cases h) (by rw [t2_H]; rfl) (by decide) (fun h => by
    rw [t2_H] at h
    have := h 2 3 rfl (by decide)
    exact absurd this (by decide))]
  refine pair_eq (AS.ext' (fun s u => rfl) (fun s => ?_))
  show updS _ _ _ s = q1 kA [(1, 4)] s
  unfold updS q1
  split
  · decide
  · rfl
theorem q1_mem {s s' : ByteArray} {q : List (Int × Int)} {b : Int × Int} (h : b ∈ q1 s q s') : b ∈ q := by
  unfold q1 at h
  split at h
  · exact h
  · cases h
theorem t4_ask : T3.ask 3 kA 1 = (T4, 10) := by
  have hq : T3.Q kA = [(1, 4)] := q1_self kA [(1, 4)]
  rw [ask_wait_no (by decide) (by rintro ⟨s, m, h⟩; have := q1_mem h; simp at this) (by show T2.H kA 3 = none; rw [t2_H]; rfl) (fun h => by rw [hq] at h; cases h.1)]
  refine pair_eq (AS.ext' (fun s u => rfl) (fun s => ?_))
  show updS _ _ _ s = q1 kA [(1, 4), (3, 1)] s
  rw [hq]
  unfold updS q1
  split
  · rfl
  · rename_i e; show T3.Q s = []; unfold T3 q1; simp only; rw [if_neg e]
theorem t4_Q : T4.Q kA = [(1, 4), (3, 1)] := q1_self kA [(1, 4), (3, 1)]
theorem t4_H : T4.H kA = h2 := at1_self kA h2
theorem t4_touched (s : ByteArray) : T4.touched 2 s ↔ s = kA := by
  unfold AS.touched
  constructor
  · rintro (h | ⟨m, h⟩)
    · apply Classical.byContradiction
      intro e
      apply h
      show at1 kA h2 s 2 = none
      unfold at1; rw [if_neg e]
    · have := q1_mem h; simp at this
  · rintro rfl
    left
    rw [t4_H]
    simp [h2]
theorem one_of {ns : List ByteArray} {s : ByteArray} (hn : ns.Nodup) (h : ∀ x, x ∈ ns ↔ x = s) : ns = [s] := by
  match ns, hn with
  | [], _ => have := (h s).2 rfl; simp at this
  | [a], _ => rw [(h a).1 (by simp)]
  | a :: b :: l, hn =>
    have e1 := (h a).1 (by simp)
    have e2 := (h b).1 (by simp)
    rw [List.nodup_cons] at hn
    exact absurd (by simp [e1, e2]) hn.1
theorem t4_pop : T4.pop 2 kA = (upd (upd h2 2 none) 1 (some 4), [(3, 1)], [(1, 4)]) := by
  unfold AS.pop
  rw [t4_H, t4_Q]
  have hf : ([(1, 4), (3, 1)] : List (Int × Int)).filter (neO 2) = [(1, 4), (3, 1)] := by decide
  rw [hf]
  have g1 : GoesF (upd h2 2 none) 1 4 := fun u k h hne => by
    unfold upd h2 at h
    split at h
    · cases h
    · rename_i e2; simp [hne, e2] at h
  have g2 : ¬ GoesF (upd (upd h2 2 none) 1 (some 4)) 3 1 := fun h => by
    have := h 1 4 rfl (by decide)
    exact absurd this (by decide)
  rw [popF_yes (a := (1, 4)) g1, popF_no (a := (3, 1)) g2]
theorem t4_popped {ns : List ByteArray} (hn : ns.Nodup) (h : ∀ s, s ∈ ns ↔ T4.touched 2 s) : popped T4 2 ns = [(1, 4)] := by
  rw [one_of hn (fun x => (h x).trans (t4_touched x))]
  show (T4.pop 2 kA).2.2 ++ [] = _
  rw [t4_pop]; rfl
theorem t5_H (s : ByteArray) : (T4.freed 2).H s 1 = if s = kA then some 4 else none := by
  unfold AS.freed
  simp only
  by_cases e : s = kA
  · subst e
    rw [if_pos ((t4_touched kA).2 rfl), t4_pop, if_pos rfl]
    rfl
  · rw [if_neg (fun h => e ((t4_touched s).1 h)), if_neg e]
    show at1 kA h2 s 1 = none
    unfold at1; rw [if_neg e]

/-! the other table -/
def hN (o a : Int) : Int → Option Int := fun u => if u = o then some a else none
def hBC : ByteArray → Int → Option Int := fun s => if s = kB then hN 1 4 else if s = kC then hN 2 4 else fun _ => none
theorem hBC_B : hBC kB = hN 1 4 := if_pos rfl
theorem kCB : ¬ kC = kB := by decide
theorem hBC_C : hBC kC = hN 2 4 := (if_neg kCB).trans (if_pos rfl)
def qBC : ByteArray → List (Int × Int) := fun s => if s = kB then [(2, 3)] else if s = kC then [(1, 3)] else []
theorem qBC_B : qBC kB = [(2, 3)] := if_pos rfl
theorem qBC_C : qBC kC = [(1, 3)] := (if_neg kCB).trans (if_pos rfl)
def U1 : AS := ⟨at1 kB (hN 1 4), fun _ => []⟩
def U2 : AS := ⟨hBC, fun _ => []⟩
def U3 : AS := ⟨hBC, q1 kB [(2, 3)]⟩
def U4 : AS := ⟨hBC, qBC⟩
theorem u1_ask : AS.none.ask 1 kB 4 = (U1, 0) := by
  rw [ask_ok (by decide) (by rintro ⟨s, m, h⟩; cases h) rfl rfl (fun u k h => by cases h)]
  refine pair_eq (AS.ext' (fun s u => ?_) (fun s => rfl))
  show (updS (β := Int → Option Int) _ _ _ s) u = at1 kB (hN 1 4) s u
  unfold updS at1 upd hN AS.none
  split <;> rfl
theorem u2_ask : U1.ask 2 kC 4 = (U2, 0) := by
  have hh : U1.H kC = fun _ => none := at1_ne (hN 1 4) kCB
  rw [ask_ok (by decide) (by rintro ⟨s, m, h⟩; cases h) (by rw [hh]) rfl (fun u k h => by rw [hh] at h; cases h)]
  refine pair_eq (AS.ext' (fun s u => ?_) (fun s => rfl))
  show (updS (β := Int → Option Int) _ _ _ s) u = hBC s u
  rw [hh]
  unfold updS hBC
  by_cases e : s = kC
  · subst e
    rw [if_pos rfl, if_neg kCB, if_pos rfl]; rfl
  · rw [if_neg e, if_neg e]; rfl
theorem u2_HB : U2.H kB = hN 1 4 := hBC_B
theorem u2_HC : U2.H kC = hN 2 4 := hBC_C
theorem u3_ask : U2.ask 2 kB 3 = (U3, 10) := by
  rw [ask_wait_no (by decide) (by rintro ⟨s, m, h⟩; cases h) (by rw [u2_HB]; rfl) (fun h => by
    have := h.2 1 4 (by rw [u2_HB]; rfl) (by decide)
    exact absurd this (by decide))]
  rfl
theorem u4_ask : U3.ask 1 kC 3 = (U4, 10) := by
  have hq : U3.Q kC = [] := q1_ne [(2, 3)] kCB
  rw [ask_wait_no (by decide) (by rintro ⟨s, m, h⟩; have := q1_mem h; simp at this) (by show U2.H kC 1 = none; rw [u2_HC]; rfl) (fun h => by
    have := h.2 2 4 (by show U2.H kC 2 = _; rw [u2_HC]; rfl) (by decide)
    exact absurd this (by decide))]
  refine pair_eq (AS.ext' (fun s u => rfl) (fun s => ?_))
  show updS _ _ _ s = _
  rw [hq]
  show updS (q1 kB [(2, 3)]) kC [(1, 3)] s = qBC s
  unfold updS q1 qBC
  by_cases e : s = kC
  · subst e; rw [if_pos rfl, if_neg kCB, if_pos rfl]
  · rw [if_neg e, if_neg e]
theorem u3_blocks {o u : Int} (h : U3.blocks o u) : o = 2 ∧ u = 1 := by
  obtain ⟨s, m, hq, hb⟩ := h
  have hm := q1_mem hq
  simp only [List.mem_singleton, Prod.mk.injEq] at hm
  obtain ⟨rfl, rfl⟩ := hm
  have hs : s = kB := by
    apply Classical.byContradiction
    intro e
    have : U3.Q s = [] := q1_ne [(2, 3)] e
    rw [this] at hq; cases hq
  subst hs
  refine ⟨rfl, ?_⟩
  rcases hb with ⟨hne, k, hk, -⟩ | hb
  · have h9 : hN 1 4 u = some k := by rw [← u2_HB]; exact hk
    unfold hN at h9
    split at h9
    · assumption
    · cases h9
  · have hq2 : U3.Q kB = [(2, 3)] := q1_self kB [(2, 3)]
    rw [hq2] at hb
    have hz : ahead [((2 : Int), (3 : Int))] 2 = [] := by decide
    rw [hz] at hb
    cases hb
theorem u3_victim {v : Int} {b : Bool} (h : U3.Victim 2 v b) : b = false := by
  rcases h with ⟨h, -⟩ | ⟨-, h, -⟩
  · exact h
  · have hr : ∀ {o u : Int}, U3.Reach o u → o = 2 → u = 1 := by
      intro o u hr
      induction hr with
      | one hb => exact fun _ => (u3_blocks hb).2
      | step hb hr' ih =>
        intro _
        have h8 := (u3_blocks hb).2
        subst h8
        cases hr' with
        | one hb2 => exact absurd (u3_blocks hb2).1 (by decide)
        | step hb2 _ => exact absurd (u3_blocks hb2).1 (by decide)
    exact absurd (hr h rfl) (by decide)
theorem u4_QB : U4.Q kB = [(2, 3)] := qBC_B
theorem u4_QC : U4.Q kC = [(1, 3)] := qBC_C
theorem u4_12 : U4.blocks 1 2 := ⟨kC, 3, by rw [u4_QC]; simp, .inl ⟨by decide, 4, by show U2.H kC 2 = _; rw [u2_HC]; rfl, by decide⟩⟩
theorem u4_21 : U4.blocks 2 1 := ⟨kB, 3, by rw [u4_QB]; simp, .inl ⟨by decide, 4, by show U2.H kB 1 = _; rw [u2_HB]; rfl, by decide⟩⟩
theorem u4_blocks {o u : Int} (h : U4.blocks o u) : u ≤ 2 := by
  obtain ⟨s, m, hq, hb⟩ := h
  rcases hb with ⟨hne, k, hk, -⟩ | hb
  · have h9 : hBC s u = some k := hk
    by_cases e1 : s = kB
    · rw [e1, hBC_B] at h9
      unfold hN at h9
      split at h9
      · omega
      · cases h9
    · by_cases e2 : s = kC
      · rw [e2, hBC_C] at h9
        unfold hN at h9
        split at h9
        · omega
        · cases h9
      · unfold hBC at h9
        rw [if_neg e1, if_neg e2] at h9
        cases h9
  · obtain ⟨a, ha, rfl⟩ := List.mem_map.1 hb
    have ha2 := (List.takeWhile_sublist _).mem ha
    have ha3 : a ∈ qBC s := ha2
    unfold qBC at ha3
    split at ha3
    · simp at ha3; subst ha3; decide
    · split at ha3
      · simp at ha3; subst ha3; decide
      · cases ha3
theorem u4_victim {v : Int} {b : Bool} (h : U4.Victim 1 v b) : b = true ∧ v = 2 := by
  have hr1 : U4.Reach 1 2 := .one u4_12
  have hr2 : U4.Reach 2 1 := .one u4_21
  rcases h with ⟨-, -, h⟩ | ⟨h, -, h1, -, h3⟩
  · exact absurd (hr1.trans hr2) h
  · refine ⟨h, ?_⟩
    have hle := h3 2 hr1 hr2
    have hge : ∀ {o u : Int}, U4.Reach o u → u ≤ 2 := by
      intro o u hr
      induction hr with
      | one hb => exact u4_blocks hb
      | step _ _ ih => exact ih
    have := hge h1
    omega
end Mun
