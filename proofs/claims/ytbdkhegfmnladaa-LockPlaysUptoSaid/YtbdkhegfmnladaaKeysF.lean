/- slices.SortedFunc(maps.Keys(m), strings.Compare) of whatever set of names, nil too. -/
import Derived.Test.YtbdkhegfmnladaaLaysC
import Derived.Test.YtbdkhegfmnladaaMgH
set_option maxRecDepth 100000
set_option linter.unusedVariables false
set_option linter.unusedSimpArgs false
namespace Mun
open Go Go.RowKit Go.Maps Go.Sort Go.Shelf
open Go.Proofs

theorem cmp_lt : ∀ a b : List UInt8, Lib.compareBytes a b < 0 ↔ a < b
  | [], [] => by simp [Lib.compareBytes]
  | [], b :: bs => by simp [Lib.compareBytes]
  | a :: as', [] => by simp [Lib.compareBytes]
  | a :: as', b :: bs => by
    unfold Lib.compareBytes
    rw [List.cons_lt_cons_iff]
    by_cases h : a < b
    · simp [h]
    · rw [if_neg h]
      by_cases h2 : b < a
      · rw [if_pos h2]
        have : a ≠ b := fun e => by subst e; exact h h2
        simp [h, this]
      · rw [if_neg h2]
        have : a = b := UInt8.le_antisymm (UInt8.not_lt.1 h2) (UInt8.not_lt.1 h)
        subst this
        rw [cmp_lt as' bs]
        simp
theorem lt_cmp : ltOf (Lib.compareBytes) = fun a b : List UInt8 => decide (a < b) := by
  funext a b
  unfold ltOf
  exact decide_eq_decide.2 (cmp_lt a b)
theorem swo_cmp : SWO (ltOf (Lib.compareBytes)) := by
  rw [lt_cmp]
  refine ⟨fun x => ?_, fun x y z h1 h2 => ?_, fun x y z h1 h2 => ?_⟩
  · simp
  · simp at h1 h2 ⊢; exact List.lt_trans h1 h2
  · simp at h1 h2 ⊢; exact List.le_trans h2 h1

theorem compare_lays (blk off size : Nat) (w : World) : CmpLays1 Try.prog 36 #[] encStr (Lib.compareBytes) blk off size w := by
  refine CmpReads.lays (fun m os dk hs x y => ?_)
  have h9 := Any.strings_Compare Try.cmp36 ⟨x.toArray⟩ ⟨y.toArray⟩ (sortWorld encStr w blk off m dk os)
  refine Calls.mono (show Calls Try.prog 36 #[encStr x, encStr y] _ _ from h9) ?_
  rintro e w' ⟨rfl, rfl⟩
  exact ⟨by simp, 0, rfl⟩

theorem sortf_row (w : World) {B : Nat} {v : Value} {ss : List (List UInt8)} (hrow : w.ownsRow B 9 1 v ss.length (ss.map encStr)) (hl : ss.length ≤ 8796093022200) :
    Calls Try.prog 54 #[v, .func (.func 36) #[] #[]] w fun e w' => e = .returned (.tuple #[]) ∧ w'.ownsRow B 9 1 v ss.length ((ss.mergeSort (fun x y => decide (x ≤ y))).map encStr) ∧ w.grownBy w' v.ownBlock := by
  rcases hrow.2 with ⟨rfl, h0⟩ | ⟨g, cap, cur, rfl, hbg, hg, r1, r2, r3, r4⟩
  · have hss : ss = [] := List.eq_nil_of_length_eq_zero h0
    subst hss
    have h9 := AnyF.slices_SortFunc_none Try.sortn54 none 0 (.func (.func 36) #[] #[]) w
    refine Calls.mono (show Calls Try.prog 54 #[.slice none 0 0, .func (.func 36) #[] #[]] w _ from h9) ?_
    rintro e w' ⟨rfl, rfl⟩
    refine ⟨rfl, by simpa using hrow, rfl, rfl, rfl, Nat.le_refl _, fun _ _ _ => rfl⟩
  · have hH : Holds encStr w g 0 ss.toArray := holds_of_block hg (by simpa using r4)
    have hgl : g < w.heap.size := (Array.getElem?_eq_some_iff.1 hg).1
    have h9 := Any.slices_SortFunc_total Try.sortf54 encStr (fun x => rfl) (Lib.compareBytes) swo_cmp 36 #[] g 0 cap ss.toArray w (enters_of Try.func36 (by kernel_rfl) rfl) (compare_lays _ _ _ _) hH hgl (by simp; omega) (fun x y h1 h2 => by
      rw [lt_cmp] at h1 h2
      simp at h1 h2
      exact List.le_antisymm h2 h1)
    refine Calls.mono (show Calls Try.prog 54 #[.slice (some ⟨g, 0, none⟩) ss.length cap, .func (.func 36) #[] #[]] w _ from h9) ?_
    rintro e w' ⟨rfl, n, os, rfl⟩
    have hf : (fun x y : List UInt8 => !(ltOf Lib.compareBytes) y x) = fun x y => decide (x ≤ y) := by
      rw [lt_cmp]
      funext x y
      by_cases hxy : y < x
      · simp [hxy]
      · simp [hxy]; exact hxy
    have hd : (ss.toArray.toList.mergeSort fun x y => !(ltOf Lib.compareBytes) y x) = ss.mergeSort (fun x y => decide (x ≤ y)) := by rw [hf]
    rw [hd]
    exact ⟨rfl, ownsRow_sorted (by simp) hbg hg r1 r2 r3, grownBy_sorted _⟩

/-- the keys, collected -/
theorem collect_names (w : World) (mb : Option Nat) (es : List ByteArray) (hs : ∀ s ∈ es, s.size ≤ maxLen) (hl : es.length ≤ 8796093022200) (h : (∃ M, mb = some M ∧ GMap w M (setV es)) ∨ (mb = none ∧ es = [])) :
    Calls Try.prog 53 #[.func (.func 55) #[] #[.pointer (some ⟨w.heap.size, 0, none⟩)]] (w.alloc (.cells #[.map mb] 80)) fun e w' =>
      ∃ (v : Value) (ss : List (List UInt8)), e = .returned v ∧ ss.Perm (es.map fun s => s.data.toList) ∧ w'.ownsRow w.heap.size 9 1 v ss.length (ss.map encStr) ∧ Below w.heap.size w w' := by
  have hl2 : es.length ≤ maxLen := by unfold maxLen; omega
  rcases h with ⟨M, rfl, hg⟩ | ⟨rfl, rfl⟩
  · have hown := owns_set w M es hs hl2 hg
    have hbl := hown.lt
    have hseq : SeqGives Fence.wide 3 Try.prog 55 #[.pointer (some ⟨w.heap.size, 0, none⟩)] encStr (fun ss => ss.Perm (strKeys (mapS es))) (Maps.size (mapS es)) (w.alloc (.cells #[.map (some M)] 80)) :=
      AnyZ.keys_gives (ρ := Try.keys35_ren) { Try.keys35 with } Fence.wide _ trivial rfl (by omega) w.heap.size M es.length (mapS es) _ (by simp) (by simp) (by
        obtain ⟨es', clock, hb, Ft, hs', hD⟩ := hown
        exact ⟨es', clock, (Below.heap_alloc _ _ M hbl).trans hb, Ft, hs', hD⟩)
    refine ((callsIn_wide (n := 5)).1 (AnyZ.collect_in Try.coll53 Fence.wide 5 trivial trivial rfl (by omega) 55 _ trivial (enters_of Try.func55 (by kernel_rfl) rfl) _ _ (by rw [mapS_size]; exact hl2) (by rw [mapS_size]; omega) _ hseq)).mono ?_
    rintro e w' ⟨v, ss, rfl, hS, hrow, hnil, hb⟩
    exact ⟨v, ss, rfl, hS.trans (mapS_keys es), rowU_mono' hrow (by simp), ((Below.refl _ w).alloc (Nat.le_refl _) _).trans (hb.mono (by simp))⟩
  · have hseq : SeqGives Fence.wide 3 Try.prog 55 #[.pointer (some ⟨w.heap.size, 0, none⟩)] encStr (fun ss => ss = []) 0 (w.alloc (.cells #[.map none] 80)) :=
      AnyZ.keys_gives_nil (ρ := Try.keys35_ren) { Try.keys35 with } Fence.wide _ trivial rfl w.heap.size _ (by simp) (by simp)
    refine ((callsIn_wide (n := 5)).1 (AnyZ.collect_in Try.coll53 Fence.wide 5 trivial trivial rfl (by omega) 55 _ trivial (enters_of Try.func55 (by kernel_rfl) rfl) _ _ (by decide) (by decide) _ hseq)).mono ?_
    rintro e w' ⟨v, ss, rfl, hS, hrow, hnil, hb⟩
    have hS' : ss = [] := hS
    subst hS'
    exact ⟨v, [], rfl, List.Perm.refl _, rowU_mono' hrow (by simp), ((Below.refl _ w).alloc (Nat.le_refl _) _).trans (hb.mono (by simp))⟩

theorem names_sortf (w : World) (mb : Option Nat) (es : List ByteArray) (hs : ∀ s ∈ es, s.size ≤ maxLen) (hl : es.length ≤ 8796093022200) (h : (∃ M, mb = some M ∧ GMap w M (setV es)) ∨ (mb = none ∧ es = [])) :
    Calls Try.prog 34 #[.func (.func 55) #[] #[.pointer (some ⟨w.heap.size, 0, none⟩)], .func (.func 36) #[] #[]] (w.alloc (.cells #[.map mb] 80)) fun e w' =>
      ∃ (v : Value) (ns : List ByteArray), e = .returned v ∧ ns.Perm es ∧ ns.Pairwise leN ∧ w'.ownsRow w.heap.size 9 1 v ns.length (ns.map Value.string) ∧ Below w.heap.size w w' := by
  have hc := collect_names w mb es hs hl h
  have HC := Lib.hid hc
  have HL := Lib.hid hl
  clear hc h hs hl
  go_enter Try.func34, Try.ntmps34
  go_wp2_with fail
  refine HC.out.mono ?_
  rintro e w2 ⟨v, ss, rfl, hS, hrow, hb⟩
  obtain ⟨va, vn, vc, rfl⟩ : ∃ va vn vc, v = .slice va vn vc := by
    rcases hrow.2 with ⟨rfl, -⟩ | ⟨g, cap, cur, rfl, -⟩
    · exact ⟨_, _, _, rfl⟩
    · exact ⟨_, _, _, rfl⟩
  have hso := sortf_row w2 hrow (by have h9 := hS.length_eq; rw [List.length_map] at h9; have := HL.out; omega)
  have HSO := Lib.hid hso
  have HX := Lib.hid (And.intro hS (And.intro hrow hb))
  clear hso hS hrow hb HC
  go_wp2_with fail
  refine HSO.out.mono ?_
  rintro e w3 ⟨rfl, hrow3, hgr⟩
  have H3 := Lib.hid (And.intro hrow3 hgr)
  clear hrow3 hgr HSO
  go_wp2
  go_ret
  obtain ⟨hrow3, hgr⟩ := H3.out
  obtain ⟨hS, hrow, hb⟩ := HX.out
  obtain ⟨st, hst⟩ : ∃ st, ss.mergeSort (fun x y => decide (x ≤ y)) = st := ⟨_, rfl⟩
  have hp1 : st.Perm ss := by rw [← hst]; exact List.mergeSort_perm _ _
  have hp2 : st.Perm (es.map fun s => s.data.toList) := hp1.trans hS
  have hsorted : st.Pairwise (fun x y => decide (x ≤ y) = true) := by
    rw [← hst]
    exact List.pairwise_mergeSort (fun a b c h1 h2 => by simp at h1 h2 ⊢; exact List.le_trans h1 h2) (fun a b => by simp; exact List.le_total a b) ss
  refine ⟨_, st.map ofL, rfl, ?_, ?_, ?_, hb.grown hgr hb.size (fun j hj => (hrow.lt j hj).1)⟩
  · have h9 := hp2.map ofL
    rw [List.map_map] at h9
    have h8 : es.map (ofL ∘ fun s => s.data.toList) = es := by
      conv => rhs; rw [← List.map_id es]
      exact List.map_congr_left (fun s _ => ofL_toList s)
    rw [h8] at h9
    exact h9
  · rw [List.pairwise_map]
    exact hsorted.imp (fun {a b} h9 => by
      have h8 : a ≤ b := by simpa using h9
      simpa [leN, ofL] using h8)
  · have h9 := hrow3
    rw [hst] at h9
    rw [List.length_map, List.map_map, hp1.length_eq]
    have h8 : st.map (Value.string ∘ ofL) = st.map encStr := List.map_congr_left (fun l _ => rfl)
    rw [h8]
    exact h9
end Mun
