/- slices.Sorted(maps.Keys(m)) at a map of one key. -/
import Derived.Test.YtbdkhegfmnladaaLaysS
import Derived.Test.YtbdkhegfmnladaaKeysO
set_option maxRecDepth 100000
set_option linter.unusedVariables false
namespace Mun
open Go Go.RowKit Go.Maps Go.Sort Go.Shelf
open Go.Proofs

/-- slices.Sort's two contracts at this dump -/
theorem sorts_in (m : Nat) : AnyZ.SortsIn Try.prog Try.sorted37_ren Fence.wide m :=
  ⟨fun blk off cap ss W hH hblk hsz => callsIn_wide.2 (AnyM.slices_Sort_string Try.sort57 blk off cap ss W hH hblk hsz),
   fun p cap W => callsIn_wide.2 (AnyM.slices_Sort_string_none Try.sort57 p cap W)⟩

/-- of whatever map: its keys, sorted -/
theorem sorted_keys {H : Type} (b nn : Nat) (D0 : DataW H) (R : Value → Option (DataW H × List MemPlace)) (w : World) (hown : w.ownsMap Try.prog 9 R b nn D0) (hmax : Maps.size D0 ≤ maxLen) (hbytes : Maps.size D0 * 16 ≤ 140737488355328) :
    Calls Try.prog 37 #[.func (.func 55) #[] #[.pointer (some ⟨w.heap.size, 0, none⟩)]] (w.alloc (.cells #[.map (some b)] 80)) fun e w' => ∃ (v : Value) (ss : List (List UInt8)), e = .returned v ∧ ss.Perm (strKeys D0) ∧
      w'.ownsRow (w.alloc (.cells #[.map (some b)] 80)).heap.size 9 1 v ss.length ((ss.mergeSort (fun x y => decide (x ≤ y))).map encStr) ∧ (v = .slice none 0 0 ↔ ss = []) ∧ Below (w.alloc (.cells #[.map (some b)] 80)).heap.size (w.alloc (.cells #[.map (some b)] 80)) w' := by
  have hbl := hown.lt
  have hseq : SeqGives Fence.wide 2 Try.prog 55 #[.pointer (some ⟨w.heap.size, 0, none⟩)] encStr (fun ss => ss.Perm (strKeys D0)) (Maps.size D0) (w.alloc (.cells #[.map (some b)] 80)) :=
    AnyZ.keys_gives (ρ := Try.keys35_ren) { Try.keys35 with } Fence.wide _ trivial rfl (by omega) w.heap.size b nn D0 _ (by simp) (by simp) (by
      obtain ⟨es, clock, hb, Ft, hs, hD⟩ := hown
      exact ⟨es, clock, (Below.heap_alloc _ _ b hbl).trans hb, Ft, hs, hD⟩)
  exact (callsIn_wide (n := 5)).1 (AnyZ.sorted_in Try.sorted37 Fence.wide 5 trivial trivial trivial trivial rfl (by omega) (sorts_in _) (enters_of Try.func57 (by kernel_rfl) rfl) 55 #[.pointer (some ⟨w.heap.size, 0, none⟩)] trivial (enters_of Try.func55 (by kernel_rfl) rfl) _ _ hmax hbytes _ hseq)

def map1 (s : ByteArray) : DataW Unit := .map [(.string s.data.toList, .nil)]

theorem owns_one (w : World) (M : Nat) (s : ByteArray) (hs : s.size ≤ maxLen) (h : GMap w M [(s, .agg #[])]) : w.ownsMap (H := Unit) Try.prog 9 (fun _ => some (.nil, [])) M 1 (map1 s) := by
  obtain ⟨l, c, ⟨h1, h2, h3, h4⟩, he⟩ := h
  obtain ⟨p, rfl⟩ : ∃ p, l = [p] := by
    have hl : l.length = 1 := by have := congrArg List.length he; simpa using this
    match l, hl with
    | [p], _ => exact ⟨p, rfl⟩
  simp only [List.map_cons, List.map_nil, List.cons.injEq, and_true] at he
  obtain ⟨⟨k, v⟩, st⟩ := p
  simp only [Prod.mk.injEq] at he
  obtain ⟨rfl, rfl⟩ := he
  have hst : st < c := h3 _ (List.mem_singleton.2 rfl)
  have hrd : Go.WideElems.rd (H := Unit) Try.prog 9 (fun _ => some (.nil, [])) ⟨.string k, .agg #[], st⟩ = some (.string k.data.toList, .nil) := by
    have hk := keyOf_string (P := Try.prog) Try.underlying9 (.string k)
    simp [Go.WideElems.rd, hk, mapKey, Try.underlying9, hs]
  refine ⟨_, c, h4, ⟨by simp [gEntries]; decide, ?_, fun x hx => ?_⟩, by simp [gEntries], ?_⟩
  · refine ⟨fun x hx => ?_, by simp [gEntries], by simp [gEntries]⟩
    simp [gEntries] at hx
    subst hx
    exact hst
  · simp [gEntries] at hx
    subst hx
    exact ⟨_, hrd⟩
  · show map1 k = .map (DataW.insert (Go.WideElems.rg Try.prog 9 (fun _ => some (.nil, [])) ⟨.string k, .agg #[], st⟩) [])
    rw [Go.WideElems.rg_of hrd]
    rfl

theorem enc_str (s : ByteArray) : encStr s.data.toList = .string s := by
  show Value.string ⟨s.data.toList.toArray⟩ = _
  cases s
  simp

/-- the one key, collected and sorted -/
theorem sorted_one (w : World) (M : Nat) (s : ByteArray) (hs : s.size ≤ maxLen) (h : GMap w M [(s, .agg #[])]) :
    Calls Try.prog 37 #[.func (.func 55) #[] #[.pointer (some ⟨w.heap.size, 0, none⟩)]] (w.alloc (.cells #[.map (some M)] 80)) fun e w' =>
      ∃ g c, e = .returned (.slice (some ⟨g, 0, none⟩) 1 c) ∧ w'.cell? ⟨g, 0, none⟩ = some (.string s) ∧ g < w'.heap.size ∧ w.heap.size ≤ g ∧ Below w.heap.size w w' := by
  refine (sorted_keys M 1 (map1 s) _ w (owns_one w M s hs h) (by show 1 ≤ maxLen; decide) (by show 1 * 16 ≤ _; decide)).mono ?_
  rintro e w' ⟨v, ss, rfl, hS, hrow, hnil, hb⟩
  have hss : ss = [s.data.toList] := List.perm_singleton.1 hS
  subst hss
  rcases hrow.2 with ⟨rfl, h0⟩ | ⟨g, cap, cur, rfl, hbg, hg, h1, h2, h3, h4⟩
  · simp at h0
  · refine ⟨g, cap, rfl, ?_, lt_of_block hg, ?_, ((Below.refl _ w).alloc (Nat.le_refl _) _).trans (hb.mono (by simp))⟩
    · rw [cell_of_row w' g 0 cur _ _ hg, ← Array.getElem?_toList]
      have h5 := congrArg (fun l => l[0]?) h4
      simp [enc_str] at h5
      rw [Array.getElem?_toList]
      exact h5
    · simp at hbg; omega
end Mun
