/- slices.SortedFunc(maps.Keys(m), strings.Compare) at a map of the one key "n". -/
import Derived.Test.YtbdkhegfmnladaaLays
import Derived.Test.YtbdkhegfmnladaaMapG
import Derived.Test.YtbdkhegfmnladaaLaw
set_option maxRecDepth 100000
set_option linter.unusedVariables false
namespace Mun
open Go Go.RowKit Go.Maps Go.Sort Go.Shelf
open Go.Proofs

abbrev strN : ByteArray := ⟨#[110]⟩
def mapN : DataW Unit := .map [(.string [110], .nil)]

theorem owns_n (w : World) (M : Nat) (h : GMap w M [(strN, .agg #[])]) : w.ownsMap (H := Unit) Try.prog 9 (fun _ => some (.nil, [])) M 1 mapN := by
  obtain ⟨l, c, ⟨h1, h2, h3, h4⟩, he⟩ := h
  obtain ⟨p, rfl⟩ : ∃ p, l = [p] := by
    have hl : l.length = 1 := by have := congrArg List.length he; simpa using this
    match l, hl with
    | [p], _ => exact ⟨p, rfl⟩
  simp only [List.map_cons, List.map_nil, List.cons.injEq, and_true] at he
  obtain ⟨⟨k, v⟩, st⟩ := p
  simp only [Prod.mk.injEq] at he
  obtain ⟨rfl, rfl⟩ := he
  have hst : st < c := h3 _ (List.mem_singleton.2 rfl)
  have hrd : Go.WideElems.rd (H := Unit) Try.prog 9 (fun _ => some (.nil, [])) ⟨.string strN, .agg #[], st⟩ = some (.string [110], .nil) := by kernel_rfl
  refine ⟨_, c, h4, ⟨by simp [gEntries]; decide, ?_, fun x hx => ?_⟩, by simp [gEntries], ?_⟩
  · refine ⟨fun x hx => ?_, by simp [gEntries], by simp [gEntries]⟩
    simp [gEntries] at hx
    subst hx
    exact hst
  · simp [gEntries] at hx
    subst hx
    exact ⟨_, hrd⟩
  · show mapN = .map (DataW.insert (Go.WideElems.rg Try.prog 9 (fun _ => some (.nil, [])) ⟨.string strN, .agg #[], st⟩) [])
    rw [Go.WideElems.rg_of hrd]
    rfl

theorem ins_one (w : World) (v f : Value) : Calls Try.prog 71 #[v, .int .i64 0, .int .i64 1, f] w fun e w' => e = .returned (.tuple #[]) ∧ w = w' := by
  go_enter Try.func71, Try.ntmps71
  go_wp2
  go_loopw [8] (fun i wr => i = .int .i64 1 ∧ w = wr) (fun _ _ => 0)
  case atStart => exact ⟨rfl, rfl⟩
  case round =>
    obtain ⟨rfl, rfl⟩ := hrel
    go_wp2
    go_end0
    exact ⟨rfl, rfl⟩
theorem pdq_one (w : World) (v f : Value) (n : Int) : Calls Try.prog 65 #[v, .int .i64 0, .int .i64 1, .int .i64 n, f] w fun e w' => e = .returned (.tuple #[]) ∧ w = w' := by
  go_enter Try.func65, Try.ntmps65
  go_wp2
  go_loopw [1, 2] (fun a b wr => a = .int .i64 0 ∧ b = .int .i64 1 ∧ w = wr) (fun _ _ _ => 0)
  case atStart => exact ⟨rfl, rfl, rfl⟩
  case round =>
    obtain ⟨rfl, rfl, rfl⟩ := hrel
    go_wp2_with fail
    refine (ins_one w v f).mono ?_
    rintro e w' ⟨rfl, rfl⟩
    go_wp2
    exact bodyPost_ret (v := .tuple #[]) (by simp [results, Try.results65, go_sem]; try rfl) rfl ⟨rfl, rfl⟩
theorem sortf_one (w : World) (a : Option Addr) (c : Nat) (f : Value) : Calls Try.prog 54 #[.slice a 1 c, f] w fun e w' => e = .returned (.tuple #[]) ∧ w = w' := by
  have hb := Any.bits_Len Try.lays125 1 w (by decide) (by decide)
  change Calls Try.prog 66 _ _ _ at hb
  go_enter Try.func54, Try.ntmps54
  go_wp2_with fail
  refine hb.mono ?_
  rintro e w' ⟨rfl, rfl⟩
  go_wp2_with fail
  refine (pdq_one _ _ _ _).mono ?_
  rintro e w' ⟨rfl, rfl⟩
  go_wp2
  go_end0
  exact ⟨rfl, rfl⟩

theorem keys_any (mb : Option Nat) (w : World) : Calls Try.prog 35 #[.map mb] w fun e w' => e = .returned (.func (.func 55) #[] #[.pointer (some ⟨w.heap.size, 0, none⟩)]) ∧ w' = w.alloc (.cells #[.map mb] 80) :=
  (callsIn_wide (n := 5)).1 (AnyZ.keys_in Try.keys35 Fence.wide 5 trivial rfl mb w)

/-- the one key, collected -/
theorem collect_n (w : World) (M : Nat) (h : GMap w M [(strN, .agg #[])]) :
    Calls Try.prog 53 #[.func (.func 55) #[] #[.pointer (some ⟨w.heap.size, 0, none⟩)]] (w.alloc (.cells #[.map (some M)] 80)) fun e w' =>
      ∃ g c, e = .returned (.slice (some ⟨g, 0, none⟩) 1 c) ∧ w'.cell? ⟨g, 0, none⟩ = some (.string strN) ∧ Below w.heap.size w w' := by
  have hown := owns_n w M h
  have hbl := hown.lt
  have hseq : SeqGives Fence.wide 3 Try.prog 55 #[.pointer (some ⟨w.heap.size, 0, none⟩)] encStr (fun ss => ss.Perm (strKeys mapN)) (Maps.size mapN) (w.alloc (.cells #[.map (some M)] 80)) :=
    AnyZ.keys_gives (ρ := Try.keys35_ren) { Try.keys35 with } Fence.wide _ trivial rfl (by omega) w.heap.size M 1 mapN _ (by simp) (by simp) (by
      obtain ⟨es, clock, hb, Ft, hs, hD⟩ := hown
      exact ⟨es, clock, (Below.heap_alloc _ _ M hbl).trans hb, Ft, hs, hD⟩)
  refine ((callsIn_wide (n := 5)).1 (AnyZ.collect_in Try.coll53 Fence.wide 5 trivial trivial rfl (by omega) 55 _ trivial (enters_of Try.func55 (by kernel_rfl) rfl) _ _ (by decide) (by decide) _ hseq)).mono ?_
  rintro e w' ⟨v, ss, rfl, hS, hrow, hnil, hb⟩
  have hss : ss = [[110]] := List.perm_singleton.1 hS
  subst hss
  rcases hrow.2 with ⟨rfl, h0⟩ | ⟨g, cap, cur, rfl, hbg, hg, h1, h2, h3, h4⟩
  · simp at h0
  · refine ⟨g, cap, rfl, ?_, ((Below.refl _ w).alloc (Nat.le_refl _) _).trans (hb.mono (by simp))⟩
    rw [cell_of_row w' g 0 cur _ _ hg, ← Array.getElem?_toList]
    have h5 := congrArg (fun l => l[0]?) h4
    simp [encStr] at h5
    rw [Array.getElem?_toList]
    exact h5

/-- SortedFunc over the keys of such a map -/
theorem sorted_n (w : World) (M : Nat) (h : GMap w M [(strN, .agg #[])]) (f : Value) :
    Calls Try.prog 34 #[.func (.func 55) #[] #[.pointer (some ⟨w.heap.size, 0, none⟩)], f] (w.alloc (.cells #[.map (some M)] 80)) fun e w' =>
      ∃ g c, e = .returned (.slice (some ⟨g, 0, none⟩) 1 c) ∧ w'.cell? ⟨g, 0, none⟩ = some (.string strN) ∧ Below w.heap.size w w' := by
  have hc := collect_n w M h
  have HC := Lib.hid hc
  clear hc
  go_enter Try.func34, Try.ntmps34
  go_wp2_with fail
  refine HC.out.mono ?_
  rintro e w2 ⟨g, c, rfl, hg, hb⟩
  go_wp2_with fail
  refine (sortf_one _ _ _ _).mono ?_
  rintro e w3 ⟨rfl, rfl⟩
  go_wp2
  go_ret
  exact ⟨g, c, rfl, hg, hb⟩
end Mun
