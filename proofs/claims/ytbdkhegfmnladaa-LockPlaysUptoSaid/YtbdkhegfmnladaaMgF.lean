/- Texts of mine, one behind the other: LaysS, Lays, KeysO, LockS. -/
import Derived.Shelf.SlIter.Nil
import Derived.Shelf.SortM.Plain
import Derived.Shelf.SortM.SortNone
import Derived.Ground.GgzProg
import Derived.Ground.SlgmProg
import Derived.Test.YtbdkhegfmnladaaProg
import Derived.Shelf.Small.Bits
import Derived.Test.YtbdkhegfmnladaaMgA
section
/- Contracts of library functions laid at this dump (printed by the kit: lay-plain): slices.Sorted, slices.Sort of strings. -/
namespace Go.Proofs
open Go.Shelf
def Try.sorted37_ren : Go.Shelf.Ren := ⟨fun | 6 => 37 | 8 => 53 | 9 => 57 | 11 => 64 | 13 => 66 | 12 => 68 | 23 => 79 | 24 => 80 | 14 => 81 | 15 => 82 | 16 => 83 | 17 => 84 | 18 => 85 | 19 => 86 | 20 => 87 | 21 => 88 | 22 => 89 | 25 => 95 | 26 => 91 | 27 => 92 | 28 => 96 | 29 => 97 | 30 => 98 | 31 => 100 | n => n, fun | 26 => 9 | 28 => 84 | 24 => 81 | 0 => 0 | 3 => 3 | 37 => 124 | 48 => 135 | 50 => 29 | 4 => 4 | 40 => 129 | 39 => 128 | 45 => 72 | 5 => 5 | 9 => 9 | 51 => 143 | 55 => 147 | 57 => 151 | 58 => 152 | 33 => 115 | n => n, fun | n => n⟩
theorem Try.sorted37 : Go.Proofs.SlLaysZ.n6 Try.prog Try.sorted37_ren := {
  mixed := by kernel_rfl
  f6 := ⟨Try.f37.name, by decide, Try.func37.trans (congrArg some (by kernel_rfl))⟩
  f8 := ⟨Try.f53.name, by decide, Try.func53.trans (congrArg some (by kernel_rfl))⟩
  f11 := ⟨Try.f64.name, by decide, Try.func64.trans (congrArg some (by kernel_rfl))⟩
  t0 := Try.underlying0
  a0 := Try.isAgg0
  z0 := Try.sizeOf0
  v0 := Try.zeroValue0
  t24 := Try.underlying81
  a24 := Try.isAgg81
  z24 := Try.sizeOf81
  v24 := Try.zeroValue81
  t26 := Try.underlying9
  a26 := Try.isAgg9
  z26 := Try.sizeOf9
  v26 := Try.zeroValue9
  t28 := Try.underlying84
  a28 := Try.isAgg84
  z28 := Try.sizeOf84
  v28 := Try.zeroValue84
  i26 := by kernel_rfl }
def Try.sort57_ren : Go.Shelf.Ren := ⟨fun | 6 => 57 | 8 => 66 | 9 => 68 | 19 => 79 | 20 => 80 | 21 => 81 | 22 => 82 | 23 => 83 | 24 => 84 | 25 => 85 | 26 => 86 | 27 => 87 | 28 => 88 | 29 => 89 | 36 => 95 | 31 => 91 | 32 => 92 | 37 => 96 | 38 => 97 | 39 => 98 | 41 => 100 | n => n, fun | 27 => 81 | 29 => 9 | 3 => 3 | 32 => 124 | 26 => 81 | 0 => 0 | 44 => 135 | 46 => 29 | 4 => 4 | 36 => 129 | 35 => 128 | 41 => 72 | 5 => 5 | 9 => 9 | 53 => 143 | 57 => 147 | 63 => 151 | 64 => 152 | n => n, fun | n => n⟩
theorem Try.sort57 : Go.Proofs.SlLaysM.n6 Try.prog Try.sort57_ren := {
  mixed := by kernel_rfl
  f6 := ⟨Try.f57.name, by decide, Try.func57.trans (congrArg some (by kernel_rfl))⟩
  f8 := Try.func66.trans (congrArg some (by kernel_rfl))
  f9 := ⟨Try.f68.name, by decide, Try.func68.trans (congrArg some (by kernel_rfl))⟩
  f19 := Try.func79.trans (congrArg some (by kernel_rfl))
  f20 := Try.func80.trans (congrArg some (by kernel_rfl))
  f21 := ⟨Try.f81.name, by decide, Try.func81.trans (congrArg some (by kernel_rfl))⟩
  f22 := ⟨Try.f82.name, by decide, Try.func82.trans (congrArg some (by kernel_rfl))⟩
  f23 := ⟨Try.f83.name, by decide, Try.func83.trans (congrArg some (by kernel_rfl))⟩
  f24 := ⟨Try.f84.name, by decide, Try.func84.trans (congrArg some (by kernel_rfl))⟩
  f25 := ⟨Try.f85.name, by decide, Try.func85.trans (congrArg some (by kernel_rfl))⟩
  f26 := ⟨Try.f86.name, by decide, Try.func86.trans (congrArg some (by kernel_rfl))⟩
  f27 := ⟨Try.f87.name, by decide, Try.func87.trans (congrArg some (by kernel_rfl))⟩
  f28 := ⟨Try.f88.name, by decide, Try.func88.trans (congrArg some (by kernel_rfl))⟩
  f29 := ⟨Try.f89.name, by decide, Try.func89.trans (congrArg some (by kernel_rfl))⟩
  f31 := Try.func91.trans (congrArg some (by kernel_rfl))
  f32 := Try.func92.trans (congrArg some (by kernel_rfl))
  f36 := ⟨Try.f95.name, by decide, Try.func95.trans (congrArg some (by kernel_rfl))⟩
  f37 := ⟨Try.f96.name, by decide, Try.func96.trans (congrArg some (by kernel_rfl))⟩
  f38 := ⟨Try.f97.name, by decide, Try.func97.trans (congrArg some (by kernel_rfl))⟩
  f39 := ⟨Try.f98.name, by decide, Try.func98.trans (congrArg some (by kernel_rfl))⟩
  f41 := ⟨Try.f100.name, by decide, Try.func100.trans (congrArg some (by kernel_rfl))⟩
  t0 := Try.underlying0
  a0 := Try.isAgg0
  z0 := Try.sizeOf0
  v0 := Try.zeroValue0
  t3 := Try.underlying3
  a3 := Try.isAgg3
  z3 := Try.sizeOf3
  v3 := Try.zeroValue3
  t4 := Try.underlying4
  a4 := Try.isAgg4
  z4 := Try.sizeOf4
  v4 := Try.zeroValue4
  t5 := Try.underlying5
  a5 := Try.isAgg5
  z5 := Try.sizeOf5
  v5 := Try.zeroValue5
  t9 := Try.underlying9
  a9 := Try.isAgg9
  z9 := Try.sizeOf9
  v9 := Try.zeroValue9
  t26 := Try.underlying81
  a26 := Try.isAgg81
  z26 := Try.sizeOf81
  v26 := Try.zeroValue81
  t27 := Try.underlying81
  a27 := Try.isAgg81
  z27 := Try.sizeOf81
  v27 := Try.zeroValue81
  t29 := Try.underlying9
  a29 := Try.isAgg9
  z29 := Try.sizeOf9
  v29 := Try.zeroValue9
  t32 := Try.underlying124
  a32 := Try.isAgg124
  z32 := Try.sizeOf124
  v32 := Try.zeroValue124
  t35 := Try.underlying128
  a35 := Try.isAgg128
  z35 := Try.sizeOf128
  v35 := Try.zeroValue128
  t36 := Try.underlying129
  a36 := Try.isAgg129
  z36 := Try.sizeOf129
  v36 := Try.zeroValue129
  t41 := Try.underlying72
  a41 := Try.isAgg72
  z41 := Try.sizeOf72
  v41 := Try.zeroValue72
  t44 := Try.underlying135
  a44 := Try.isAgg135
  z44 := Try.sizeOf135
  v44 := Try.zeroValue135
  t46 := Try.underlying29
  a46 := Try.isAgg29
  z46 := Try.sizeOf29
  v46 := Try.zeroValue29
  t53 := Try.underlying143
  a53 := Try.isAgg143
  z53 := Try.sizeOf143
  v53 := Try.zeroValue143
  t57 := Try.underlying147
  a57 := Try.isAgg147
  z57 := Try.sizeOf147
  v57 := Try.zeroValue147
  t63 := Try.underlying151
  a63 := Try.isAgg151
  z63 := Try.sizeOf151
  v63 := Try.zeroValue151
  t64 := Try.underlying152
  a64 := Try.isAgg152
  z64 := Try.sizeOf152
  v64 := Try.zeroValue152 }
end Go.Proofs
end

section
/- Contracts of library functions laid at this dump (printed by the kit: lay-plain): bits.Len, maps.Keys, slices.Collect. -/
namespace Go.Proofs
open Go.Shelf
def Try.lays125_ren : Go.Shelf.Ren := ⟨fun | 125 => 66 | 128 => 79 | 129 => 80 | n => n, fun | 46 => 124 | 3 => 3 | 51 => 135 | 53 => 29 | 4 => 4 | 5 => 5 | 9 => 9 | n => n, fun | n => n⟩
theorem Try.lays125 : Go.Proofs.Lays.n125 Try.prog Try.lays125_ren := {
  mixed := by kernel_rfl
  f125 := Try.func66.trans (congrArg some (by kernel_rfl))
  f128 := Try.func79.trans (congrArg some (by kernel_rfl))
  f129 := Try.func80.trans (congrArg some (by kernel_rfl))
  t3 := Try.underlying3
  a3 := Try.isAgg3
  z3 := Try.sizeOf3
  v3 := Try.zeroValue3
  t4 := Try.underlying4
  a4 := Try.isAgg4
  z4 := Try.sizeOf4
  v4 := Try.zeroValue4
  t5 := Try.underlying5
  a5 := Try.isAgg5
  z5 := Try.sizeOf5
  v5 := Try.zeroValue5
  t9 := Try.underlying9
  a9 := Try.isAgg9
  z9 := Try.sizeOf9
  v9 := Try.zeroValue9
  t46 := Try.underlying124
  a46 := Try.isAgg124
  z46 := Try.sizeOf124
  v46 := Try.zeroValue124
  t51 := Try.underlying135
  a51 := Try.isAgg135
  z51 := Try.sizeOf135
  v51 := Try.zeroValue135
  t53 := Try.underlying29
  a53 := Try.isAgg29
  z53 := Try.sizeOf29
  v53 := Try.zeroValue29 }
def Try.keys35_ren : Go.Shelf.Ren := ⟨fun | 7 => 35 | 10 => 55 | n => n, fun | 23 => 80 | 26 => 9 | 3 => 86 | 28 => 84 | 0 => 0 | 27 => 83 | 33 => 115 | 4 => 4 | n => n, fun | n => n⟩
theorem Try.keys35 : Go.Proofs.SlLaysZ.n7 Try.prog Try.keys35_ren := {
  mixed := by kernel_rfl
  f7 := ⟨Try.f35.name, by decide, Try.func35.trans (congrArg some (by kernel_rfl))⟩
  f10 := ⟨Try.f55.name, by decide, Try.func55.trans (congrArg some (by kernel_rfl))⟩
  t0 := Try.underlying0
  a0 := Try.isAgg0
  z0 := Try.sizeOf0
  v0 := Try.zeroValue0
  t4 := Try.underlying4
  a4 := Try.isAgg4
  z4 := Try.sizeOf4
  v4 := Try.zeroValue4
  t23 := Try.underlying80
  a23 := Try.isAgg80
  z23 := Try.sizeOf80
  v23 := Try.zeroValue80
  t26 := Try.underlying9
  a26 := Try.isAgg9
  z26 := Try.sizeOf9
  v26 := Try.zeroValue9
  t27 := Try.underlying83
  a27 := Try.isAgg83
  z27 := Try.sizeOf83
  v27 := Try.zeroValue83
  t28 := Try.underlying84
  a28 := Try.isAgg84
  z28 := Try.sizeOf84
  v28 := Try.zeroValue84
  t33 := Try.underlying115
  a33 := Try.isAgg115
  z33 := Try.sizeOf115
  v33 := Try.zeroValue115 }
def Try.coll53_ren : Go.Shelf.Ren := ⟨fun | 8 => 53 | 11 => 64 | n => n, fun | 26 => 9 | 28 => 84 | 24 => 81 | 0 => 0 | 33 => 115 | 4 => 4 | n => n, fun | n => n⟩
theorem Try.coll53 : Go.Proofs.SlLaysZ.n8 Try.prog Try.coll53_ren := {
  mixed := by kernel_rfl
  f8 := ⟨Try.f53.name, by decide, Try.func53.trans (congrArg some (by kernel_rfl))⟩
  f11 := ⟨Try.f64.name, by decide, Try.func64.trans (congrArg some (by kernel_rfl))⟩
  t0 := Try.underlying0
  a0 := Try.isAgg0
  z0 := Try.sizeOf0
  v0 := Try.zeroValue0
  t24 := Try.underlying81
  a24 := Try.isAgg81
  z24 := Try.sizeOf81
  v24 := Try.zeroValue81
  t26 := Try.underlying9
  a26 := Try.isAgg9
  z26 := Try.sizeOf9
  v26 := Try.zeroValue9
  t28 := Try.underlying84
  a28 := Try.isAgg84
  z28 := Try.sizeOf84
  v28 := Try.zeroValue84
  i26 := by kernel_rfl }
end Go.Proofs
end

section
/- slices.SortedFunc(maps.Keys(m), strings.Compare) at a map of the one key "n". -/
set_option maxRecDepth 100000
set_option linter.unusedVariables false
namespace Mun
open Go Go.RowKit Go.Maps Go.Sort Go.Shelf
open Go.Proofs

abbrev strN : ByteArray := ⟨#[110]⟩
def mapN : DataW Unit := .map [(.string [110], .nil)]

theorem owns_n (w : World) (M : Nat) (h : GMap w M [(strN, .agg #[])]) : w.ownsMap (H := Unit) Try.prog 9 (fun _ => some (.nil, [])) M 1 mapN := by
  obtain ⟨l, c, ⟨h1, h2, h3, h4⟩, he⟩ := h
  obtain ⟨p, rfl⟩ : ∃ p, l = [p] := by
    have hl : l.length = 1 := by have := congrArg List.length he; simpa using this
    match l, hl with
    | [p], _ => exact ⟨p, rfl⟩
  simp only [List.map_cons, List.map_nil, List.cons.injEq, and_true] at he
  obtain ⟨⟨k, v⟩, st⟩ := p
  simp only [Prod.mk.injEq] at he
  obtain ⟨rfl, rfl⟩ := he
  have hst : st < c := h3 _ (List.mem_singleton.2 rfl)
  have hrd : Go.WideElems.rd (H := Unit) Try.prog 9 (fun _ => some (.nil, [])) ⟨.string strN, .agg #[], st⟩ = some (.string [110], .nil) := by kernel_rfl
  refine ⟨_, c, h4, ⟨by simp [gEntries]; decide, ?_, fun x hx => ?_⟩, by simp [gEntries], ?_⟩
  · refine ⟨fun x hx => ?_, by simp [gEntries], by simp [gEntries]⟩
    simp [gEntries] at hx
    subst hx
    exact hst
  · simp [gEntries] at hx
    subst hx
    exact ⟨_, hrd⟩
  · show mapN = .map (DataW.insert (Go.WideElems.rg Try.prog 9 (fun _ => some (.nil, [])) ⟨.string strN, .agg #[], st⟩) [])
    rw [Go.WideElems.rg_of hrd]
    rfl

theorem ins_one (w : World) (v f : Value) : Calls Try.prog 71 #[v, .int .i64 0, .int .i64 1, f] w fun e w' => e = .returned (.tuple #[]) ∧ w = w' := by
  go_enter Try.func71, Try.ntmps71
  go_wp2
  go_loopw [8] (fun i wr => i = .int .i64 1 ∧ w = wr) (fun _ _ => 0)
  case atStart => exact ⟨rfl, rfl⟩
  case round =>
    obtain ⟨rfl, rfl⟩ := hrel
    go_wp2
    go_end0
    exact ⟨rfl, rfl⟩
theorem pdq_one (w : World) (v f : Value) (n : Int) : Calls Try.prog 65 #[v, .int .i64 0, .int .i64 1, .int .i64 n, f] w fun e w' => e = .returned (.tuple #[]) ∧ w = w' := by
  go_enter Try.func65, Try.ntmps65
  go_wp2
  go_loopw [1, 2] (fun a b wr => a = .int .i64 0 ∧ b = .int .i64 1 ∧ w = wr) (fun _ _ _ => 0)
  case atStart => exact ⟨rfl, rfl, rfl⟩
  case round =>
    obtain ⟨rfl, rfl, rfl⟩ := hrel
    go_wp2_with fail
    refine (ins_one w v f).mono ?_
    rintro e w' ⟨rfl, rfl⟩
    go_wp2
    exact bodyPost_ret (v := .tuple #[]) (by simp [results, Try.results65, go_sem]; try rfl) rfl ⟨rfl, rfl⟩
theorem sortf_one (w : World) (a : Option Addr) (c : Nat) (f : Value) : Calls Try.prog 54 #[.slice a 1 c, f] w fun e w' => e = .returned (.tuple #[]) ∧ w = w' := by
  have hb := Any.bits_Len Try.lays125 1 w (by decide) (by decide)
  change Calls Try.prog 66 _ _ _ at hb
  go_enter Try.func54, Try.ntmps54
  go_wp2_with fail
  refine hb.mono ?_
  rintro e w' ⟨rfl, rfl⟩
  go_wp2_with fail
  refine (pdq_one _ _ _ _).mono ?_
  rintro e w' ⟨rfl, rfl⟩
  go_wp2
  go_end0
  exact ⟨rfl, rfl⟩

theorem keys_any (mb : Option Nat) (w : World) : Calls Try.prog 35 #[.map mb] w fun e w' => e = .returned (.func (.func 55) #[] #[.pointer (some ⟨w.heap.size, 0, none⟩)]) ∧ w' = w.alloc (.cells #[.map mb] 80) :=
  (callsIn_wide (n := 5)).1 (AnyZ.keys_in Try.keys35 Fence.wide 5 trivial rfl mb w)

/-- the one key, collected -/
theorem collect_n (w : World) (M : Nat) (h : GMap w M [(strN, .agg #[])]) :
    Calls Try.prog 53 #[.func (.func 55) #[] #[.pointer (some ⟨w.heap.size, 0, none⟩)]] (w.alloc (.cells #[.map (some M)] 80)) fun e w' =>
      ∃ g c, e = .returned (.slice (some ⟨g, 0, none⟩) 1 c) ∧ w'.cell? ⟨g, 0, none⟩ = some (.string strN) ∧ Below w.heap.size w w' := by
  have hown := owns_n w M h
  have hbl := hown.lt
  have hseq : SeqGives Fence.wide 3 Try.prog 55 #[.pointer (some ⟨w.heap.size, 0, none⟩)] encStr (fun ss => ss.Perm (strKeys mapN)) (Maps.size mapN) (w.alloc (.cells #[.map (some M)] 80)) :=
    AnyZ.keys_gives (ρ := Try.keys35_ren) { Try.keys35 with } Fence.wide _ trivial rfl (by omega) w.heap.size M 1 mapN _ (by simp) (by simp) (by
      obtain ⟨es, clock, hb, Ft, hs, hD⟩ := hown
      exact ⟨es, clock, (Below.heap_alloc _ _ M hbl).trans hb, Ft, hs, hD⟩)
  refine ((callsIn_wide (n := 5)).1 (AnyZ.collect_in Try.coll53 Fence.wide 5 trivial trivial rfl (by omega) 55 _ trivial (enters_of Try.func55 (by kernel_rfl) rfl) _ _ (by decide) (by decide) _ hseq)).mono ?_
  rintro e w' ⟨v, ss, rfl, hS, hrow, hnil, hb⟩
  have hss : ss = [[110]] := List.perm_singleton.1 hS
  subst hss
  rcases hrow.2 with ⟨rfl, h0⟩ | ⟨g, cap, cur, rfl, hbg, hg, h1, h2, h3, h4⟩
  · simp at h0
  · refine ⟨g, cap, rfl, ?_, ((Below.refl _ w).alloc (Nat.le_refl _) _).trans (hb.mono (by simp))⟩
    rw [cell_of_row w' g 0 cur _ _ hg, ← Array.getElem?_toList]
    have h5 := congrArg (fun l => l[0]?) h4
    simp [encStr] at h5
    rw [Array.getElem?_toList]
    exact h5

/-- SortedFunc over the keys of such a map -/
theorem sorted_n (w : World) (M : Nat) (h : GMap w M [(strN, .agg #[])]) (f : Value) :
    Calls Try.prog 34 #[.func (.func 55) #[] #[.pointer (some ⟨w.heap.size, 0, none⟩)], f] (w.alloc (.cells #[.map (some M)] 80)) fun e w' =>
      ∃ g c, e = .returned (.slice (some ⟨g, 0, none⟩) 1 c) ∧ w'.cell? ⟨g, 0, none⟩ = some (.string strN) ∧ Below w.heap.size w w' := by
  have hc := collect_n w M h
  have HC := Lib.hid hc
  clear hc
  go_enter Try.func34, Try.ntmps34
  go_wp2_with fail
  refine HC.out.mono ?_
  rintro e w2 ⟨g, c, rfl, hg, hb⟩
  go_wp2_with fail
  refine (sortf_one _ _ _ _).mono ?_
  rintro e w3 ⟨rfl, rfl⟩
  go_wp2
  go_ret
  exact ⟨g, c, rfl, hg, hb⟩
end Mun
end

section
/- slices.Sorted(maps.Keys(m)) at a map of one key. -/
set_option maxRecDepth 100000
set_option linter.unusedVariables false
namespace Mun
open Go Go.RowKit Go.Maps Go.Sort Go.Shelf
open Go.Proofs

/-- slices.Sort's two contracts at this dump -/
theorem sorts_in (m : Nat) : AnyZ.SortsIn Try.prog Try.sorted37_ren Fence.wide m :=
  ⟨fun blk off cap ss W hH hblk hsz => callsIn_wide.2 (AnyM.slices_Sort_string Try.sort57 blk off cap ss W hH hblk hsz),
   fun p cap W => callsIn_wide.2 (AnyM.slices_Sort_string_none Try.sort57 p cap W)⟩

/-- of whatever map: its keys, sorted -/
theorem sorted_keys {H : Type} (b nn : Nat) (D0 : DataW H) (R : Value → Option (DataW H × List MemPlace)) (w : World) (hown : w.ownsMap Try.prog 9 R b nn D0) (hmax : Maps.size D0 ≤ maxLen) (hbytes : Maps.size D0 * 16 ≤ 140737488355328) :
    Calls Try.prog 37 #[.func (.func 55) #[] #[.pointer (some ⟨w.heap.size, 0, none⟩)]] (w.alloc (.cells #[.map (some b)] 80)) fun e w' => ∃ (v : Value) (ss : List (List UInt8)), e = .returned v ∧ ss.Perm (strKeys D0) ∧
      w'.ownsRow (w.alloc (.cells #[.map (some b)] 80)).heap.size 9 1 v ss.length ((ss.mergeSort (fun x y => decide (x ≤ y))).map encStr) ∧ (v = .slice none 0 0 ↔ ss = []) ∧ Below (w.alloc (.cells #[.map (some b)] 80)).heap.size (w.alloc (.cells #[.map (some b)] 80)) w' := by
  have hbl := hown.lt
  have hseq : SeqGives Fence.wide 2 Try.prog 55 #[.pointer (some ⟨w.heap.size, 0, none⟩)] encStr (fun ss => ss.Perm (strKeys D0)) (Maps.size D0) (w.alloc (.cells #[.map (some b)] 80)) :=
    AnyZ.keys_gives (ρ := Try.keys35_ren) { Try.keys35 with } Fence.wide _ trivial rfl (by omega) w.heap.size b nn D0 _ (by simp) (by simp) (by
      obtain ⟨es, clock, hb, Ft, hs, hD⟩ := hown
      exact ⟨es, clock, (Below.heap_alloc _ _ b hbl).trans hb, Ft, hs, hD⟩)
  exact (callsIn_wide (n := 5)).1 (AnyZ.sorted_in Try.sorted37 Fence.wide 5 trivial trivial trivial trivial rfl (by omega) (sorts_in _) (enters_of Try.func57 (by kernel_rfl) rfl) 55 #[.pointer (some ⟨w.heap.size, 0, none⟩)] trivial (enters_of Try.func55 (by kernel_rfl) rfl) _ _ hmax hbytes _ hseq)

def map1 (s : ByteArray) : DataW Unit := .map [(.string s.data.toList, .nil)]

theorem owns_one (w : World) (M : Nat) (s : ByteArray) (hs : s.size ≤ maxLen) (h : GMap w M [(s, .agg #[])]) : w.ownsMap (H := Unit) Try.prog 9 (fun _ => some (.nil, [])) M 1 (map1 s) := by
  obtain ⟨l, c, ⟨h1, h2, h3, h4⟩, he⟩ := h
  obtain ⟨p, rfl⟩ : ∃ p, l = [p] := by
    have hl : l.length = 1 := by have := congrArg List.length he; simpa using this
    match l, hl with
    | [p], _ => exact ⟨p, rfl⟩
  simp only [List.map_cons, List.map_nil, List.cons.injEq, and_true] at he
  obtain ⟨⟨k, v⟩, st⟩ := p
  simp only [Prod.mk.injEq] at he
  obtain ⟨rfl, rfl⟩ := he
  have hst : st < c := h3 _ (List.mem_singleton.2 rfl)
  have hrd : Go.WideElems.rd (H := Unit) Try.prog 9 (fun _ => some (.nil, [])) ⟨.string k, .agg #[], st⟩ = some (.string k.data.toList, .nil) := by
    have hk := keyOf_string (P := Try.prog) Try.underlying9 (.string k)
    simp [Go.WideElems.rd, hk, mapKey, Try.underlying9, hs]
  refine ⟨_, c, h4, ⟨by simp [gEntries]; decide, ?_, fun x hx => ?_⟩, by simp [gEntries], ?_⟩
  · refine ⟨fun x hx => ?_, by simp [gEntries], by simp [gEntries]⟩
    simp [gEntries] at hx
    subst hx
    exact hst
  · simp [gEntries] at hx
    subst hx
    exact ⟨_, hrd⟩
  · show map1 k = .map (DataW.insert (Go.WideElems.rg Try.prog 9 (fun _ => some (.nil, [])) ⟨.string k, .agg #[], st⟩) [])
    rw [Go.WideElems.rg_of hrd]
    rfl

theorem enc_str (s : ByteArray) : encStr s.data.toList = .string s := by
  show Value.string ⟨s.data.toList.toArray⟩ = _
  cases s
  simp

/-- the one key, collected and sorted -/
theorem sorted_one (w : World) (M : Nat) (s : ByteArray) (hs : s.size ≤ maxLen) (h : GMap w M [(s, .agg #[])]) :
    Calls Try.prog 37 #[.func (.func 55) #[] #[.pointer (some ⟨w.heap.size, 0, none⟩)]] (w.alloc (.cells #[.map (some M)] 80)) fun e w' =>
      ∃ g c, e = .returned (.slice (some ⟨g, 0, none⟩) 1 c) ∧ w'.cell? ⟨g, 0, none⟩ = some (.string s) ∧ g < w'.heap.size ∧ w.heap.size ≤ g ∧ Below w.heap.size w w' := by
  refine (sorted_keys M 1 (map1 s) _ w (owns_one w M s hs h) (by show 1 ≤ maxLen; decide) (by show 1 * 16 ≤ _; decide)).mono ?_
  rintro e w' ⟨v, ss, rfl, hS, hrow, hnil, hb⟩
  have hss : ss = [s.data.toList] := List.perm_singleton.1 hS
  subst hss
  rcases hrow.2 with ⟨rfl, h0⟩ | ⟨g, cap, cur, rfl, hbg, hg, h1, h2, h3, h4⟩
  · simp at h0
  · refine ⟨g, cap, rfl, ?_, lt_of_block hg, ?_, ((Below.refl _ w).alloc (Nat.le_refl _) _).trans (hb.mono (by simp))⟩
    · rw [cell_of_row w' g 0 cur _ _ hg, ← Array.getElem?_toList]
      have h5 := congrArg (fun l => l[0]?) h4
      simp [enc_str] at h5
      rw [Array.getElem?_toList]
      exact h5
    · simp at hbg; omega
end Mun
end
