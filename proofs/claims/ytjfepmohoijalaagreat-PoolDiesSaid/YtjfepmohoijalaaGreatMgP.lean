/- Texts of mine, one behind the other: LaysI, KeysI, PlF. -/
import Derived.Shelf.SlIterI.Nil
import Derived.Shelf.SortM.Plain
import Derived.Shelf.SortM.SortNone
import Derived.Ground.GgzProg
import Derived.Ground.SlgmProg
import Derived.Test.YtjfepmohoijalaaGreatProg
import Derived.Test.YtjfepmohoijalaaGreatMgA
import Derived.Test.YtjfepmohoijalaaGreatMgO
section
/- Contracts of library functions laid at this dump (printed by the kit: lay-plain): slices.Sorted, slices.Sort of ints, maps.Keys of a pool's two maps. -/
namespace Go.Proofs
open Go.Shelf
def Tryz.keys64_ren : Go.Shelf.Ren := ⟨fun | 7 => 64 | 10 => 97 | n => n, fun | 23 => 97 | 26 => 3 | 3 => 3 | 28 => 132 | 0 => 0 | 27 => 131 | 33 => 117 | 4 => 4 | n => n, fun | n => n⟩
theorem Tryz.keys64 : Go.Proofs.SlLaysZI.n7 Tryz.prog Tryz.keys64_ren := {
  mixed := by kernel_rfl
  f7 := ⟨Tryz.f64.name, by decide, Tryz.func64.trans (congrArg some (by kernel_rfl))⟩
  f10 := ⟨Tryz.f97.name, by decide, Tryz.func97.trans (congrArg some (by kernel_rfl))⟩
  t0 := Tryz.underlying0
  a0 := Tryz.isAgg0
  z0 := Tryz.sizeOf0
  v0 := Tryz.zeroValue0
  t4 := Tryz.underlying4
  a4 := Tryz.isAgg4
  z4 := Tryz.sizeOf4
  v4 := Tryz.zeroValue4
  t23 := Tryz.underlying97
  a23 := Tryz.isAgg97
  z23 := Tryz.sizeOf97
  v23 := Tryz.zeroValue97
  t26 := Tryz.underlying3
  a26 := Tryz.isAgg3
  z26 := Tryz.sizeOf3
  v26 := Tryz.zeroValue3
  t27 := Tryz.underlying131
  a27 := Tryz.isAgg131
  z27 := Tryz.sizeOf131
  v27 := Tryz.zeroValue131
  t28 := Tryz.underlying132
  a28 := Tryz.isAgg132
  z28 := Tryz.sizeOf132
  v28 := Tryz.zeroValue132
  t33 := Tryz.underlying117
  a33 := Tryz.isAgg117
  z33 := Tryz.sizeOf117
  v33 := Tryz.zeroValue117 }
def Tryz.keys65_ren : Go.Shelf.Ren := ⟨fun | 7 => 65 | 10 => 98 | n => n, fun | 23 => 98 | 26 => 3 | 3 => 111 | 28 => 132 | 0 => 0 | 27 => 131 | 33 => 117 | 4 => 4 | n => n, fun | n => n⟩
theorem Tryz.keys65 : Go.Proofs.SlLaysZI.n7 Tryz.prog Tryz.keys65_ren := {
  mixed := by kernel_rfl
  f7 := ⟨Tryz.f65.name, by decide, Tryz.func65.trans (congrArg some (by kernel_rfl))⟩
  f10 := ⟨Tryz.f98.name, by decide, Tryz.func98.trans (congrArg some (by kernel_rfl))⟩
  t0 := Tryz.underlying0
  a0 := Tryz.isAgg0
  z0 := Tryz.sizeOf0
  v0 := Tryz.zeroValue0
  t4 := Tryz.underlying4
  a4 := Tryz.isAgg4
  z4 := Tryz.sizeOf4
  v4 := Tryz.zeroValue4
  t23 := Tryz.underlying98
  a23 := Tryz.isAgg98
  z23 := Tryz.sizeOf98
  v23 := Tryz.zeroValue98
  t26 := Tryz.underlying3
  a26 := Tryz.isAgg3
  z26 := Tryz.sizeOf3
  v26 := Tryz.zeroValue3
  t27 := Tryz.underlying131
  a27 := Tryz.isAgg131
  z27 := Tryz.sizeOf131
  v27 := Tryz.zeroValue131
  t28 := Tryz.underlying132
  a28 := Tryz.isAgg132
  z28 := Tryz.sizeOf132
  v28 := Tryz.zeroValue132
  t33 := Tryz.underlying117
  a33 := Tryz.isAgg117
  z33 := Tryz.sizeOf117
  v33 := Tryz.zeroValue117 }
def Tryz.sorted63_ren : Go.Shelf.Ren := ⟨fun | 6 => 63 | 8 => 95 | 9 => 96 | 11 => 106 | 13 => 108 | 12 => 107 | 23 => 123 | 24 => 124 | 14 => 114 | 15 => 115 | 16 => 116 | 17 => 117 | 18 => 118 | 19 => 119 | 20 => 120 | 21 => 121 | 22 => 122 | 25 => 131 | 26 => 132 | 27 => 133 | 28 => 134 | 29 => 135 | 30 => 136 | 31 => 137 | n => n, fun | 26 => 3 | 28 => 132 | 24 => 80 | 0 => 0 | 3 => 3 | 37 => 136 | 48 => 128 | 50 => 34 | 4 => 4 | 40 => 181 | 39 => 180 | 45 => 102 | 5 => 5 | 9 => 9 | 51 => 195 | 55 => 198 | 57 => 200 | 58 => 121 | 33 => 117 | n => n, fun | n => n⟩
theorem Tryz.sorted63 : Go.Proofs.SlLaysZI.n6 Tryz.prog Tryz.sorted63_ren := {
  mixed := by kernel_rfl
  f6 := ⟨Tryz.f63.name, by decide, Tryz.func63.trans (congrArg some (by kernel_rfl))⟩
  f8 := ⟨Tryz.f95.name, by decide, Tryz.func95.trans (congrArg some (by kernel_rfl))⟩
  f11 := ⟨Tryz.f106.name, by decide, Tryz.func106.trans (congrArg some (by kernel_rfl))⟩
  t0 := Tryz.underlying0
  a0 := Tryz.isAgg0
  z0 := Tryz.sizeOf0
  v0 := Tryz.zeroValue0
  t24 := Tryz.underlying80
  a24 := Tryz.isAgg80
  z24 := Tryz.sizeOf80
  v24 := Tryz.zeroValue80
  t26 := Tryz.underlying3
  a26 := Tryz.isAgg3
  z26 := Tryz.sizeOf3
  v26 := Tryz.zeroValue3
  t28 := Tryz.underlying132
  a28 := Tryz.isAgg132
  z28 := Tryz.sizeOf132
  v28 := Tryz.zeroValue132
  i26 := by kernel_rfl }
def Tryz.sort96_ren : Go.Shelf.Ren := ⟨fun | 5 => 96 | 8 => 108 | 7 => 107 | 19 => 123 | 20 => 124 | 10 => 114 | 11 => 115 | 12 => 116 | 13 => 117 | 14 => 118 | 15 => 119 | 16 => 120 | 17 => 121 | 18 => 122 | 30 => 131 | 31 => 132 | 32 => 133 | 33 => 134 | 34 => 135 | 35 => 136 | 40 => 137 | n => n, fun | 23 => 80 | 25 => 3 | 3 => 3 | 32 => 136 | 22 => 80 | 0 => 0 | 44 => 128 | 46 => 34 | 4 => 4 | 36 => 181 | 35 => 180 | 41 => 102 | 5 => 5 | 9 => 9 | 53 => 195 | 57 => 198 | 63 => 200 | 64 => 121 | n => n, fun | n => n⟩
theorem Tryz.sort96 : Go.Proofs.SlLaysM.n5 Tryz.prog Tryz.sort96_ren := {
  mixed := by kernel_rfl
  f5 := ⟨Tryz.f96.name, by decide, Tryz.func96.trans (congrArg some (by kernel_rfl))⟩
  f7 := ⟨Tryz.f107.name, by decide, Tryz.func107.trans (congrArg some (by kernel_rfl))⟩
  f8 := Tryz.func108.trans (congrArg some (by kernel_rfl))
  f10 := ⟨Tryz.f114.name, by decide, Tryz.func114.trans (congrArg some (by kernel_rfl))⟩
  f11 := ⟨Tryz.f115.name, by decide, Tryz.func115.trans (congrArg some (by kernel_rfl))⟩
  f12 := ⟨Tryz.f116.name, by decide, Tryz.func116.trans (congrArg some (by kernel_rfl))⟩
  f13 := ⟨Tryz.f117.name, by decide, Tryz.func117.trans (congrArg some (by kernel_rfl))⟩
  f14 := ⟨Tryz.f118.name, by decide, Tryz.func118.trans (congrArg some (by kernel_rfl))⟩
  f15 := ⟨Tryz.f119.name, by decide, Tryz.func119.trans (congrArg some (by kernel_rfl))⟩
  f16 := ⟨Tryz.f120.name, by decide, Tryz.func120.trans (congrArg some (by kernel_rfl))⟩
  f17 := ⟨Tryz.f121.name, by decide, Tryz.func121.trans (congrArg some (by kernel_rfl))⟩
  f18 := ⟨Tryz.f122.name, by decide, Tryz.func122.trans (congrArg some (by kernel_rfl))⟩
  f19 := Tryz.func123.trans (congrArg some (by kernel_rfl))
  f20 := Tryz.func124.trans (congrArg some (by kernel_rfl))
  f30 := ⟨Tryz.f131.name, by decide, Tryz.func131.trans (congrArg some (by kernel_rfl))⟩
  f31 := Tryz.func132.trans (congrArg some (by kernel_rfl))
  f32 := Tryz.func133.trans (congrArg some (by kernel_rfl))
  f33 := ⟨Tryz.f134.name, by decide, Tryz.func134.trans (congrArg some (by kernel_rfl))⟩
  f34 := ⟨Tryz.f135.name, by decide, Tryz.func135.trans (congrArg some (by kernel_rfl))⟩
  f35 := ⟨Tryz.f136.name, by decide, Tryz.func136.trans (congrArg some (by kernel_rfl))⟩
  f40 := ⟨Tryz.f137.name, by decide, Tryz.func137.trans (congrArg some (by kernel_rfl))⟩
  t0 := Tryz.underlying0
  a0 := Tryz.isAgg0
  z0 := Tryz.sizeOf0
  v0 := Tryz.zeroValue0
  t3 := Tryz.underlying3
  a3 := Tryz.isAgg3
  z3 := Tryz.sizeOf3
  v3 := Tryz.zeroValue3
  t4 := Tryz.underlying4
  a4 := Tryz.isAgg4
  z4 := Tryz.sizeOf4
  v4 := Tryz.zeroValue4
  t5 := Tryz.underlying5
  a5 := Tryz.isAgg5
  z5 := Tryz.sizeOf5
  v5 := Tryz.zeroValue5
  t9 := Tryz.underlying9
  a9 := Tryz.isAgg9
  z9 := Tryz.sizeOf9
  v9 := Tryz.zeroValue9
  t22 := Tryz.underlying80
  a22 := Tryz.isAgg80
  z22 := Tryz.sizeOf80
  v22 := Tryz.zeroValue80
  t23 := Tryz.underlying80
  a23 := Tryz.isAgg80
  z23 := Tryz.sizeOf80
  v23 := Tryz.zeroValue80
  t25 := Tryz.underlying3
  a25 := Tryz.isAgg3
  z25 := Tryz.sizeOf3
  v25 := Tryz.zeroValue3
  t32 := Tryz.underlying136
  a32 := Tryz.isAgg136
  z32 := Tryz.sizeOf136
  v32 := Tryz.zeroValue136
  t35 := Tryz.underlying180
  a35 := Tryz.isAgg180
  z35 := Tryz.sizeOf180
  v35 := Tryz.zeroValue180
  t36 := Tryz.underlying181
  a36 := Tryz.isAgg181
  z36 := Tryz.sizeOf181
  v36 := Tryz.zeroValue181
  t41 := Tryz.underlying102
  a41 := Tryz.isAgg102
  z41 := Tryz.sizeOf102
  v41 := Tryz.zeroValue102
  t44 := Tryz.underlying128
  a44 := Tryz.isAgg128
  z44 := Tryz.sizeOf128
  v44 := Tryz.zeroValue128
  t46 := Tryz.underlying34
  a46 := Tryz.isAgg34
  z46 := Tryz.sizeOf34
  v46 := Tryz.zeroValue34
  t53 := Tryz.underlying195
  a53 := Tryz.isAgg195
  z53 := Tryz.sizeOf195
  v53 := Tryz.zeroValue195
  t57 := Tryz.underlying198
  a57 := Tryz.isAgg198
  z57 := Tryz.sizeOf198
  v57 := Tryz.zeroValue198
  t63 := Tryz.underlying200
  a63 := Tryz.isAgg200
  z63 := Tryz.sizeOf200
  v63 := Tryz.zeroValue200
  t64 := Tryz.underlying121
  a64 := Tryz.isAgg121
  z64 := Tryz.sizeOf121
  v64 := Tryz.zeroValue121 }
end Go.Proofs
end

section
/- slices.Sorted(maps.Keys(m)) of a pool's two maps. -/
set_option maxRecDepth 100000
set_option linter.unusedVariables false
set_option linter.unusedSimpArgs false
namespace Mun
open Go Go.RowKit Go.Maps Go.Sort Go.Shelf
open Go.Proofs

theorem sorts_in (m : Nat) : AnyZI.SortsIn Tryz.prog Tryz.sorted63_ren Fence.wide m :=
  ⟨fun blk off cap ss W hH hblk hsz => callsIn_wide.2 (AnyM.slices_Sort_int Tryz.sort96 blk off cap ss W hH hblk hsz),
   fun p cap W => callsIn_wide.2 (AnyM.slices_Sort_int_none Tryz.sort96 p cap W)⟩

theorem insert_perm {H : Type} (x : Lit × DataW H) : ∀ l : List (Lit × DataW H), (DataW.insert x l).Perm (x :: l)
  | [] => List.Perm.refl _
  | y :: r => by
    unfold DataW.insert
    split
    · exact List.Perm.refl _
    · exact ((insert_perm x r).cons y).trans (List.Perm.swap x y r)
theorem insertAll_perm {H : Type} : ∀ l : List (Lit × DataW H), (l.foldr DataW.insert []).Perm l
  | [] => List.Perm.refl _
  | x :: l => (insert_perm x _).trans ((insertAll_perm l).cons x)

def litZ (n : Int) : Lit × DataW Unit := (.int .i64 n, .nil)
def mapZ (es : List Int) : DataW Unit := .map ((es.map litZ).foldr DataW.insert [])
theorem mapZ_keys (es : List Int) : (intKeys (mapZ es)).Perm es := by
  have h := (insertAll_perm (es.map litZ)).map fun p => Go.intOf p.1
  rw [List.map_map] at h
  have e : es.map ((fun p : Lit × DataW Unit => Go.intOf p.1) ∘ litZ) = es := by
    conv => rhs; rw [← List.map_id es]
    exact List.map_congr_left (fun n _ => rfl)
  rw [e] at h
  exact h
theorem mapZ_size (es : List Int) : Maps.size (mapZ es) = es.length := by
  show ((es.map litZ).foldr DataW.insert []).length = _
  rw [(insertAll_perm _).length_eq, List.length_map]

theorem owns_z (w : World) (M : Nat) (es : List (Int × Value)) (hs : ∀ p ∈ es, (Lit.int .i64 p.1).wf = true) (hl : es.length ≤ maxLen) (h : IMap w M es) : w.ownsMap (H := Unit) Tryz.prog 3 (fun _ => some (.nil, [])) M es.length (mapZ (es.map (·.1))) := by
  obtain ⟨l, c, ⟨h1, h2, h3, h4⟩, he⟩ := h
  have hlen : l.length = es.length := by have := congrArg List.length he; simpa using this
  have hrd : ∀ x ∈ (mkEntries l).toList, ∃ p ∈ es, x.key = .int .i64 p.1 ∧ Go.WideElems.rd (H := Unit) Tryz.prog 3 (fun _ => some (.nil, [])) x = some (litZ p.1) := by
    intro x hx
    have hx2 : x ∈ l.map fun p => ({ key := .int .i64 p.1.1, val := p.1.2, born := p.2 } : MapEntry) := by simpa [mkEntries] using hx
    obtain ⟨p, hp, rfl⟩ := List.mem_map.1 hx2
    have hm : p.1 ∈ es := by rw [← he]; exact List.mem_map_of_mem hp
    have hk := Maps.keyOf_int_mk (P := Tryz.prog) Tryz.underlying3 (hs _ hm)
    refine ⟨p.1, hm, rfl, ?_⟩
    simp [Go.WideElems.rd, hk, litZ]
  refine ⟨_, c, h4, ⟨by simp [mkEntries]; omega, ?_, fun x hx => by obtain ⟨p, -, -, h9⟩ := hrd x hx; exact ⟨_, h9⟩⟩, by simp [mkEntries]; omega, ?_⟩
  · refine ⟨fun x hx => ?_, ?_, ?_⟩
    · have hx2 : x ∈ l.map fun p => ({ key := .int .i64 p.1.1, val := p.1.2, born := p.2 } : MapEntry) := by simpa [mkEntries] using hx
      obtain ⟨p, hp, rfl⟩ := List.mem_map.1 hx2
      exact h3 p hp
    · simpa [mkEntries, List.map_map, Function.comp_def] using h2
    · have h9 : (mkEntries l).toList.map (·.key) = (l.map (·.1.1)).map (Value.int .i64) := by simp [mkEntries, List.map_map, Function.comp_def]
      rw [h9]
      exact List.Pairwise.map (Value.int .i64) (fun a b (hab : a ≠ b) e => hab (by injection e)) h1
  · show mapZ _ = .map (((mkEntries l).toList.map _).foldr DataW.insert [])
    unfold mapZ
    congr 2
    have h8 : (mkEntries l).toList = l.map fun p => ({ key := .int .i64 p.1.1, val := p.1.2, born := p.2 } : MapEntry) := by simp [mkEntries]
    rw [h8, List.map_map, ← he, List.map_map, List.map_map]
    apply List.map_congr_left
    intro p hp
    obtain ⟨q, hq1, hq2, hq3⟩ := hrd ⟨.int .i64 p.1.1, p.1.2, p.2⟩ (by rw [h8]; exact List.mem_map_of_mem hp)
    have hk : p.1.1 = q.1 := by
      have h9 : Value.int .i64 p.1.1 = .int .i64 q.1 := hq2
      injection h9
    show litZ p.1.1 = Go.WideElems.rg Tryz.prog 3 _ ⟨.int .i64 p.1.1, p.1.2, p.2⟩
    rw [Go.WideElems.rg_of hq3, hk]

/-- rising numbers -/
abbrev Rising (l : List Int) : Prop := l.Pairwise (· ≤ ·)

def KeysOut (w : World) (es : List (Int × Value)) (e : Ending) (w' : World) : Prop :=
  ∃ (v : Value) (ns : List Int), e = .returned v ∧ ns.Perm (es.map (·.1)) ∧ Rising ns ∧ w'.ownsRow w.heap.size 3 1 v ns.length (ns.map (Value.int .i64)) ∧ Below w.heap.size w w'

theorem keysW_call (mb : Option Nat) (W : World) : Calls Tryz.prog 64 #[.map mb] W fun e w' => e = .returned (.func (.func 97) #[] #[.pointer (some ⟨W.heap.size, 0, none⟩)]) ∧ w' = W.alloc (.cells #[.map mb] 97) :=
  (callsIn_wide (n := 5)).1 (AnyZI.keys_in Tryz.keys64 Fence.wide 5 trivial rfl mb W)
theorem keysD_call (mb : Option Nat) (W : World) : Calls Tryz.prog 65 #[.map mb] W fun e w' => e = .returned (.func (.func 98) #[] #[.pointer (some ⟨W.heap.size, 0, none⟩)]) ∧ w' = W.alloc (.cells #[.map mb] 98) :=
  (callsIn_wide (n := 5)).1 (AnyZI.keys_in Tryz.keys65 Fence.wide 5 trivial rfl mb W)

theorem rising_sort (ss : List Int) : Rising (ss.mergeSort (fun x y => decide (x ≤ y))) :=
  (List.pairwise_mergeSort (fun a b c h1 h2 => by simp at h1 h2 ⊢; exact Int.le_trans h1 h2) (fun a b => by simp; exact Int.le_total a b) ss).imp (fun {a b} h9 => by simpa using h9)
theorem rowB_mono {w : World} {B B' : Nat} {e : TypeId} {size n : Nat} {v : Value} {xs : List Value} (h : w.ownsRow B e size v n xs) (hB : B' ≤ B) : w.ownsRow B' e size v n xs := by
  refine ⟨h.1, ?_⟩
  rcases h.2 with hn | ⟨g, cap, cur, rfl, hbg, rest⟩
  · exact .inl hn
  · exact .inr ⟨g, cap, cur, rfl, Nat.le_trans hB hbg, rest⟩

theorem keysW_sorted (w : World) (M : Nat) (es : List (Int × Value)) (hs : ∀ p ∈ es, (Lit.int .i64 p.1).wf = true) (hl : es.length ≤ 16777216) (h : IMap w M es) :
    Calls Tryz.prog 63 #[.func (.func 97) #[] #[.pointer (some ⟨w.heap.size, 0, none⟩)]] (w.alloc (.cells #[.map (some M)] 97)) (KeysOut w es) := by
  have hl2 : es.length ≤ maxLen := by unfold maxLen; omega
  have hown := owns_z w M es hs hl2 h
  have hbl := hown.lt
  have hsz : Maps.size (mapZ (es.map (·.1))) = es.length := by rw [mapZ_size, List.length_map]
  have hseq : SeqGives Fence.wide 2 Tryz.prog 97 #[.pointer (some ⟨w.heap.size, 0, none⟩)] encZ (fun ss => ss.Perm (intKeys (mapZ (es.map (·.1))))) (Maps.size (mapZ (es.map (·.1)))) (w.alloc (.cells #[.map (some M)] 97)) :=
    AnyZI.keys_gives (ρ := Tryz.keys64_ren) { Tryz.keys64 with } Fence.wide _ trivial rfl (by omega) w.heap.size M _ _ _ (by simp) (by simp) (by
      obtain ⟨es, clock, hb, Ft, hs, hD⟩ := hown
      exact ⟨es, clock, (Below.heap_alloc _ _ M hbl).trans hb, Ft, hs, hD⟩)
  refine ((callsIn_wide (n := 5)).1 (AnyZI.sorted_in Tryz.sorted63 Fence.wide 5 trivial trivial trivial trivial rfl (by omega) (sorts_in _) (enters_of Tryz.func96 (by kernel_rfl) rfl) 97 #[.pointer (some ⟨w.heap.size, 0, none⟩)] trivial (enters_of Tryz.func97 (by kernel_rfl) rfl) _ _ (by rw [hsz]; exact hl2) (by rw [hsz]; omega) _ hseq)).mono ?_
  rintro e w' ⟨v, ss, rfl, hS, hrow, hnil, hb⟩
  have hp1 : (ss.mergeSort (fun x y => decide (x ≤ y))).Perm ss := List.mergeSort_perm _ _
  refine ⟨v, ss.mergeSort (fun x y => decide (x ≤ y)), rfl, hp1.trans (hS.trans (mapZ_keys _)), rising_sort ss, ?_, ((Below.refl _ w).alloc (Nat.le_refl _) _).trans (hb.mono (by simp))⟩
  rw [hp1.length_eq]
  exact rowB_mono hrow (by simp)

theorem keysD_sorted (w : World) (M : Nat) (es : List (Int × Value)) (hs : ∀ p ∈ es, (Lit.int .i64 p.1).wf = true) (hl : es.length ≤ 16777216) (h : IMap w M es) :
    Calls Tryz.prog 63 #[.func (.func 98) #[] #[.pointer (some ⟨w.heap.size, 0, none⟩)]] (w.alloc (.cells #[.map (some M)] 98)) (KeysOut w es) := by
  have hl2 : es.length ≤ maxLen := by unfold maxLen; omega
  have hown := owns_z w M es hs hl2 h
  have hbl := hown.lt
  have hsz : Maps.size (mapZ (es.map (·.1))) = es.length := by rw [mapZ_size, List.length_map]
  have hseq : SeqGives Fence.wide 2 Tryz.prog 98 #[.pointer (some ⟨w.heap.size, 0, none⟩)] encZ (fun ss => ss.Perm (intKeys (mapZ (es.map (·.1))))) (Maps.size (mapZ (es.map (·.1)))) (w.alloc (.cells #[.map (some M)] 98)) :=
    AnyZI.keys_gives (ρ := Tryz.keys65_ren) { Tryz.keys65 with } Fence.wide _ trivial rfl (by omega) w.heap.size M _ _ _ (by simp) (by simp) (by
      obtain ⟨es, clock, hb, Ft, hs, hD⟩ := hown
      exact ⟨es, clock, (Below.heap_alloc _ _ M hbl).trans hb, Ft, hs, hD⟩)
  refine ((callsIn_wide (n := 5)).1 (AnyZI.sorted_in Tryz.sorted63 Fence.wide 5 trivial trivial trivial trivial rfl (by omega) (sorts_in _) (enters_of Tryz.func96 (by kernel_rfl) rfl) 98 #[.pointer (some ⟨w.heap.size, 0, none⟩)] trivial (enters_of Tryz.func98 (by kernel_rfl) rfl) _ _ (by rw [hsz]; exact hl2) (by rw [hsz]; omega) _ hseq)).mono ?_
  rintro e w' ⟨v, ss, rfl, hS, hrow, hnil, hb⟩
  have hp1 : (ss.mergeSort (fun x y => decide (x ≤ y))).Perm ss := List.mergeSort_perm _ _
  refine ⟨v, ss.mergeSort (fun x y => decide (x ≤ y)), rfl, hp1.trans (hS.trans (mapZ_keys _)), rising_sort ss, ?_, ((Below.refl _ w).alloc (Nat.le_refl _) _).trans (hb.mono (by simp))⟩
  rw [hp1.length_eq]
  exact rowB_mono hrow (by simp)
end Mun
end

section
/- WriteAll: every page that is held, by rising numbers. -/
set_option maxRecDepth 100000
set_option linter.unusedVariables false
set_option linter.unusedSimpArgs false
namespace Mun
open Go Go.RowKit
open Go.Proofs

def PM.find (p : PM) (n : Int) : Option Nat := p.fr.findIdx? (·.pg == n)
/-- Write of a page -/
def PX.wr (s : PX) (n : Int) : PX × Int := if n < 0 then (s, 18) else match s.pm.find n with | none => (s, 18) | some i => s.out i
/-- pages written out, one by one -/
def PX.outs : PX → List Int → PX × Int
  | s, [] => (s, 0)
  | s, n :: ns => if (s.wr n).2 ≠ 0 then s.wr n else PX.outs (s.wr n).1 ns
/-- pages that are held, by rising numbers -/
def PX.heldL (s : PX) : List Int := ((List.range s.dm.base.length).map fun (n : Nat) => (n : Int)).filter fun n => s.pm.fr.any (·.pg == n)

/-- changed pages can be sealed -/
def PX.GoodF (s : PX) : Prop := ∀ f ∈ s.pm.fr, f.chg = true → GoodP f.b

theorem out_fr (s : PX) (i : Nat) : (s.out i).1.pm.fr = s.pm.fr ∨ ∃ f, s.pm.fr[i]? = some f ∧ (s.out i).1.pm.fr = s.pm.fr.set i f.clean := by
  unfold PX.out
  split
  · exact .inl rfl
  · rename_i f hf
    split
    · exact .inl rfl
    · split
      · left; rw [force_pm]
      · split
        · left; show (s.force _).1.pm.fr = _; rw [force_pm]
        · exact .inr ⟨f, hf, rfl⟩
theorem out_pgs (s : PX) (i : Nat) : (s.out i).1.pm.fr.map (·.pg) = s.pm.fr.map (·.pg) := by
  rcases out_fr s i with h | ⟨f, hf, h⟩
  · rw [h]
  · rw [h, List.map_set]
    apply List.ext_getElem?
    intro j
    rw [List.getElem?_set]
    by_cases hij : i = j
    · subst hij
      have hl := (List.getElem?_eq_some_iff.1 hf).1
      simp only [List.length_map, hl, if_true, List.getElem?_map, hf, Option.map_some]
      rfl
    · simp [hij]
theorem PX.GoodF.out {s : PX} (h : s.GoodF) (i : Nat) : (s.out i).1.GoodF := by
  rcases out_fr s i with e | ⟨f, hf, e⟩
  · unfold PX.GoodF; rw [e]; exact h
  · unfold PX.GoodF
    rw [e]
    intro g hg hc
    rcases List.mem_or_eq_of_mem_set hg with h1 | h1
    · exact h g h1 hc
    · subst h1; cases hc
theorem out_ops (s : PX) (i : Nat) : (s.out i).1.dm.ops ≤ s.dm.ops + 2 := by
  have hw : ∀ (m : DM) (n : Int) (b : Bytes), (m.write n b).1.ops ≤ m.ops + 1 := fun m n b => by
    unfold DM.write
    split
    · exact Nat.le_succ _
    · split
      · exact Nat.le_succ _
      · split
        · show m.spend.ops ≤ _; unfold DM.spend; split <;> simp
        · show m.spend.ops ≤ _; unfold DM.spend; split <;> simp
  unfold PX.out
  split
  · show s.dm.ops ≤ _; omega
  · split
    · show s.dm.ops ≤ _; omega
    · have h1 := force_ops s
      split
      · have := h1 (gt (by assumption : FM).b 4 8); omega
      · split
        · rename_i f _ _ _ _
          have h2 := hw (s.force (gt f.b 4 8)).1.dm f.pg f.b
          have := h1 (gt f.b 4 8)
          show (DM.write _ _ _).1.ops ≤ _
          omega
        · rename_i f _ _ _ _
          have h2 := hw (s.force (gt f.b 4 8)).1.dm f.pg f.b
          have := h1 (gt f.b 4 8)
          show (DM.write _ _ _).1.ops ≤ _
          omega

theorem wr_ops (s : PX) (n : Int) : (s.wr n).1.dm.ops ≤ s.dm.ops + 2 := by
  unfold PX.wr
  split
  · show s.dm.ops ≤ _; omega
  · split
    · show s.dm.ops ≤ _; omega
    · exact out_ops s _
theorem PX.GoodF.wr {s : PX} (h : s.GoodF) (n : Int) : (s.wr n).1.GoodF := by
  unfold PX.wr
  split
  · exact h
  · split
    · exact h
    · exact h.out _

section
variable {w : World} {D L Pb : Nat} {s : PX} {x : PZ}

theorem PL.frs (h : PL w D L Pb s x) (i : Nat) : s.pm.fr[i]? = (x.v.fs[i]?).map (·.1) := by rw [h.rep.frs, List.getElem?_map]
/-- where a page's frame is -/
theorem PL.find_some (h : PL w D L Pb s x) {n : Int} (h0 : 0 ≤ n) {i : Nat} {f : FV} (hx : x.v.fs[i]? = some f) (hp : f.1.pg = n) : s.pm.find n = some i := by
  unfold PM.find
  rw [List.findIdx?_eq_some_iff_getElem]
  have hfi := h.frs i
  rw [hx] at hfi
  obtain ⟨hl, he⟩ := List.getElem?_eq_some_iff.1 hfi
  refine ⟨hl, by rw [he]; simp [hp], fun j hj => ?_⟩
  simp only [beq_iff_eq]
  intro e
  have hfj := h.frs j
  cases hz : x.v.fs[j]? with
  | none =>
    rw [hz, List.getElem?_eq_getElem (by omega)] at hfj
    cases hfj
  | some z =>
    rw [hz, List.getElem?_eq_getElem (by omega)] at hfj
    simp only [Option.map_some, Option.some.injEq] at hfj
    rw [hfj] at e
    have := h.rep.mok.one hz hx (by rw [e, hp]) (by omega)
    omega
theorem PL.find_none (h : PL w D L Pb s x) {n : Int} (h0 : 0 ≤ n) (hl : alook x.v.es n = none) : s.pm.find n = none := by
  unfold PM.find
  rw [List.findIdx?_eq_none_iff]
  intro f hf
  rw [h.rep.frs] at hf
  obtain ⟨z, hz, rfl⟩ := List.mem_map.1 hf
  obtain ⟨j, hj, rfl⟩ := List.getElem_of_mem hz
  simp only [beq_eq_false_iff_ne]
  intro e
  have := h.rep.mok.here j _ (List.getElem?_eq_getElem hj) (by omega)
  rw [e, hl] at this
  cases this
theorem PL.goodV (h : PL w D L Pb s x) (hg : s.GoodF) : ∀ f ∈ x.v.fs, f.1.chg = true → GoodP f.1.b := fun f hf => hg f.1 (by rw [h.rep.frs]; exact List.mem_map_of_mem hf)

theorem wr_pl (h : PL w D L Pb s x) (ho : s.dm.ops < 4398046511103) (hg : s.GoodF) (n : Int) :
    Calls Tryz.prog 24 #[.pointer (some ⟨Pb, 0, none⟩), .int .i64 n] w fun e w' => ∃ v', PPost w D L Pb x (s.wr n) v' e w' := by
  cases hl : alook x.v.es n with
  | none =>
    refine (write_no h n hl).mono ?_
    rintro e w' ⟨rfl, rfl⟩
    refine ⟨x.v, ?_⟩
    unfold PX.wr
    split
    · exact ⟨rfl, PTo.refl h⟩
    · rename_i h0
      rw [h.find_none (by omega) hl]
      exact ⟨rfl, PTo.refl h⟩
  | some u =>
    obtain ⟨h0, i, f, rfl, hx, hp⟩ := h.rep.mok.there n u hl
    refine (write_yes h ho n h0 i f hx hp (h.goodV hg f (List.mem_of_getElem? hx))).mono ?_
    rintro e w' ⟨v', hov, hpp⟩
    refine ⟨v', ?_⟩
    unfold PX.wr
    rw [if_neg (by omega), h.find_some h0 hx hp]
    exact hpp

theorem heldL_mem (s : PX) (n : Int) : n ∈ s.heldL ↔ (0 ≤ n ∧ n < s.dm.base.length) ∧ ∃ f ∈ s.pm.fr, f.pg = n := by
  unfold PX.heldL
  rw [List.mem_filter, List.mem_map]
  simp only [List.mem_range, List.any_eq_true, beq_iff_eq]
  constructor
  · rintro ⟨⟨a, ha, rfl⟩, hf⟩
    exact ⟨⟨by omega, by omega⟩, hf⟩
  · rintro ⟨⟨h1, h2⟩, hf⟩
    exact ⟨⟨n.toNat, by omega, by omega⟩, hf⟩
theorem heldL_rising (s : PX) : s.heldL.Pairwise (· < ·) := by
  unfold PX.heldL
  refine List.Pairwise.filter _ ?_
  rw [List.pairwise_map]
  exact List.pairwise_lt_range.imp (fun h => by omega)

theorem PL.keys (h : PL w D L Pb s x) (hpg : ∀ f ∈ s.pm.fr, f.pg < s.dm.base.length) : (x.v.es.map (·.1)).Perm s.heldL := by
  refine (List.perm_ext_iff_of_nodup h.rep.mp.nodup ((heldL_rising s).imp (fun h => by omega))).2 fun n => ?_
  rw [heldL_mem]
  constructor
  · intro hn
    cases hl : alook x.v.es n with
    | none => exact absurd hn ((alook_none_iff _ _).1 hl)
    | some u =>
      obtain ⟨h0, i, f, rfl, hx, hp⟩ := h.rep.mok.there n u hl
      have hm : f.1 ∈ s.pm.fr := by rw [h.rep.frs]; exact List.mem_map_of_mem (List.mem_of_getElem? hx)
      have := hpg f.1 hm
      exact ⟨⟨h0, by omega⟩, f.1, hm, hp⟩
  · rintro ⟨⟨h0, -⟩, f, hf, hp⟩
    rw [h.rep.frs] at hf
    obtain ⟨z, hz, rfl⟩ := List.mem_map.1 hf
    obtain ⟨j, hj, rfl⟩ := List.getElem_of_mem hz
    have h1 := h.rep.mok.here j _ (List.getElem?_eq_getElem hj) (by omega)
    rw [hp] at h1
    apply Classical.byContradiction
    intro hn
    rw [(alook_none_iff _ _).2 hn] at h1
    cases h1

theorem outs_snoc (s : PX) : ∀ (l : List Int) (n : Int), (s.outs l).2 = 0 → s.outs (l ++ [n]) = (s.outs l).1.wr n := by
  intro l
  induction l generalizing s with
  | nil => intro n _; simp only [List.nil_append, PX.outs]; split <;> rename_i h; rfl; simp at h; rw [← h]
  | cons a l ih =>
    intro n h0
    simp only [List.cons_append, PX.outs] at h0 ⊢
    split at h0
    · rename_i h1; exact absurd h0 h1
    · rename_i h1
      rw [if_neg h1, if_neg h1]
      exact ih _ n h0
theorem outs_more (s : PX) : ∀ (l k : List Int), (s.outs l).2 ≠ 0 → s.outs (l ++ k) = s.outs l := by
  intro l
  induction l generalizing s with
  | nil => intro k h; exact absurd rfl h
  | cons a l ih =>
    intro k h0
    simp only [List.cons_append, PX.outs] at h0 ⊢
    split at h0
    · rename_i h1; rw [if_pos h1, if_pos h1]
    · rename_i h1
      rw [if_neg h1, if_neg h1]
      exact ih _ k h0
theorem outs_ops (s : PX) : ∀ l : List Int, (s.outs l).1.dm.ops ≤ s.dm.ops + 2 * l.length := by
  intro l
  induction l generalizing s with
  | nil => simp [PX.outs]
  | cons a l ih =>
    have h1 := wr_ops s a
    simp only [PX.outs, List.length_cons]
    split
    · omega
    · have := ih (s.wr a).1; omega
theorem PX.GoodF.outs {s : PX} (h : s.GoodF) : ∀ l : List Int, (s.outs l).1.GoodF := by
  intro l
  induction l generalizing s with
  | nil => exact h
  | cons a l ih =>
    simp only [PX.outs]
    split
    · exact h.wr a
    · exact ih (h.wr a)

set_option maxHeartbeats 1000000 in
theorem writeAll_pl (h : PL w D L Pb s x) (ho : s.dm.ops < 4398046000000) (hg : s.GoodF) (hpg : ∀ f ∈ s.pm.fr, f.pg < s.dm.base.length) :
    Calls Tryz.prog 25 #[.pointer (some ⟨Pb, 0, none⟩)] w fun e w' => ∃ v', PPost w D L Pb x (s.outs s.heldL) v' e w' := by
  have c3 : w.cell? ⟨Pb, 3, none⟩ = some (.map (some x.v.Mw)) := by rw [h.rep.cell 3]; simp [pcells]
  have hks := h.keys hpg
  have hbl : s.dm.base.length ≤ 65536 := h.disk.wf.npages
  have hhl : s.heldL.length ≤ 65536 := by
    unfold PX.heldL
    refine Nat.le_trans (List.length_filter_le _ _) ?_
    rw [List.length_map, List.length_range]
    exact hbl
  have hkl : x.v.es.length ≤ 65536 := by have := hks.length_eq; rw [List.length_map] at this; omega
  have hkw : ∀ p ∈ x.v.es, (Lit.int .i64 p.1).wf = true := fun p hp => by
    have h1 := (heldL_mem s p.1).1 (hks.subset (List.mem_map_of_mem hp))
    have h2 : (0 : Int) ≤ p.1 ∧ p.1 < 65536 := ⟨h1.1.1, by have := h1.1.2; omega⟩
    have e1 : IntKind.min .i64 = -9223372036854775808 := by decide
    have e2 : IntKind.max .i64 = 9223372036854775807 := by decide
    show (decide (IntKind.min .i64 ≤ p.1) && decide (p.1 ≤ IntKind.max .i64)) = true
    rw [e1, e2, Bool.and_eq_true, decide_eq_true_eq, decide_eq_true_eq]
    omega
  have hso := keysW_sorted w x.v.Mw x.v.es hkw (by omega) h.rep.mp
  have hke := keysW_call (some x.v.Mw) w
  have HSO := Lib.hid hso
  have HKE := Lib.hid hke
  have HX := Lib.hid (And.intro h (And.intro ho (And.intro hg (And.intro hks hhl))))
  clear h ho hg hks hkl hkw hso hke hpg hbl hhl
  obtain ⟨post, hpost⟩ : ∃ post : Ending → World → Prop, post = fun e w' => ∃ v', PPost w D L Pb x (s.outs s.heldL) v' e w' := ⟨_, rfl⟩
  rw [← hpost]
  have HPO := Lib.hid hpost
  clear hpost
  go_enter Tryz.func25, Tryz.ntmps25
  go_wp2_with fail
  refine HKE.out.mono ?_
  rintro e w' ⟨rfl, rfl⟩
  go_wp2_with fail
  refine HSO.out.mono ?_
  rintro e w1 ⟨q, ns, rfl, hperm, hris, hrow, hb1⟩
  obtain ⟨h, ho, hg, hks, hhl⟩ := HX.out
  obtain rfl : ns = s.heldL := List.Perm.eq_of_pairwise (le := fun a b : Int => a ≤ b) (fun a b _ _ h1 h2 => by omega) hris ((heldL_rising s).imp (fun h => by omega)) (hperm.trans hks)
  obtain ⟨ns, hns⟩ : ∃ ns, s.heldL = ns := ⟨_, rfl⟩
  rw [hns] at hrow hhl
  have h1 := h.below hb1
  have hrd : RdV (x.af Pb L) w1 1 q ns.length (ns.map (Value.int .i64)) := RdV.of_own hrow (fun k hk hf => by have := h.lt k hf; omega)
  obtain ⟨qa, qc, rfl, -, -⟩ := hrd.form
  obtain ⟨m, hm⟩ : ∃ m, ns.length = m := ⟨_, rfl⟩
  have HY := Lib.hid (And.intro hb1 (And.intro hns (And.intro hrd (And.intro hm hhl))))
  have h10 : PTo w1 D L Pb x s x.v w1 := PTo.refl h1
  rw [hm] at hrd ⊢
  have hm0 : (0 : Int) ≤ (m : Int) := by omega
  have hm6 : (m : Int) ≤ 65536 := by omega
  clear h ho hg hks hhl hperm hris hrow hb1 hns h1 HSO HKE c3
  go_wp2
  go_loopw [2, 4, 5, 13] (fun _ _ _ j wr => ∃ (k : Nat) (v' : PLV), j = .int .i64 k ∧ k ≤ m ∧ (s.outs (ns.take k)).2 = 0 ∧ PTo w1 D L Pb x (s.outs (ns.take k)).1 v' wr) (fun _ _ _ j _ => m - (RowKit.intOf j).toNat)
  case atStart => exact ⟨0, x.v, rfl, Nat.zero_le _, rfl, h10⟩
  case round =>
    obtain ⟨k, v', rfl, hk, h0, hto⟩ := hrel
    rcases Nat.lt_or_eq_of_le hk with hlt | rfl
    · obtain ⟨xr, hvr, hzr, hpl, hcr⟩ := hto
      obtain ⟨hb1, hns, hrd0, hm1, hhl⟩ := HY.out
      obtain ⟨h, ho, hg, hks, -⟩ := HX.out
      obtain ⟨g, off, c', e, -, -, -, -, hcell⟩ := (RdV.keep (F' := fun _ => False) hrd (fun k hk hn => hcr.block k hk (fun e => hn (x.tf_af Pb L k e))) (fun k _ e => e.elim)).at_ (by omega)
      injection e with e1 e2 e3
      subst e1 e3
      clear e2
      obtain ⟨n, hn⟩ : ∃ n, ns[k]? = some n := ⟨_, List.getElem?_eq_getElem (by omega)⟩
      have ck : wr.cell? ⟨g, off + k, none⟩ = some (.int .i64 n) := by
        have h9 := hcell k (.int .i64 n) (by rw [List.getElem?_map, hn]; rfl)
        simpa using h9
      have hops := outs_ops s (ns.take k)
      have hlen : (ns.take k).length ≤ 65536 := by rw [List.length_take]; omega
      have hwr := wr_pl hpl (by omega) (hg.outs _) n
      have htk : ns.take (k + 1) = ns.take k ++ [n] := by rw [List.take_add_one, hn]; rfl
      have hsn := outs_snoc s (ns.take k) n h0
      rw [← htk] at hsn
      rw [← hsn] at hwr
      have hki : (k : Int) < (m : Int) := by omega
      have hk0 : (0 : Int) ≤ (k : Int) := by omega
      have HWR := Lib.hid hwr
      have HZ := Lib.hid (And.intro hlt (And.intro (And.intro hcr hzr) hn))
      have HWJ : Hid (wrap64 ((k : Int) + 1) = (k : Int) + 1) := by show _ = _; unfold wrap64; omega
      clear hvr hzr hpl hcr hb1 hns hrd0 hm1 hhl h ho hg hks hcell hn hops hlen hwr htk hsn h0 hlt hk
      go_wp2_with fail
      refine HWR.out.mono ?_
      rintro e w2 ⟨v2, he, hto2⟩
      obtain ⟨hlt, ⟨hcr, hzr⟩, hn⟩ := HZ.out
      have hto3 : PTo w1 D L Pb x (s.outs (ns.take (k + 1))).1 v2 w2 := by
        obtain ⟨x2, hv2, hz2, h2, c2⟩ := hto2
        exact ⟨x2, hv2, hz2.trans hzr, h2, hcr.trans c2⟩
      obtain ⟨kk, hkk⟩ : ∃ kk, (s.outs (ns.take (k + 1))).2 = kk := ⟨_, rfl⟩
      rw [hkk] at he
      subst he
      have HT := Lib.hid (And.intro hto3 (And.intro hlt hkk))
      clear hlt hcr hzr hn hto2 hto3 hkk
      by_cases hk1 : kk = 0
      · subst hk1
        go_wp2
        go_roundw
        case rel => exact ⟨k + 1, v2, rfl, by have := HT.out.2.1; omega, HT.out.2.2, HT.out.1⟩
        case measure => have := HT.out.2.1; simp [RowKit.intOf]; omega
      · have hfin : post (.returned (.int .i64 kk)) w2 := by
          obtain ⟨⟨x2, hv2, hz2, h2, c2⟩, hlt, hkk⟩ := HT.out
          obtain ⟨hb1, hns, hrd0, hm1, hhl⟩ := HY.out
          have hmo := outs_more s (ns.take (k + 1)) (ns.drop (k + 1)) (by rw [hkk]; exact hk1)
          rw [List.take_append_drop] at hmo
          rw [HPO.out, hns, hmo]
          exact ⟨v2, by rw [hkk], x2, hv2, hz2, h2, (Chg.of_below hb1 _).trans c2⟩
        have HF := Lib.hid hfin
        clear hfin
        go_wp2
        exact HF.out
    · have hfin : post (.returned (.int .i64 0)) wr := by
        obtain ⟨xr, hvr, hzr, hpl, hcr⟩ := hto
        obtain ⟨hb1, hns, hrd0, hm1, hhl⟩ := HY.out
        rw [List.take_of_length_le (by omega)] at hpl h0
        rw [HPO.out, hns]
        exact ⟨v', by rw [h0], xr, hvr, hzr, hpl, (Chg.of_below hb1 _).trans hcr⟩
      have HF := Lib.hid hfin
      clear hfin hto h0 hk
      go_wp2
      exact HF.out
end
end Mun
end
