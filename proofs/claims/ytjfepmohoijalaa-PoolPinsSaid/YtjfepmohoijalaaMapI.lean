/- A map whose keys are ints, at the raw level: what it holds, and what the operations on it come to. -/
import Derived.Test.YtjfepmohoijalaaMem
import Derived.MapKept
import Derived.Laws.NewFold
set_option linter.unusedVariables false
set_option linter.unusedSimpArgs false
namespace Mun
open Go Go.RowKit

theorem getObj_map {P : Program} {w : World} {r : Nat} {es : Array MapEntry} {clock : Nat} (hb : w.heap[r]? = some (.map es clock)) : (getObj r).run P w = .ok (.map es clock) w := by simp [getObj, Sem.run, hb]
theorem setObj_map {P : Program} {w : World} {r : Nat} {es : Array MapEntry} {clock : Nat} (o : Obj) (hb : w.heap[r]? = some (.map es clock)) : (setObj r o).run P w = .ok () { w with heap := w.heap.setIfInBounds r o } := by simp [setObj, Sem.run, hb]

/-- what a list of pairs holds at a key -/
def alook (es : List (Int × Value)) (k : Int) : Option Value := (es.find? (·.1 == k)).map (·.2)

/-- the entries with their stamps -/
def mkEntries (es : List ((Int × Value) × Nat)) : Array MapEntry := (es.map fun p => ({ key := .int .i64 p.1.1, val := p.1.2, born := p.2 } : MapEntry)).toArray

/-- block M is a map that holds these pairs (the keys apart, the stamps apart and below the clock) -/
def IMapC (w : World) (M : Nat) (es : List ((Int × Value) × Nat)) (clock : Nat) : Prop :=
  (es.map (·.1.1)).Nodup ∧ (es.map (·.2)).Nodup ∧ (∀ p ∈ es, p.2 < clock) ∧ w.heap[M]? = some (.map (mkEntries es) clock)

def IMap (w : World) (M : Nat) (es : List (Int × Value)) : Prop := ∃ l clock, IMapC w M l clock ∧ l.map (·.1) = es

def setObjW (w : World) (r : Nat) (o : Obj) : World := { w with heap := w.heap.setIfInBounds r o }

theorem setObjW_same {w : World} {r : Nat} {o o' : Obj} (h : w.heap[r]? = some o) : (setObjW w r o').heap[r]? = some o' := by
  have hlt : r < w.heap.size := (Array.getElem?_eq_some_iff.1 h).1
  simp [setObjW, Array.getElem?_setIfInBounds, hlt]
theorem setObjW_other (w : World) (r k : Nat) (o : Obj) (h : k ≠ r) : (setObjW w r o).heap[k]? = w.heap[k]? := by
  simp [setObjW, Array.getElem?_setIfInBounds, Ne.symm h]
theorem setObjW_size (w : World) (r : Nat) (o : Obj) : (setObjW w r o).heap.size = w.heap.size := by simp [setObjW]
theorem setObjW_chg {F : Foot} (w : World) (r : Nat) (o : Obj) (hF : F r) : Chg F F w (setObjW w r o) :=
  ⟨rfl, rfl, rfl, by rw [setObjW_size]; exact Nat.le_refl _, fun k _ hn => setObjW_other w r k o (fun h => hn (h ▸ hF)), fun _ h => .inl h⟩

theorem IMapC.keep {w w' : World} {M : Nat} {es : List ((Int × Value) × Nat)} {c : Nat} (h : IMapC w M es c) (hk : w'.heap[M]? = w.heap[M]?) : IMapC w' M es c := ⟨h.1, h.2.1, h.2.2.1, hk.trans h.2.2.2⟩
theorem IMap.keep {w w' : World} {M : Nat} {es : List (Int × Value)} (h : IMap w M es) (hk : w'.heap[M]? = w.heap[M]?) : IMap w' M es := by
  obtain ⟨l, c, h1, h2⟩ := h
  exact ⟨l, c, h1.keep hk, h2⟩
theorem IMap.lt {w : World} {M : Nat} {es : List (Int × Value)} (h : IMap w M es) : M < w.heap.size := by
  obtain ⟨l, c, h1, h2⟩ := h
  exact (Array.getElem?_eq_some_iff.1 h1.2.2.2).1

theorem imap_new (w : World) : IMap (w.alloc (.map #[] 0)) w.heap.size [] := ⟨[], 0, ⟨by simp, by simp, by simp, heap_alloc_new w _⟩, rfl⟩

section
variable {P : Program} {tm tk te : TypeId}

theorem findNow_int (k : Int) : ∀ (es : List ((Int × Value) × Nat)) (i : Nat), Instr.findNow (.int .i64) (.int .i64 k) (es.map fun p => ({ key := .int .i64 p.1.1, val := p.1.2, born := p.2 } : MapEntry)) i =
    some ((es.findIdx? (·.1.1 == k)).map fun j => (i + j, ((es[j]?).map (·.1.2)).getD undef))
  | [], i => by simp [Instr.findNow]
  | p :: es, i => by
    simp only [List.map_cons, Instr.findNow, Instr.sameNow, if_true]
    by_cases h : k = p.1.1
    · subst h
      simp [List.findIdx?_cons]
    · have h1 : (k == p.1.1) = false := by simpa using h
      have h2 : (p.1.1 == k) = false := by simpa using Ne.symm h
      rw [h1]
      simp only
      rw [findNow_int k es (i + 1), List.findIdx?_cons, h2]
      simp only [Bool.false_eq_true, if_false, Option.map_map]
      congr 2
      funext j
      simp [Nat.add_assoc, Nat.add_comm 1 j]

theorem run_findKey_int {w : World} (hk : P.underlying tk = some (.int .i64)) (k : Int) (es : List ((Int × Value) × Nat)) :
    (Instr.findKey tk (.int .i64 k) (mkEntries es).toList).run P w = .ok ((es.findIdx? (·.1.1 == k)).map fun j => (j, ((es[j]?).map (·.1.2)).getD undef)) w := by
  have h := findNow_int k es 0
  simp only [Nat.zero_add] at h
  simp [Instr.findKey, run_underlying hk, mkEntries, h]

theorem find_of_idx (es : List ((Int × Value) × Nat)) (k : Int) :
    ((es.findIdx? (·.1.1 == k)).map fun j => ((es[j]?).map (·.1.2)).getD undef) = alook (es.map (·.1)) k := by
  induction es with
  | nil => rfl
  | cons p es ih =>
    simp only [alook, List.map_cons, List.findIdx?_cons, List.find?_cons] at ih ⊢
    by_cases h : (p.1.1 == k) = true
    · rw [if_pos h, h]
      simp
    · simp only [Bool.not_eq_true] at h
      rw [if_neg (by simp [h]), h]
      simp only
      rw [← ih, Option.map_map]
      congr 1

theorem run_checkKey_int {w : World} (hk : P.underlying tk = some (.int .i64)) (e : Bool) (k : Int) : (Instr.checkKey e 10000 tk (.int .i64 k)).run P w = .ok () w := by
  exact Go.MapKept.run_checkKey hk (by simp [Go.MapKept.IsKey]) e 9999

/-- v, ok := m[k] -/
theorem imap_lookup {w : World} {M : Nat} {es : List (Int × Value)} (ht : P.underlying tm = some (.map tk te)) (hk : P.underlying tk = some (.int .i64)) {z : Value} (hz : (zeroValue te).run P w = .ok z w) (h : IMap w M es) (k : Int) :
    (Instr.lookup tm (.map (some M)) (.int .i64 k) true).run P w = .ok (.tuple #[(alook es k).getD z, .bool (alook es k).isSome]) w := by
  obtain ⟨l, c, ⟨h1, h2, h3, h4⟩, rfl⟩ := h
  rw [← find_of_idx]
  simp only [Instr.lookup, Sem.run_bind, run_underlying ht, Result.andThen, getObj_map h4, run_checkKey_int hk, run_findKey_int hk, Sem.run_pure]
  cases l.findIdx? (·.1.1 == k) with
  | none => simp [hz]
  | some j => simp

/-- v := m[k] -/
theorem imap_lookup1 {w : World} {M : Nat} {es : List (Int × Value)} (ht : P.underlying tm = some (.map tk te)) (hk : P.underlying tk = some (.int .i64)) {z : Value} (hz : (zeroValue te).run P w = .ok z w) (h : IMap w M es) (k : Int) :
    (Instr.lookup tm (.map (some M)) (.int .i64 k) false).run P w = .ok ((alook es k).getD z) w := by
  obtain ⟨l, c, ⟨h1, h2, h3, h4⟩, rfl⟩ := h
  rw [← find_of_idx]
  simp only [Instr.lookup, Sem.run_bind, run_underlying ht, Result.andThen, getObj_map h4, run_checkKey_int hk, run_findKey_int hk, Sem.run_pure]
  cases l.findIdx? (·.1.1 == k) with
  | none => simp [hz]
  | some j => simp

theorem alook_none_iff (es : List (Int × Value)) (k : Int) : alook es k = none ↔ k ∉ es.map (·.1) := by
  simp only [alook, Option.map_eq_none_iff, List.find?_eq_none, List.mem_map, not_exists, not_and, beq_iff_eq]

theorem alook_append (a b : List (Int × Value)) (k : Int) : alook (a ++ b) k = (alook a k).or (alook b k) := by
  simp only [alook, List.find?_append]
  cases a.find? (·.1 == k) <;> simp

theorem alook_set (es : List (Int × Value)) (hn : (es.map (·.1)).Nodup) (j : Nat) (p : Int × Value) (hj : es[j]? = some p) (v : Value) (k : Int) :
    alook (es.set j (p.1, v)) k = if k = p.1 then some v else alook es k := by
  induction es generalizing j with
  | nil => simp at hj
  | cons q es ih =>
    simp only [List.map_cons, List.nodup_cons] at hn
    cases j with
    | zero =>
      simp only [List.getElem?_cons_zero, Option.some.injEq] at hj
      subst hj
      simp only [List.set_cons_zero, alook, List.find?_cons]
      by_cases h : k = q.1
      · subst h; simp
      · have : (q.1 == k) = false := by simpa using Ne.symm h
        simp [this, h]
    | succ j =>
      simp only [List.getElem?_cons_succ] at hj
      have hmem : p ∈ es := List.mem_of_getElem? hj
      have hne : q.1 ≠ p.1 := fun e => hn.1 (by rw [e]; exact List.mem_map_of_mem hmem)
      simp only [List.set_cons_succ, alook, List.find?_cons]
      by_cases h : (q.1 == k) = true
      · have hk : q.1 = k := by simpa using h
        have : ¬ k = p.1 := fun e => hne (hk.trans e)
        simp [h, this]
      · simp only [Bool.not_eq_true] at h
        simp only [h]
        have := ih hn.2 j hj
        simp only [alook] at this
        exact this

/-- m[k] = v -/
theorem imap_update {w : World} {M : Nat} {es : List (Int × Value)} (ht : P.underlying tm = some (.map tk te)) (hk : P.underlying tk = some (.int .i64)) (h : IMap w M es) (k : Int) (v : Value) :
    ∃ o es', (Instr.mapUpdate tm (.map (some M)) (.int .i64 k) v).run P w = .ok () (setObjW w M o) ∧ IMap (setObjW w M o) M es' ∧ (∀ n, alook es' n = if n = k then some v else alook es n) := by
  obtain ⟨l, c, ⟨h1, h2, h3, h4⟩, rfl⟩ := h
  have hrun : (Instr.mapUpdate tm (.map (some M)) (.int .i64 k) v).run P w = match (l.findIdx? (·.1.1 == k)) with
      | some i => .ok () (setObjW w M (.map ((mkEntries l).modify i fun e => { e with key := .int .i64 k, val := v }) c))
      | none => .ok () (setObjW w M (.map ((mkEntries l).push { key := .int .i64 k, val := v, born := c }) (c + 1))) := by
    simp only [Instr.mapUpdate, Sem.run_bind, run_underlying ht, Result.andThen, getObj_map h4, run_checkKey_int hk, run_findKey_int hk]
    cases hf : l.findIdx? (·.1.1 == k) with
    | none => simp [setObj_map _ h4, setObjW]
    | some i =>
      obtain ⟨hi, hp⟩ := List.findIdx?_eq_some_iff_getElem.1 hf
      have hkey : (((mkEntries l)[i]?).map (·.key)).getD (Value.int .i64 k) = .int .i64 k := by
        simp only [mkEntries, List.getElem?_toArray, List.getElem?_map, List.getElem?_eq_getElem hi, Option.map_some, Option.getD_some]
        have := hp.1
        simp only [beq_iff_eq] at this
        rw [this]
      simp only [Option.map_some]
      rw [hkey]
      simp [Instr.keyThatStays, Instr.sameBits, setObj_map _ h4, setObjW]
  cases hf : l.findIdx? (·.1.1 == k) with
  | none =>
    rw [hf] at hrun
    have hnone : k ∉ (l.map (·.1)).map (·.1) := by
      rw [List.findIdx?_eq_none_iff] at hf
      simp only [List.map_map, List.mem_map, not_exists, not_and]
      intro p hp
      have := hf p hp
      simpa using this
    refine ⟨_, l.map (·.1) ++ [(k, v)], hrun, ⟨l ++ [((k, v), c)], c + 1, ⟨?_, ?_, ?_, ?_⟩, by simp⟩, fun n => ?_⟩
    · rw [List.map_append, List.nodup_append]
      refine ⟨h1, by simp, ?_⟩
      intro a ha b hb
      simp only [List.map_cons, List.map_nil, List.mem_singleton] at hb
      subst hb
      rintro rfl
      exact hnone (by simpa using ha)
    · rw [List.map_append, List.nodup_append]
      refine ⟨h2, by simp, ?_⟩
      intro a ha b hb
      simp only [List.map_cons, List.map_nil, List.mem_singleton] at hb
      subst hb
      rintro rfl
      obtain ⟨p, hp, rfl⟩ := List.mem_map.1 ha
      have := h3 p hp
      omega
    · intro p hp
      rw [List.mem_append] at hp
      rcases hp with hp | hp
      · have := h3 p hp; omega
      · simp only [List.mem_singleton] at hp
        subst hp; simp
    · rw [setObjW_same h4]
      simp [mkEntries]
    · rw [alook_append]
      have hl : alook (l.map (·.1)) k = none := (alook_none_iff _ _).2 hnone
      by_cases hn : n = k
      · subst hn
        rw [hl, if_pos rfl]
        simp [alook]
      · rw [if_neg hn]
        have : alook [(k, v)] n = none := by simp [alook, Ne.symm hn]
        rw [this]; simp
  | some i =>
    rw [hf] at hrun
    obtain ⟨hi, hp⟩ := List.findIdx?_eq_some_iff_getElem.1 hf
    have hkk : l[i].1.1 = k := by simpa using hp.1
    refine ⟨_, (l.map (·.1)).set i (k, v), hrun, ⟨l.set i ((k, v), l[i].2), c, ⟨?_, ?_, ?_, ?_⟩, by rw [List.map_set]⟩, fun n => ?_⟩
    · rw [List.map_set]
      have : (l.map (·.1.1)).set i k = l.map (·.1.1) := by
        rw [← hkk]
        have := @List.set_getElem_self _ (l.map (·.1.1)) i (by simpa using hi)
        simpa using this
      rw [this]; exact h1
    · rw [List.map_set]
      have : (l.map (·.2)).set i l[i].2 = l.map (·.2) := by
        have := @List.set_getElem_self _ (l.map (·.2)) i (by simpa using hi)
        simpa using this
      rw [this]; exact h2
    · intro p hp'
      rcases List.mem_or_eq_of_mem_set hp' with h | h
      · exact h3 p h
      · subst h; exact h3 l[i] (List.getElem_mem hi)
    · rw [setObjW_same h4]
      congr 2
      apply Array.ext_getElem?
      intro j
      simp only [mkEntries, Array.getElem?_modify, List.getElem?_toArray, List.getElem?_map, List.getElem?_set]
      by_cases hj : i = j
      · subst hj; simp [hi]
      · simp [hj]
    · have := alook_set (l.map (·.1)) (by rw [List.map_map]; exact h1) i l[i].1 (by simp [hi]) v n
      rw [hkk] at this
      exact this

/-- clear(m) -/
theorem imap_clear {w : World} {M : Nat} {es : List (Int × Value)} {ty : TypeId} (ht : P.underlying tm = some (.map tk te)) (h : IMap w M es) :
    ∃ o, (Builtin.clear_ #[tm] ty #[.map (some M)]).run P w = .ok (.tuple #[]) (setObjW w M o) ∧ IMap (setObjW w M o) M [] := by
  obtain ⟨l, c, ⟨h1, h2, h3, h4⟩, rfl⟩ := h
  refine ⟨.map #[] c, ?_, ⟨[], c, ⟨by simp, by simp, by simp, setObjW_same h4⟩, rfl⟩⟩
  simp [Builtin.clear_, run_underlying ht, getObj_map h4, setObj_map _ h4, setObjW]

/-- range m -/
theorem imap_range {w : World} {M : Nat} {l : List ((Int × Value) × Nat)} {c : Nat} (ht : P.underlying tm = some (.map tk te)) (h : IMapC w M l c) :
    (Instr.range tm (.map (some M))).run P w = .ok (.pointer (some ⟨w.heap.size, 0, none⟩)) (w.alloc (.mapIter (some M) c #[] c)) := by
  simp [Instr.range, run_underlying ht, getObj_map h.2.2.2, Result.andThen]

theorem getObj_iter {P : Program} {w : World} {r : Nat} {m : Option Nat} {s : Nat} {seen : Array Nat} {c : Nat} (hb : w.heap[r]? = some (.mapIter m s seen c)) : (getObj r).run P w = .ok (.mapIter m s seen c) w := by simp [getObj, Sem.run, hb]
theorem setObj_iter {P : Program} {w : World} {r : Nat} {m : Option Nat} {s : Nat} {seen : Array Nat} {c : Nat} (o : Obj) (hb : w.heap[r]? = some (.mapIter m s seen c)) : (setObj r o).run P w = .ok () (setObjW w r o) := by simp [setObj, Sem.run, hb, setObjW]

/-- one step of the range: all have been seen, or one that has not is taken -/
theorem imap_next {w : World} {M r : Nat} {l : List ((Int × Value) × Nat)} {c : Nat} {seen : Array Nat} {ty : TypeId} (h : IMapC w M l c) (hr : w.heap[r]? = some (.mapIter (some M) c seen c)) :
    ∃ v w0 w', (Instr.next (.pointer (some ⟨r, 0, none⟩)) false ty).run P w = .ok v w' ∧ (w0 = w ∨ w0 = w.drew) ∧
      (((∀ p ∈ l, seen.contains p.2 = true) ∧ v = .tuple #[.bool false] ∧ w' = w0) ∨
       (∃ p ∈ l, seen.contains p.2 = false ∧ v = .tuple #[.bool true, .int .i64 p.1.1, p.1.2] ∧ w' = setObjW w0 r (.mapIter (some M) c (seen.push p.2) c))) := by
  obtain ⟨h1, h2, h3, h4⟩ := h
  have hall : (mkEntries l).all (fun x => decide (c ≤ x.born)) = true → l = [] := by
    intro ha
    cases l with
    | nil => rfl
    | cons p l =>
      have := Array.all_eq_true_iff_forall_mem.1 ha { key := .int .i64 p.1.1, val := p.1.2, born := p.2 } (by simp [mkEntries])
      have := h3 p (by simp)
      simp at *
      omega
  have hcheck : (!seen.isEmpty && !(mkEntries l).isEmpty && (mkEntries l).all (fun x => decide (c ≤ x.born))) = false := by
    rw [Bool.and_eq_false_iff, Bool.and_eq_false_iff]
    cases hl : (mkEntries l).all (fun x => decide (c ≤ x.born)) with
    | false => exact .inr rfl
    | true => rw [hall hl]; exact .inl (.inr rfl)
  generalize hleft : ((mkEntries l).filter fun e => !seen.contains e.born) = left
  have hold : left.filter (fun x => decide (x.born < c)) = left := by
    apply Array.filter_eq_self.2
    intro e he
    rw [← hleft, Array.mem_filter] at he
    obtain ⟨hm, _⟩ := he
    simp only [mkEntries, List.mem_toArray, List.mem_map] at hm
    obtain ⟨p, hp, rfl⟩ := hm
    simpa using h3 p hp
  have hnew : left.filter (fun x => decide (c ≤ x.born)) = #[] := by
    apply Array.filter_eq_empty_iff.2
    intro e he
    rw [← hleft, Array.mem_filter] at he
    obtain ⟨hm, _⟩ := he
    simp only [mkEntries, List.mem_toArray, List.mem_map] at hm
    obtain ⟨p, hp, rfl⟩ := hm
    have := h3 p hp
    simp; omega
  by_cases hemp : left = #[]
  · refine ⟨.tuple #[.bool false], w, w, ?_, .inl rfl, .inl ⟨fun p hp => ?_, rfl, rfl⟩⟩
    · simp only [Instr.next, Sem.run_bind, getObj_iter hr, getObj_map h4, Result.andThen]
      simp only [ge_iff_le, hcheck, hleft, hold, hnew, hemp]
      simp [Question.forced]
    · rw [hemp] at hleft
      have := Array.filter_eq_empty_iff.1 hleft { key := .int .i64 p.1.1, val := p.1.2, born := p.2 } (by simp [mkEntries]; exact ⟨_, _, _, hp, rfl, rfl, rfl⟩)
      simpa using this
  · have hpos : 0 < left.size := Array.size_pos_iff.2 hemp
    have hcand : (if left.isEmpty = true then #[(none : Option MapEntry)] else #[]) ++ (left ++ #[]).map some = left.map some := by
      have : left.isEmpty = false := by simpa using hemp
      simp [this]
    obtain ⟨i, w0, hi, hw0, hch⟩ : ∃ i w0, i < left.size ∧ (w0 = w ∨ w0 = w.drew) ∧ (choose (.mapNext left.size)).run P w = .ok i w0 := by
      by_cases hf : left.size ≤ 1
      · exact ⟨0, w, hpos, .inl rfl, by simp [Question.forced, hf]⟩
      · exact ⟨_, w.drew, Nat.mod_lt _ hpos, .inr rfl, by simp [Question.forced, hf, Question.cut]; rfl⟩
    have hmem : left[i] ∈ (mkEntries l).filter (fun e => !seen.contains e.born) := by rw [hleft]; exact Array.getElem_mem hi
    rw [Array.mem_filter] at hmem
    obtain ⟨hm, hs⟩ := hmem
    simp only [mkEntries, List.mem_toArray, List.mem_map] at hm
    obtain ⟨p, hp, hpe⟩ := hm
    have hr0 : w0.heap[r]? = some (.mapIter (some M) c seen c) := by rcases hw0 with rfl | rfl <;> exact hr
    have hli : left[i] = { key := .int .i64 p.1.1, val := p.1.2, born := p.2 } := hpe.symm
    refine ⟨.tuple #[.bool true, .int .i64 p.1.1, p.1.2], w0, _, ?_, hw0, .inr ⟨p, hp, ?_, rfl, rfl⟩⟩
    · simp only [Instr.next, Sem.run_bind, getObj_iter hr, getObj_map h4, Result.andThen]
      simp only [ge_iff_le, hcheck]
      simp only [hleft, hold, hnew, hcand, Array.size_map, Bool.false_eq_true, if_false]
      simp only [Sem.run_bind, hch, Result.andThen, Array.getElem?_map, Array.getElem?_eq_getElem hi, Option.map_some, hli, setObj_iter _ hr0, Sem.run_pure]
    · rw [← hpe] at hs
      simpa using hs

theorem imap_entry {w : World} {M r : Nat} {l : List ((Int × Value) × Nat)} {c : Nat} {seen : Array Nat} (h : IMapC w M l c) {p : (Int × Value) × Nat} (hp : p ∈ l) (hr : w.heap[r]? = some (.mapIter (some M) c (seen.push p.2) c)) :
    (Instr.entry (.pointer (some ⟨r, 0, none⟩))).run P w = .ok (.tuple #[.int .i64 p.1.1, p.1.2]) w := by
  obtain ⟨h1, h2, h3, h4⟩ := h
  have hfind : (mkEntries l).find? (fun x => x.born == p.2) = some { key := .int .i64 p.1.1, val := p.1.2, born := p.2 } := by
    simp only [mkEntries, List.find?_toArray, List.find?_map]
    have : l.find? ((fun x : MapEntry => x.born == p.2) ∘ fun p => { key := .int .i64 p.1.1, val := p.1.2, born := p.2 }) = some p := by
      clear h1 h3 h4 hr
      induction l with
      | nil => simp at hp
      | cons q l ih =>
        simp only [List.map_cons, List.nodup_cons] at h2
        simp only [List.find?_cons, Function.comp]
        rcases List.mem_cons.1 hp with rfl | hp
        · simp
        · have : (q.2 == p.2) = false := by
            simp only [beq_eq_false_iff_ne]
            intro e
            exact h2.1 (by rw [e]; exact List.mem_map_of_mem hp)
          rw [this]
          exact ih hp h2.2
    rw [this]; rfl
  simp [Instr.entry, getObj_iter hr, getObj_map h4, Result.andThen, hfind]
end
end Mun
