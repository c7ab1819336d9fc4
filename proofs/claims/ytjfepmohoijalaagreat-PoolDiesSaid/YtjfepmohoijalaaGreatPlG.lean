/- maps.DeleteFunc over the dirty pages: those that were not changed since go. -/
import Derived.Test.YtjfepmohoijalaaGreatMgP
import Derived.Test.YtjfepmohoijalaaGreatMgQ
set_option maxRecDepth 100000
set_option linter.unusedVariables false
set_option linter.unusedSimpArgs false
namespace Mun
open Go Go.RowKit
open Go.Proofs

theorem erase_filter {β : Type} (key : β → Int) (k : Int) : ∀ (l : List β) (i : Nat), (l.map key).Nodup → l.findIdx? (fun p => key p == k) = some i → l.eraseIdx i = l.filter (fun p => !(key p == k))
  | [], i, _, h => by simp at h
  | p :: ps, i, hn, h => by
    rw [List.map_cons, List.nodup_cons] at hn
    rw [List.findIdx?_cons] at h
    by_cases hp : key p = k
    · have hb : (key p == k) = true := by simp [hp]
      rw [if_pos hb] at h
      injection h with h
      subst h
      rw [List.eraseIdx_cons_zero, List.filter_cons, hb]
      simp only [Bool.not_true, Bool.false_eq_true, if_false]
      refine (List.filter_eq_self.2 fun q hq => ?_).symm
      have : key q ≠ k := fun e => hn.1 (by rw [hp, ← e]; exact List.mem_map_of_mem hq)
      simp [this]
    · have hb : (key p == k) = false := by simp [hp]
      rw [if_neg (by rw [hb]; simp)] at h
      obtain ⟨j, hj, rfl⟩ := Option.map_eq_some_iff.1 h
      rw [List.eraseIdx_cons_succ, List.filter_cons, hb]
      simp only [Bool.not_false, if_true]
      rw [erase_filter key k ps j hn.2 hj]

theorem imap_deleteC {P : Program} {tm tk te : TypeId} {w : World} {M : Nat} {l : List ((Int × Value) × Nat)} {c : Nat} {ty : TypeId} (ht : P.underlying tm = some (.map tk te)) (hk : P.underlying tk = some (.int .i64)) (h : IMapC w M l c) (k : Int) (tk2 : TypeId) :
    ∃ o l', (Builtin.delete_ #[tm, tk2] ty #[.map (some M), .int .i64 k]).run P w = .ok (.tuple #[]) (setObjW w M o) ∧ IMapC (setObjW w M o) M l' c ∧ ∀ q, q ∈ l' ↔ q ∈ l ∧ q.1.1 ≠ k := by
  obtain ⟨h1, h2, h3, h4⟩ := h
  have hrun : (Builtin.delete_ #[tm, tk2] ty #[.map (some M), .int .i64 k]).run P w = match (l.findIdx? (·.1.1 == k)) with
      | some i => .ok (.tuple #[]) (setObjW w M (.map ((mkEntries l).eraseIdxIfInBounds i) c))
      | none => .ok (.tuple #[]) (setObjW w M (.map (mkEntries l) c)) := by
    simp [Builtin.delete_, Sem.run_bind, run_underlying ht, getObj_map h4, run_checkKey_int hk, run_findKey_int hk, Result.andThen]
    cases hf : l.findIdx? (·.1.1 == k) with
    | none => simp [setObj_map _ h4, setObjW]
    | some i => simp [setObj_map _ h4, setObjW]
  cases hf : l.findIdx? (·.1.1 == k) with
  | none =>
    rw [hf] at hrun
    refine ⟨_, l, hrun, ⟨h1, h2, h3, setObjW_same h4⟩, fun q => ⟨fun hq => ⟨hq, fun e => ?_⟩, fun hq => hq.1⟩⟩
    have := List.findIdx?_eq_none_iff.1 hf q hq
    simp [e] at this
  | some i =>
    rw [hf] at hrun
    have he := erase_filter (fun p : (Int × Value) × Nat => p.1.1) k l i h1 hf
    refine ⟨_, l.eraseIdx i, hrun, ⟨?_, ?_, fun p hp => h3 p (List.mem_of_mem_eraseIdx hp), ?_⟩, fun q => ?_⟩
    · rw [← map_erase]
      exact h1.sublist (List.eraseIdx_sublist ..)
    · rw [← map_erase]
      exact h2.sublist (List.eraseIdx_sublist ..)
    · rw [setObjW_same h4, mkEntries_erase]
    · rw [he, List.mem_filter]
      simp

/-- a value of the dirty map -/
def dchg : Value → Bool
  | .agg #[_, .bool c] => c
  | _ => false
def DVal (v : Value) : Prop := ∃ (r : Nat) (c : Bool), v = .agg #[.int .u64 (r : Int), .bool c]

/-- where the loop over the dirty pages stands -/
structure DelR (w : World) (M : Nat) (l0 : List ((Int × Value) × Nat)) (c : Nat) (seen : Array Nat) (l : List ((Int × Value) × Nat)) (wr : World) : Prop where
  it : wr.heap[w.heap.size]? = some (.mapIter (some M) c seen c)
  mp : IMapC wr M l c
  mem : ∀ q, q ∈ l ↔ q ∈ l0 ∧ (seen.contains q.2 = true → dchg q.1.2 = true)
  chg : Chg (fun k => k = M) (fun k => k = M) w wr

theorem DelR.drew {w wr : World} {M : Nat} {l0 l : List ((Int × Value) × Nat)} {c : Nat} {seen : Array Nat} (h : DelR w M l0 c seen l wr) : DelR w M l0 c seen l wr.drew := ⟨h.it, h.mp.keep rfl, h.mem, h.chg.trans (chg_drew _)⟩

theorem sync_del (w : World) (k : Int) (r : Nat) (c : Bool) : Calls Tryz.prog 48 #[.int .i64 k, .agg #[.int .u64 (r : Int), .bool c]] w fun e w' => e = .returned (.bool (!c)) ∧ Below w.heap.size w w' := by
  obtain ⟨w1, hw1⟩ : ∃ w1, w.alloc (.cells #[.int .u64 (r : Int), .bool c] 111) = w1 := ⟨_, rfl⟩
  have k1 : w1.heap[w.heap.size]? = some (.cells #[.int .u64 (r : Int), .bool c] 111 (0, 0)) := by rw [← hw1]; exact heap_alloc_new w _
  have c1 : w1.cell? ⟨w.heap.size, 1, none⟩ = some (.bool c) := cell_of_row w1 _ 1 _ _ _ k1
  have hb : Below w.heap.size w w1 := by rw [← hw1]; exact (Below.refl _ _).alloc (Nat.le_refl _) _
  have HB := Lib.hid hb
  clear k1 hb
  go_enter Tryz.func48, Tryz.ntmps48
  go_wp2_with (rw [hw1])
  go_ret
  exact ⟨rfl, HB.out⟩

def DelOut (w : World) (M : Nat) (ds : List (Int × Value)) (e : Ending) (w' : World) : Prop :=
  e = .returned (.tuple #[]) ∧ ∃ ds', IMap w' M ds' ∧ (∀ n, alook ds' n = (alook ds n).filter dchg) ∧ Chg (fun k => k = M) (fun k => k = M) w w'

theorem alook_mem_iff (es : List (Int × Value)) (hn : (es.map (·.1)).Nodup) (n : Int) (v : Value) : alook es n = some v ↔ (n, v) ∈ es := by
  constructor
  · intro h
    unfold alook at h
    obtain ⟨y, hy, rfl⟩ := Option.map_eq_some_iff.1 h
    have e1 := List.find?_some hy
    simp only [beq_iff_eq] at e1
    have := List.mem_of_find?_eq_some hy
    rw [← e1]
    exact this
  · intro h
    exact alook_mem es hn h

set_option maxHeartbeats 1000000 in
theorem del_dirt (w : World) (M : Nat) (ds : List (Int × Value)) (hm : IMap w M ds) (hv : ∀ p ∈ ds, DVal p.2) :
    Calls Tryz.prog 47 #[.map (some M), .func (.func 48) #[] #[]] w (DelOut w M ds) := by
  obtain ⟨l0, c, hl, hes⟩ := hm
  have hMlt : M < w.heap.size := lt_of_block hl.2.2.2
  have hrg := imap_range (P := Tryz.prog) Tryz.underlying98 hl
  have hstart : DelR w M l0 c #[] l0 (w.alloc (.mapIter (some M) c #[] c)) :=
    ⟨heap_alloc_new w _, hl.keep (by first | exact heap_alloc_old w _ hMlt | exact heap_alloc_old w _ _ hMlt), fun q => ⟨fun h => ⟨h, fun e => by simp at e⟩, fun h => h.1⟩, Chg.of_below ((Below.refl _ _).alloc (Nat.le_refl _) _) _⟩
  have hv0 : ∀ q ∈ l0, DVal q.1.2 := fun q hq => hv q.1 (by rw [← hes]; exact List.mem_map_of_mem hq)
  have HST := Lib.hid hstart
  have HX := Lib.hid (And.intro hl (And.intro hes (And.intro hMlt hv0)))
  clear hl hes hMlt hstart hv hv0
  go_enter Tryz.func47, Tryz.ntmps47
  go_wp2
  go_loopw [4, 5] (fun _ _ wr => ∃ seen l, DelR w M l0 c seen l wr) (fun _ _ wr => unseen l0 w.heap.size wr)
  case atStart => exact ⟨_, _, HST.out⟩
  case round =>
    obtain ⟨seen, l, hR⟩ := hrel
    obtain ⟨hl, hes, hMlt, hv0⟩ := HX.out
    obtain ⟨v, w0, w', hrun, hw0, hcase⟩ := imap_next (P := Tryz.prog) (ty := 0) hR.mp hR.it
    have hnx : ∀ ty, (Instr.next (.pointer (some ⟨w.heap.size, 0, none⟩)) false ty).run Tryz.prog wr = _ := fun _ => hrun
    have hR0 : DelR w M l0 c seen l w0 := by rcases hw0 with rfl | rfl; exact hR; exact hR.drew
    have hu0 : unseen l0 w.heap.size wr = (l0.filter fun p => !seen.contains p.2).length := by unfold unseen; rw [hR.it]
    rcases hcase with ⟨hall, rfl, rfl⟩ | ⟨p, hp, hns, rfl, rfl⟩
    · have hfin : DelOut w M ds (.returned (.tuple #[])) w' := by
        refine ⟨rfl, l.map (·.1), ⟨l, c, hR0.mp, rfl⟩, fun n => ?_, hR0.chg⟩
        have hn1 : ((l.map (·.1)).map (·.1)).Nodup := by rw [List.map_map]; exact hR0.mp.1
        have hn0 : (ds.map (·.1)).Nodup := by rw [← hes, List.map_map]; exact hl.1
        apply Option.ext
        intro u
        rw [alook_mem_iff _ hn1, Option.filter_eq_some_iff, alook_mem_iff _ hn0, ← hes, List.mem_map, List.mem_map]
        constructor
        · rintro ⟨q, hq, e⟩
          have h1 := (hR0.mem q).1 hq
          exact ⟨⟨q, h1.1, e⟩, by have := h1.2 (hall q hq); rw [e] at this; exact this⟩
        · rintro ⟨⟨q, hq, e⟩, hd⟩
          exact ⟨q, (hR0.mem q).2 ⟨hq, fun _ => by rw [e]; exact hd⟩, e⟩
      have HF := Lib.hid hfin
      clear hfin hl hes hMlt hv0 hR hrun hw0 hall hu0 hR0
      go_wp2
      go_end0
      exact HF.out
    · have hp0 := ((hR0.mem p).1 hp).1
      obtain ⟨⟨n, v⟩, b⟩ := p
      obtain ⟨rr, cc, hv⟩ := hv0 _ hp0
      have hv : v = .agg #[.int .u64 (rr : Int), .bool cc] := hv
      subst hv
      have hMr : M ≠ w.heap.size := by omega
      obtain ⟨w1, hw1⟩ : ∃ w1, setObjW w0 w.heap.size (.mapIter (some M) c (seen.push b) c) = w1 := ⟨_, rfl⟩
      have it1 : w1.heap[w.heap.size]? = some (.mapIter (some M) c (seen.push b) c) := by rw [← hw1]; exact setObjW_same hR0.it
      have mp1 : IMapC w1 M l c := hR0.mp.keep (by rw [← hw1]; exact setObjW_other _ _ _ _ hMr)
      have hc1 : Chg (fun k => k = M) (fun k => k = M) w w1 := by
        rw [← hw1]
        exact ⟨hR0.chg.os, hR0.chg.tape, hR0.chg.output, by rw [setObjW_size]; exact hR0.chg.size, fun k hk hf => by rw [setObjW_other _ _ _ _ (by omega)]; exact hR0.chg.block k hk hf, fun k hk => .inl hk⟩
      have hen := imap_entry (P := Tryz.prog) mp1 hp it1
      obtain ⟨B, hB⟩ : ∃ B, w1.heap.size = B := ⟨_, rfl⟩
      obtain ⟨w2, hw2⟩ : ∃ w2, w1.alloc (.cells #[.int .u64 0, .bool false] 111) = w2 := ⟨_, rfl⟩
      have kb2 : w2.heap[B]? = some (.cells #[.int .u64 0, .bool false] 111 (0, 0)) := by rw [← hw2, ← hB]; exact heap_alloc_new w1 _
      obtain ⟨w3, hw3⟩ : ∃ w3, w2.setRow B #[.int .u64 (rr : Int), .bool cc] = w3 := ⟨_, rfl⟩
      have kb3 : w3.heap[B]? = some (.cells #[.int .u64 (rr : Int), .bool cc] 111 (0, 0)) := by rw [← hw3]; exact setRow_heap _ _ _ _ _ _ kb2
      have hb3 : Below w1.heap.size w1 w3 := by rw [← hw3, ← hw2]; exact below_setRow ((Below.refl _ _).alloc (Nat.le_refl _) _) (Nat.le_of_eq hB) _
      have q30 : w3.cell? ⟨B, 0, none⟩ = some (.int .u64 (rr : Int)) := cell_of_row w3 B 0 _ _ _ kb3
      have q31 : w3.cell? ⟨B, 1, none⟩ = some (.bool cc) := cell_of_row w3 B 1 _ _ _ kb3
      have hsd := sync_del w3 n rr cc
      have HSD := Lib.hid hsd
      have KB2 := Lib.hid kb2
      have hcp : ∀ y, (seen.push b).contains y = true ↔ seen.contains y = true ∨ y = b := fun y => by simp
      have hborn : ∀ q ∈ l0, q.2 = b → q = ((n, .agg #[.int .u64 (rr : Int), .bool cc]), b) := fun q hq e => by
        obtain ⟨a, ha, rfl⟩ := List.getElem_of_mem hq
        obtain ⟨a', ha', e'⟩ := List.getElem_of_mem hp0
        have h5 : a = a' := (List.getElem_inj (h₀ := by rw [List.length_map]; exact ha) (h₁ := by rw [List.length_map]; exact ha') hl.2.1).1 (by rw [List.getElem_map, List.getElem_map, e', e])
        subst h5
        exact e'
      have hkey : ∀ q ∈ l0, q.1.1 = n → q = ((n, .agg #[.int .u64 (rr : Int), .bool cc]), b) := fun q hq e => by
        obtain ⟨a, ha, rfl⟩ := List.getElem_of_mem hq
        obtain ⟨a', ha', e'⟩ := List.getElem_of_mem hp0
        have h5 : a = a' := (List.getElem_inj (h₀ := by rw [List.length_map]; exact ha) (h₁ := by rw [List.length_map]; exact ha') hl.1).1 (by rw [List.getElem_map, List.getElem_map, e', e])
        subst h5
        exact e'
      have HZ := Lib.hid (And.intro hR0.mem (And.intro it1 (And.intro mp1 (And.intro hc1 (And.intro hb3 (And.intro hcp (And.intro hborn (And.intro hkey (And.intro hu0 (And.intro hns (And.intro hp0 (And.intro hB hMlt))))))))))))
      rw [hw1] at hnx
      clear hR hl hes hMlt hv0 hrun hw0 hR0 hu0 hp hns hp0 hMr it1 mp1 hc1 kb2 kb3 hb3 hsd hcp hborn hkey hw1 hrg
      go_wp2_with (first | (refine wpList_store_row rfl _ _ _ rfl B _ rfl rfl _ _ KB2.out info_dirt rfl (by simp [Value.oneCell']) ?_; rw [hw3]) | rw [hB] | rw [hw2])
      refine HSD.out.mono ?_
      rintro e w4 ⟨rfl, hb4⟩
      obtain ⟨hmem, it1, mp1, hc1, hb3, hcp, hborn, hkey, hu0, hns, hp0, hB1, hMlt⟩ := HZ.out
      have hb14 : Below w1.heap.size w1 w4 := hb3.trans (hb4.mono hb3.size)
      have it4 : w4.heap[w.heap.size]? = some (.mapIter (some M) c (seen.push b) c) := (hb14.block _ (Array.getElem?_eq_some_iff.1 it1).1).trans it1
      have mp4 : IMapC w4 M l c := mp1.keep (hb14.block _ (Nat.lt_of_lt_of_le hMlt hc1.size))
      have hc4 : Chg (fun k => k = M) (fun k => k = M) w w4 := hc1.trans (Chg.of_below hb14 _)
      cases cc with
      | true =>
        have hR4 : DelR w M l0 c (seen.push b) l w4 := ⟨it4, mp4, fun q => by
          rw [hmem q, hcp]
          constructor
          · rintro ⟨h1, h2⟩
            refine ⟨h1, fun h3 => ?_⟩
            rcases h3 with h3 | h3
            · exact h2 h3
            · rw [hborn q h1 h3]; rfl
          · rintro ⟨h1, h2⟩
            exact ⟨h1, fun h3 => h2 (.inl h3)⟩, hc4⟩
        have HR4 := Lib.hid (And.intro hR4 (And.intro hu0 (And.intro hns hp0)))
        clear hmem it1 mp1 hc1 hb3 hcp hborn hkey hu0 hns hp0 hB1 hMlt hb14 it4 mp4 hc4 hR4 hb4
        go_wp2
        go_roundw
        case rel => exact ⟨_, _, HR4.out.1⟩
        case measure =>
          obtain ⟨hR4, hu0, hns, hp0⟩ := HR4.out
          rw [hu0]
          unfold unseen
          rw [hR4.it]
          refine filter_lt _ _ l0 (fun x _ hx => ?_) ⟨_, hp0, by simpa using hns, by simp⟩
          simp at hx ⊢
          exact hx.1
      | false =>
        obtain ⟨o, l', hdel, hm5, hl5⟩ := imap_deleteC (P := Tryz.prog) (ty := 0) Tryz.underlying98 Tryz.underlying3 mp4 n 3
        obtain ⟨w5, hw5⟩ : ∃ w5, setObjW w4 M o = w5 := ⟨_, rfl⟩
        rw [hw5] at hdel hm5
        have hR5 : DelR w M l0 c (seen.push b) l' w5 := ⟨by rw [← hw5, setObjW_other _ _ _ _ (by omega)]; exact it4, hm5, fun q => by
          rw [hl5 q, hmem q, hcp]
          constructor
          · rintro ⟨⟨h1, h2⟩, h4⟩
            refine ⟨h1, fun h3 => ?_⟩
            rcases h3 with h3 | h3
            · exact h2 h3
            · exact absurd (by rw [hborn q h1 h3]) h4
          · rintro ⟨h1, h2⟩
            refine ⟨⟨h1, fun h3 => h2 (.inl h3)⟩, fun h4 => ?_⟩
            have h5 := hkey q h1 h4
            have h6 := h2 (.inr (by rw [h5]))
            rw [h5] at h6
            exact Bool.noConfusion (show false = true from h6), hc4.trans (by rw [← hw5]; exact setObjW_chg _ _ _ rfl)⟩
        have HR4 := Lib.hid (And.intro hR5 (And.intro hu0 (And.intro hns hp0)))
        clear hmem it1 mp1 hc1 hb3 hcp hborn hkey hu0 hns hp0 hB1 hMlt hb14 it4 mp4 hc4 hR5 hb4 hm5 hl5
        go_wp2_with (rw [hw5])
        go_roundw
        case rel => exact ⟨_, _, HR4.out.1⟩
        case measure =>
          obtain ⟨hR4, hu0, hns, hp0⟩ := HR4.out
          rw [hu0]
          unfold unseen
          rw [hR4.it]
          refine filter_lt _ _ l0 (fun x _ hx => ?_) ⟨_, hp0, by simpa using hns, by simp⟩
          simp at hx ⊢
          exact hx.1
end Mun
