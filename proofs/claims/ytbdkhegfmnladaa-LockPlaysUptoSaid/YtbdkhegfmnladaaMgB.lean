/- Texts of mine, one behind the other: LockP, LockM, LockA, LockB, LockC, LockD, LockE. -/
import Derived.Test.YtbdkhegfmnladaaMgA
import Derived.Great.Walk
import Derived.Laws.CopyRow
import Derived.Great.BuildSlice
import Derived.Deep.RegionHeldLaw
import Derived.StillTailTactics
import Derived.Deep.DeepCutAuto
import Derived.Laws.Append
section
/- Contract of lock.pairs: the table of modes, as one closed row. -/
set_option maxRecDepth 100000
set_option linter.unusedVariables false
namespace Mun
open Go Go.RowKit
open Go.Proofs
open Go.Great
@[irreducible] def tblB : Array Value := #[.bool false, .bool false, .bool false, .bool false, .bool false, .bool false, .bool true, .bool true, .bool true, .bool false, .bool false, .bool true, .bool true, .bool false, .bool false, .bool false, .bool true, .bool false, .bool true, .bool false, .bool false, .bool false, .bool false, .bool false, .bool false]
@[irreducible] def tbl0 : Array Value := Array.replicate 25 (.bool false)
theorem tblB_size : tblB.size = 25 := by unfold tblB; rfl
theorem tbl0_size : tbl0.size = 25 := by unfold tbl0; rfl
theorem b59 (w : World) : (Instr.build 59 #[(1, .agg #[.bool false, .bool true, .bool true, .bool true, .bool false]), (2, .agg #[.bool false, .bool true, .bool true, .bool false, .bool false]), (3, .agg #[.bool false, .bool true, .bool false, .bool true, .bool false])]).run Try.prog w = .ok (.agg tblB) w := by
  unfold tblB
  exact run_build w _ _ _ (by kernel_rfl)
theorem st59 (w : World) (m : Mode) : (Instr.storeAt 59 (.pointer (some ⟨w.heap.size, 0, none⟩)) (.agg tblB)).run Try.prog (w.alloc (.cells tbl0 59)) = .ok () ((w.alloc (.cells tbl0 59)).setRow w.heap.size tblB) := by
  have h := run_storeVar_row (P := Try.prog) (w.alloc (.cells tbl0 59)) w.heap.size 59 59 tbl0 tblB (heap_alloc_new w _) (by rw [tblB_size]; kernel_rfl) (by rw [tblB_size, tbl0_size]) (by unfold tblB; kernel_rfl)
  simp [Instr.storeAt, Instr.sureAddr, h]
theorem z59 (w : World) : (zeroValue 59).run Try.prog w = .ok (.agg tbl0) w := by
  have h : ((Try.prog.info? 59).bind (·.zero)) = some (.agg tbl0) := by unfold tbl0; kernel_rfl
  cases hq : Try.prog.info? 59 with
  | none => simp [hq] at h
  | some i =>
    simp [hq] at h
    simp [zeroValue, typeInfo, hq, h]
theorem al59 (w : World) : (Instr.alloc 59 true (.tuple #[])).run Try.prog w = .ok (.pointer (some ⟨w.heap.size, 0, none⟩)) (w.alloc (.cells tbl0 59)) := by
  simp only [Instr.alloc, Sem.run_bind, z59, Result.andThen, newVar, newRow, Value.cells]
  rfl
theorem pairs_any (w : World) : Calls Try.prog 28 #[] w fun e w' => e = .returned (.agg tblB) ∧ Below w.heap.size w w' := by
  go_enter Try.func28, Try.ntmps28
  apply wp_seq_k; intro K1 hK1
  apply wp_region_lit
  refine wpList_allocTo rfl (some 0) rfl (.pointer (some ⟨w.heap.size, 0, none⟩)) (.cells tbl0 59) (by simp [execOp, al59]) ?_
  apply wpList_nil
  refine hK1 _ _ ?_
  clear hK1 K1
  try (apply wp_seq_k; intro K2 hK2)
  apply wp_region_lit
  refine wpList_buildTo rfl 58 _ rfl (some 1) rfl #[.bool false, .bool true, .bool true, .bool true, .bool false] (by as_aux_lemma => kernel_rfl) ?_
  refine wpList_buildTo rfl 58 _ rfl (some 2) rfl #[.bool false, .bool true, .bool true, .bool false, .bool false] (by as_aux_lemma => kernel_rfl) ?_
  refine wpList_buildTo rfl 58 _ rfl (some 3) rfl #[.bool false, .bool true, .bool false, .bool true, .bool false] (by as_aux_lemma => kernel_rfl) ?_
  refine wpList_buildTo rfl 59 _ rfl (some 4) rfl tblB (by unfold tblB; as_aux_lemma => kernel_rfl) ?_
  refine wpList_store_rowTo rfl 59 _ _ rfl rfl w.heap.size tblB (by as_aux_lemma => kernel_rfl) (by as_aux_lemma => kernel_rfl) 59 tbl0 (heap_alloc_new w _) (by rw [tblB_size]; as_aux_lemma => kernel_rfl) (by rw [tblB_size, tbl0_size]) (by unfold tblB; as_aux_lemma => kernel_rfl) ?_
  apply wpList_nil
  refine hK2 _ _ ?_
  clear hK2 K2
  apply wp_ret
  refine bodyPost_ret (results_cell_row (fn := Try.f28) (p := 0) (ty := 59) rfl _ _ w.heap.size 59 tblB (0, 0) _ (by as_aux_lemma => kernel_rfl) ?_ Try.underlying59 rfl (by rw [tblB_size]; as_aux_lemma => kernel_rfl)) (by as_aux_lemma => kernel_rfl) ⟨rfl, ?_⟩
  · exact setRow_heap _ _ tbl0 tblB 59 (0, 0) (heap_alloc_new w _)
  · refine ((Below.refl _ _).alloc (Nat.le_refl _) (.cells tbl0 59)).trans ⟨rfl, rfl, rfl, by simp, fun k hk => ?_⟩
    exact setRow_other _ _ _ _ (by omega)
theorem ix59_1 (W : World) : (Instr.index 59 (.agg tblB) (.int .i64 1)).run Try.prog W = .ok (.agg #[.bool false, .bool true, .bool true, .bool true, .bool false]) W := by
  unfold tblB
  kernel_rfl
theorem ix59_2 (W : World) : (Instr.index 59 (.agg tblB) (.int .i64 2)).run Try.prog W = .ok (.agg #[.bool false, .bool true, .bool true, .bool false, .bool false]) W := by
  unfold tblB
  kernel_rfl
theorem ix59_3 (W : World) : (Instr.index 59 (.agg tblB) (.int .i64 3)).run Try.prog W = .ok (.agg #[.bool false, .bool true, .bool false, .bool true, .bool false]) W := by
  unfold tblB
  kernel_rfl
theorem ix59_4 (W : World) : (Instr.index 59 (.agg tblB) (.int .i64 4)).run Try.prog W = .ok (.agg #[.bool false, .bool false, .bool false, .bool false, .bool false]) W := by
  unfold tblB
  kernel_rfl
theorem ix58_1 (a b c d e : Bool) (W : World) : (Instr.index 58 (.agg #[.bool a, .bool b, .bool c, .bool d, .bool e]) (.int .i64 1)).run Try.prog W = .ok (.bool b) W := by
  kernel_rfl
theorem ix58_2 (a b c d e : Bool) (W : World) : (Instr.index 58 (.agg #[.bool a, .bool b, .bool c, .bool d, .bool e]) (.int .i64 2)).run Try.prog W = .ok (.bool c) W := by
  kernel_rfl
theorem ix58_3 (a b c d e : Bool) (W : World) : (Instr.index 58 (.agg #[.bool a, .bool b, .bool c, .bool d, .bool e]) (.int .i64 3)).run Try.prog W = .ok (.bool d) W := by
  kernel_rfl
theorem ix58_4 (a b c d e : Bool) (W : World) : (Instr.index 58 (.agg #[.bool a, .bool b, .bool c, .bool d, .bool e]) (.int .i64 4)).run Try.prog W = .ok (.bool e) W := by
  kernel_rfl
end Mun
end

section
/- Contracts of the modes: isMode, Together, Join and the reference's. -/
set_option maxRecDepth 100000
set_option linter.unusedVariables false
namespace Mun
open Go Go.RowKit
open Go.Proofs

def isM (m : Int) : Bool := decide (1 ≤ m) && decide (m ≤ 4)
/-- two modes that go together -/
def tog (a b : Int) : Bool := isM a && isM b && (match a, b with | 1, 1 | 1, 2 | 1, 3 | 2, 1 | 2, 2 | 3, 1 | 3, 3 => true | _, _ => false)
/-- the mode of two -/
def jn (a b : Int) : Int := if isM a && isM b then (if min a b = 2 ∧ max a b = 3 then 4 else max a b) else 0

theorem isM_iff (m : Int) : isM m = true ↔ m = 1 ∨ m = 2 ∨ m = 3 ∨ m = 4 := by unfold isM; simp; omega

theorem isMode_any (w : World) (m : Int) : Calls Try.prog 27 #[.int .i64 m] w fun e w' => e = .returned (.bool (isM m)) ∧ w' = w := by
  unfold isM
  by_cases h1 : 1 ≤ m
  · have h1' : m ≥ 1 := h1
    rw [decide_eq_true h1, Bool.true_and]
    go_enter Try.func27, Try.ntmps27
    go_wp2
    go_ret
    exact ⟨rfl, rfl⟩
  · have h1' : ¬ m ≥ 1 := h1
    rw [decide_eq_false h1, Bool.false_and]
    go_enter Try.func27, Try.ntmps27
    go_wp2
    go_ret
    exact ⟨rfl, rfl⟩

theorem together_any (w : World) (a b : Int) : Calls Try.prog 12 #[.int .i64 a, .int .i64 b] w fun e w' => e = .returned (.bool (tog a b)) ∧ Below w.heap.size w w' := by
  have ha := isMode_any w a
  have hb := isMode_any w b
  by_cases h1 : isM a = true
  · by_cases h2 : isM b = true
    · rw [h1] at ha
      rw [h2] at hb
      have hp := pairs_any w
      have i1 := ix59_1
      have i2 := ix59_2
      have i3 := ix59_3
      have i4 := ix59_4
      have j1 := ix58_1
      have j2 := ix58_2
      have j3 := ix58_3
      have j4 := ix58_4
      rcases (isM_iff a).1 h1 with rfl | rfl | rfl | rfl <;> rcases (isM_iff b).1 h2 with rfl | rfl | rfl | rfl
      all_goals
        go_enter Try.func12, Try.ntmps12
        go_wp2_with fail
        refine ha.mono ?_
        rintro e w' ⟨rfl, rfl⟩
        go_wp2_with fail
        refine hb.mono ?_
        rintro e w' ⟨rfl, rfl⟩
        go_wp2_with fail
        refine hp.mono ?_
        rintro e w' ⟨rfl, hb⟩
        go_wp2
        go_ret
        exact ⟨rfl, hb⟩
    · have h2' : isM b = false := by simpa using h2
      have ht : tog a b = false := by simp [tog, h2']
      rw [h1] at ha
      rw [h2'] at hb
      rw [ht]
      clear h1 h2 h2' ht
      go_enter Try.func12, Try.ntmps12
      go_wp2_with fail
      refine ha.mono ?_
      rintro e w' ⟨rfl, rfl⟩
      go_wp2_with fail
      refine hb.mono ?_
      rintro e w' ⟨rfl, rfl⟩
      go_wp2
      go_ret
      exact ⟨rfl, Below.refl _ _⟩
  · have h1' : isM a = false := by simpa using h1
    have ht : tog a b = false := by simp [tog, h1']
    rw [h1'] at ha
    rw [ht]
    clear h1 h1' ht hb
    go_enter Try.func12, Try.ntmps12
    go_wp2_with fail
    refine ha.mono ?_
    rintro e w' ⟨rfl, rfl⟩
    go_wp2
    go_ret
    exact ⟨rfl, Below.refl _ _⟩

theorem isM_min_max (a b : Int) : (isM (min a b) && isM (max a b)) = (isM a && isM b) := by
  rw [Bool.eq_iff_iff]
  simp only [Bool.and_eq_true, isM, decide_eq_true_eq]
  omega

theorem join_any (w : World) (a b : Int) : Calls Try.prog 14 #[.int .i64 a, .int .i64 b] w fun e w' => e = .returned (.int .i64 (jn a b)) ∧ w' = w := by
  by_cases h1 : isM a = true ∧ isM b = true
  · obtain ⟨h1, h2⟩ := h1
    rcases (isM_iff a).1 h1 with rfl | rfl | rfl | rfl <;> rcases (isM_iff b).1 h2 with rfl | rfl | rfl | rfl
    all_goals
      go_enter Try.func14, Try.ntmps14
      go_wp2_with fail
      refine (isMode_any _ _).mono ?_
      rintro e w' ⟨rfl, rfl⟩
      go_wp2_with fail
      refine (isMode_any _ _).mono ?_
      rintro e w' ⟨rfl, rfl⟩
      go_wp2
      go_ret
      exact ⟨rfl, rfl⟩
  · have hf : (isM a && isM b) = false := by rw [Bool.eq_false_iff]; intro h; exact h1 (by simpa using h)
    have hj : jn a b = 0 := by unfold jn; rw [hf]; rfl
    rw [hj]
    have hmm := isM_min_max a b
    rw [hf] at hmm
    have ha := isMode_any w (min a b)
    have hb := isMode_any w (max a b)
    clear h1 hf hj
    obtain ⟨x, hx⟩ : ∃ x, min a b = x := ⟨_, rfl⟩
    obtain ⟨y, hy⟩ : ∃ y, max a b = y := ⟨_, rfl⟩
    rw [hx] at ha hmm
    rw [hy] at hb hmm
    cases hxv : isM x with
    | false =>
      rw [hxv] at ha
      clear hb hmm hxv
      go_enter Try.func14, Try.ntmps14
      go_wp2_with fail
      refine ha.mono ?_
      rintro e w' ⟨rfl, rfl⟩
      go_wp2
      go_ret
      exact ⟨rfl, rfl⟩
    | true =>
      rw [hxv, Bool.true_and] at hmm
      rw [hxv] at ha
      rw [hmm] at hb
      clear hmm hxv
      go_enter Try.func14, Try.ntmps14
      go_wp2_with fail
      refine ha.mono ?_
      rintro e w' ⟨rfl, rfl⟩
      go_wp2_with fail
      refine hb.mono ?_
      rintro e w' ⟨rfl, rfl⟩
      go_wp2
      go_ret
      exact ⟨rfl, rfl⟩

theorem out_cases (a b : Int) (h : ¬ (isM a = true ∧ isM b = true)) : a < 1 ∨ (¬ a < 1 ∧ a > 4) ∨ (¬ a < 1 ∧ ¬ a > 4 ∧ b < 1) ∨ (¬ a < 1 ∧ ¬ a > 4 ∧ ¬ b < 1 ∧ b > 4) := by
  simp only [isM, Bool.and_eq_true, decide_eq_true_eq] at h
  omega

set_option maxHeartbeats 4000000 in
theorem reftogether_any (w : World) (a b : Int) : Calls Try.prog 13 #[.int .i64 a, .int .i64 b] w fun e w' => e = .returned (.bool (tog a b)) ∧ Below w.heap.size w w' := by
  by_cases h1 : isM a = true ∧ isM b = true
  · obtain ⟨h1, h2⟩ := h1
    rcases (isM_iff a).1 h1 with rfl | rfl | rfl | rfl <;> rcases (isM_iff b).1 h2 with rfl | rfl | rfl | rfl
    all_goals
      go_enter Try.func13, Try.ntmps13
      go_wp2
      go_ret
      exact ⟨rfl, (Below.refl _ _).alloc (Nat.le_refl _) _⟩
  · have hf : (isM a && isM b) = false := by rw [Bool.eq_false_iff]; intro h; exact h1 (by simpa using h)
    have hj : tog a b = false := by unfold tog; rw [hf]; rfl
    rw [hj]
    have hc := out_cases a b h1
    clear h1 hf hj
    rcases hc with h | ⟨h, h2⟩ | ⟨h, h2, h3⟩ | ⟨h, h2, h3, h4⟩
    all_goals
      go_enter Try.func13, Try.ntmps13
      go_wp2
      go_ret
      exact ⟨rfl, Below.refl _ _⟩

theorem refjoin_any (w : World) (a b : Int) : Calls Try.prog 15 #[.int .i64 a, .int .i64 b] w fun e w' => e = .returned (.int .i64 (jn a b)) ∧ w' = w := by
  by_cases h1 : isM a = true ∧ isM b = true
  · obtain ⟨h1, h2⟩ := h1
    rcases (isM_iff a).1 h1 with rfl | rfl | rfl | rfl <;> rcases (isM_iff b).1 h2 with rfl | rfl | rfl | rfl
    all_goals
      go_enter Try.func15, Try.ntmps15
      go_wp2
      go_ret
      exact ⟨rfl, rfl⟩
  · have hf : (isM a && isM b) = false := by rw [Bool.eq_false_iff]; intro h; exact h1 (by simpa using h)
    have hj : jn a b = 0 := by unfold jn; rw [hf]; rfl
    rw [hj]
    have hc := out_cases a b h1
    clear h1 hf hj
    rcases hc with h | ⟨h, h2⟩ | ⟨h, h2, h3⟩ | ⟨h, h2, h3, h4⟩
    all_goals
      go_enter Try.func15, Try.ntmps15
      go_wp2
      go_ret
      exact ⟨rfl, rfl⟩
end Mun
end

section
/- How a table of locks lies; contracts of New, goes, hold. -/
set_option maxRecDepth 100000
set_option linter.unusedVariables false
namespace Mun
open Go Go.RowKit
open Go.Proofs

abbrev BL := List (ByteArray × Value)
abbrev UL := List (Int × Value)

/-- block T is a table: its three maps -/
structure TabAt (w : World) (T P W N : Nat) (ps : BL) (ws ns : UL) : Prop where
  blk : w.heap[T]? = some (.cells #[.map (some P), .map (some W), .map (some N)] 66 (0, 0))
  pl : GMap w P ps
  wt : GMap w W ws
  nm : GMap w N ns
/-- block p is a place: its holders, its queue -/
structure PlAt (w : World) (p H : Nat) (q : Value) (hs : UL) : Prop where
  blk : w.heap[p]? = some (.cells #[.map (some H), q] 71 (0, 0))
  hl : GMap w H hs

theorem tabNew_any (w : World) : Calls Try.prog 16 #[] w fun e w' => e = .returned (.pointer (some ⟨w.heap.size + 3, 0, none⟩)) ∧ Below w.heap.size w w' ∧ w'.heap.size = w.heap.size + 4 ∧
    TabAt w' (w.heap.size + 3) w.heap.size (w.heap.size + 1) (w.heap.size + 2) [] [] [] := by
  have hmm := @run_makeMap Try.prog
  go_enter Try.func16, Try.ntmps16
  go_wp2
  go_ret
  refine ⟨rfl, ((((Below.refl _ _).alloc (Nat.le_refl _) _).alloc (by simp) _).alloc (by simp; omega) _).alloc (by simp; omega) _, by simp, ⟨?_, ?_, ?_, ?_⟩⟩
  · have := heap_alloc_new (((w.alloc (.map #[] 0)).alloc (.map #[] 0)).alloc (.map #[] 0)) (.cells #[.map (some w.heap.size), .map (some (w.heap.size + 1)), .map (some (w.heap.size + 1 + 1))] 66)
    simpa using this
  · refine GMap.keep (gmap_new w) ?_
    rw [heap_alloc_old _ _ (by simp; omega), heap_alloc_old _ _ (by simp; omega), heap_alloc_old _ _ (by simp)]
  · have h := gmap_new (α := Int) (w.alloc (.map #[] 0))
    rw [World.size_alloc] at h
    refine GMap.keep h ?_
    rw [heap_alloc_old _ _ (by simp), heap_alloc_old _ _ (by simp)]
  · have h := gmap_new (α := Int) ((w.alloc (.map #[] 0)).alloc (.map #[] 0))
    rw [World.size_alloc, World.size_alloc] at h
    refine GMap.keep h ?_
    rw [heap_alloc_old _ _ (by simp)]

/-- all but an owner hold what goes together with a mode -/
def goesP (hs : UL) (o m : Int) : Bool := hs.all fun p => decide (p.1 = o) || (match p.2 with | .int .i64 k => tog k m | _ => false)
def ModesAt (hs : UL) : Prop := ∀ p ∈ hs, ∃ k, p.2 = .int .i64 k


theorem nodup_inj2 {α β : Type} {f : α → β} : ∀ {l : List α}, (l.map f).Nodup → ∀ {x y : α}, x ∈ l → y ∈ l → f x = f y → x = y
  | [], _, x, y, hx, _, _ => by simp at hx
  | a :: l, h, x, y, hx, hy, e => by
    simp only [List.map_cons, List.nodup_cons] at h
    rcases List.mem_cons.1 hx with rfl | hx' <;> rcases List.mem_cons.1 hy with rfl | hy'
    · rfl
    · exact absurd (e ▸ List.mem_map_of_mem hy') h.1
    · exact absurd (e ▸ List.mem_map_of_mem hx') h.1
    · exact nodup_inj2 h.2 hx' hy' e

def gunseen (l : List ((Int × Value) × Nat)) (r : Nat) (w : World) : Nat :=
  match w.heap[r]? with
  | some (.mapIter _ _ seen _) => (l.filter fun p => !seen.contains p.2).length
  | _ => 0

theorem filter_lt' {β : Type} (p q : β → Bool) : ∀ (l : List β), (∀ x ∈ l, q x = true → p x = true) → (∃ x ∈ l, p x = true ∧ q x = false) → (l.filter q).length < (l.filter p).length
  | [], _, ⟨x, hx, _⟩ => by simp at hx
  | a :: l, h, ⟨x, hx, h1, h2⟩ => by
    have hle : ∀ (l : List β), (∀ x ∈ l, q x = true → p x = true) → (l.filter q).length ≤ (l.filter p).length := by
      intro l
      induction l with
      | nil => intro _; simp
      | cons b l ih =>
        intro hb
        have := ih fun x hx => hb x (by simp [hx])
        have hbb := hb b (by simp)
        simp only [List.filter_cons]
        cases hq : q b <;> cases hp : p b <;> simp_all <;> omega
    have hl := hle l fun x hx => h x (by simp [hx])
    have ha := h a (by simp)
    rcases List.mem_cons.1 hx with rfl | hx
    · simp [h1, h2]; omega
    · have ih := filter_lt' p q l (fun x hx => h x (by simp [hx])) ⟨x, hx, h1, h2⟩
      simp only [List.filter_cons]
      cases hq : q a <;> cases hp : p a <;> simp_all <;> omega

/-- a range over the holders, under way -/
structure GoR (w : World) (H : Nat) (l : List ((Int × Value) × Nat)) (c : Nat) (o m : Int) (seen : Array Nat) (wr : World) : Prop where
  it : wr.heap[w.heap.size]? = some (.mapIter (some H) c seen c)
  bl : Below w.heap.size w wr
  ok : ∀ p ∈ l, seen.contains p.2 = true → p.1.1 = o ∨ ∃ k, p.1.2 = .int .i64 k ∧ tog k m = true

theorem goes_any (w : World) (p H : Nat) (q : Value) (hs : UL) (o m : Int) (h : PlAt w p H q hs) (hm : ModesAt hs) :
    Calls Try.prog 29 #[.pointer (some ⟨p, 0, none⟩), .int .u64 o, .int .i64 m] w fun e w' => e = .returned (.bool (goesP hs o m)) ∧ Below w.heap.size w w' := by
  obtain ⟨l, c, hl, hes⟩ := h.hl
  have hc0 : w.cell? ⟨p, 0, none⟩ = some (.map (some H)) := cell_of_row w p 0 _ _ _ h.blk
  have hrg := gmap_range (P := Try.prog) Try.underlying68 hl
  have HL := Lib.hid hl
  have HE := Lib.hid hes
  clear hl hes h
  have hst : GoR w H l c o m #[] (w.alloc (.mapIter (some H) c #[] c)) := ⟨heap_alloc_new w _, (Below.refl _ _).alloc (Nat.le_refl _) _, fun p _ hs => by simp at hs⟩
  have HST := Lib.hid hst
  clear hst
  go_enter Try.func29, Try.ntmps29
  go_wp2
  go_loopw [] (fun wr => ∃ seen, GoR w H l c o m seen wr) (fun wr => gunseen l w.heap.size wr)
  case atStart => exact ⟨_, HST.out⟩
  case round =>
    obtain ⟨seen, hR⟩ := hrel
    have hHr : H < w.heap.size := (Array.getElem?_eq_some_iff.1 HL.out.2.2.2).1
    have hlr : GMapC wr H l c := HL.out.keep (hR.bl.block H hHr)
    obtain ⟨v, w0, w', hrun, hw0, hcase⟩ := gmap_next (P := Try.prog) (ty := 0) hlr hR.it
    have hnx : ∀ ty, (Instr.next (.pointer (some ⟨w.heap.size, 0, none⟩)) false ty).run Try.prog wr = _ := fun _ => hrun
    have hu0 : gunseen l w.heap.size wr = (l.filter fun p => !seen.contains p.2).length := by unfold gunseen; rw [hR.it]
    have hR0 : GoR w H l c o m seen w0 := by rcases hw0 with rfl | rfl; exact hR; exact ⟨hR.it, below_drewN hR.bl 1, hR.ok⟩
    rcases hcase with ⟨hall, rfl, rfl⟩ | ⟨p, hp, hns, rfl, rfl⟩
    · have hg : goesP hs o m = true := by
        unfold goesP
        rw [List.all_eq_true]
        intro x hx
        rw [← HE.out, List.mem_map] at hx
        obtain ⟨p, hp, rfl⟩ := hx
        rcases hR0.ok p hp (hall p hp) with h | ⟨k, hk, ht⟩
        · simp [h]
        · simp [hk, ht]
      have HR0 := Lib.hid hR0
      have HG := Lib.hid hg
      clear hg hR0 hall hw0 hR hlr hrun hu0 hHr
      go_wp2
      go_ret
      exact ⟨by rw [HG.out]; rfl, HR0.out.bl⟩
    · obtain ⟨k, hk⟩ := hm p.1 (by rw [← HE.out]; exact List.mem_map_of_mem hp)
      have hl0 : GMapC w0 H l c := HL.out.keep (hR0.bl.block H hHr)
      have hH2 : H ≠ w.heap.size := by omega
      obtain ⟨w1, hw1⟩ : ∃ w1, setObjW w0 w.heap.size (.mapIter (some H) c (seen.push p.2) c) = w1 := ⟨_, rfl⟩
      have hit1 : w1.heap[w.heap.size]? = some (.mapIter (some H) c (seen.push p.2) c) := by rw [← hw1]; exact setObjW_same hR0.it
      have hl1 : GMapC w1 H l c := by rw [← hw1]; exact hl0.keep (setObjW_other _ _ _ _ hH2)
      have hb1 : Below w.heap.size w w1 := by
        rw [← hw1]
        exact hR0.bl.trans ⟨rfl, rfl, rfl, by rw [setObjW_size]; exact Nat.le_refl _, fun k hk => setObjW_other _ _ _ _ (by omega)⟩
      have hen := gmap_entry (P := Try.prog) hl1 hp hit1
      rw [hw1, hk] at hnx
      rw [hk] at hen
      change ∀ ty, (Instr.next (.pointer (some ⟨w.heap.size, 0, none⟩)) false ty).run Try.prog wr = .ok (.tuple #[.bool true, .int .u64 p.1.1, .int .i64 k]) w1 at hnx
      change (Instr.entry (.pointer (some ⟨w.heap.size, 0, none⟩))).run Try.prog w1 = .ok (.tuple #[.int .u64 p.1.1, .int .i64 k]) w1 at hen
      have hok1 : (p.1.1 = o ∨ tog k m = true) → ∀ x ∈ l, (seen.push p.2).contains x.2 = true → x.1.1 = o ∨ ∃ k, x.1.2 = .int .i64 k ∧ tog k m = true := by
        intro hyes x hx hsx
        by_cases e : x.2 = p.2
        · have : x = p := nodup_inj2 HL.out.2.1 hx hp e
          subst this
          rcases hyes with h | h
          · exact .inl h
          · exact .inr ⟨k, hk, h⟩
        · refine hR0.ok x hx ?_
          simp at hsx ⊢
          rcases hsx with h | h
          · exact h
          · exact absurd h e
      have hlt : ∀ wz : World, wz.heap[w.heap.size]? = some (.mapIter (some H) c (seen.push p.2) c) → gunseen l w.heap.size wz < gunseen l w.heap.size wr := by
        intro wz hz
        rw [hu0]
        unfold gunseen
        rw [hz]
        refine filter_lt' _ _ l (fun x _ hx => ?_) ⟨p, hp, by simpa using hns, by simp⟩
        simp at hx ⊢
        exact hx.1
      have HB1 := Lib.hid hb1
      have HIT := Lib.hid hit1
      have HLT := Lib.hid hlt
      have HOK := Lib.hid hok1
      have HT := Lib.hid (together_any w1 k m)
      have HMEM : Hid (p.1 ∈ hs) := by show p.1 ∈ hs; rw [← HE.out]; exact List.mem_map_of_mem hp
      have HK := Lib.hid hk
      clear hb1 hit1 hlt hok1 hl1 hl0 hH2 hw1 hR0 hw0 hR hlr hrun hu0 hHr hns hp hk
      obtain ⟨x, hx⟩ : ∃ x, p.1.1 = x := ⟨_, rfl⟩
      rw [hx] at hnx hen HOK
      by_cases hxo : x = o
      · have hxo' : (x == o) = true := by simp [hxo]
        go_wp2
        go_roundw
        case rel => exact ⟨_, HIT.out, HB1.out, HOK.out (.inl hxo)⟩
        case measure => exact HLT.out _ HIT.out
      · cases htg : tog k m with
        | true =>
          go_wp2_with fail
          refine HT.out.mono ?_
          rintro e w2 ⟨rfl, hb2⟩
          rw [htg]
          go_wp2
          go_roundw
          case rel => exact ⟨_, (hb2.block _ (Array.getElem?_eq_some_iff.1 HIT.out).1).trans HIT.out, HB1.out.trans (hb2.mono HB1.out.size), HOK.out (.inr htg)⟩
          case measure => exact HLT.out _ ((hb2.block _ (Array.getElem?_eq_some_iff.1 HIT.out).1).trans HIT.out)
        | false =>
          go_wp2_with fail
          refine HT.out.mono ?_
          rintro e w2 ⟨rfl, hb2⟩
          rw [htg]
          go_wp2
          go_ret
          refine ⟨?_, HB1.out.trans (hb2.mono HB1.out.size)⟩
          have hg : goesP hs o m = false := by
            unfold goesP
            rw [List.all_eq_false]
            refine ⟨p.1, HMEM.out, ?_⟩
            rw [HK.out, hx]
            simp [hxo, htg]
          rw [hg]
          rfl
end Mun
end

section
/- Contract of hold, at an owner that holds nothing yet. -/
set_option maxRecDepth 100000
set_option linter.unusedVariables false
namespace Mun
open Go Go.RowKit
open Go.Proofs

theorem z80 (w : World) : (zeroValue 80).run Try.prog w = .ok (.map none) w := by
  have h : ((Try.prog.info? 80).bind (·.zero)) = some (.map none) := by kernel_rfl
  cases hq : Try.prog.info? 80 with
  | none => simp [hq] at h
  | some i =>
    simp [hq] at h
    simp [zeroValue, typeInfo, hq, h]

theorem nil80 (W : World) : (binOp .eql 80 (.map none) (.map none)).run Try.prog W = .ok (.bool true) W := by
  kernel_rfl
theorem hold_new (w : World) (T P W N p H : Nat) (q : Value) (ps : BL) (ws ns hs : UL) (o m : Int) (s : ByteArray) (ht : TabAt w T P W N ps ws ns) (hp : PlAt w p H q hs) (hn : glook ns o = none)
    (d1 : H ≠ N) (d2 : H ≠ P) (d3 : H ≠ W) (d4 : N ≠ P) (d5 : N ≠ W) :
    Calls Try.prog 30 #[.pointer (some ⟨T, 0, none⟩), .pointer (some ⟨p, 0, none⟩), .int .u64 o, .string s, .int .i64 m] w fun e w' => e = .returned (.tuple #[]) ∧
      TabAt w' T P W N ps ws (gset ns o (.map (some w.heap.size))) ∧ PlAt w' p H q (gset hs o (.int .i64 m)) ∧ w'.heap.size = w.heap.size + 1 ∧ w'.os = w.os ∧ w'.tape = w.tape ∧ w'.output = w.output ∧
      GMap w' w.heap.size [(s, .agg #[])] ∧ ∀ k, k < w.heap.size → k ≠ H → k ≠ N → w'.heap[k]? = w.heap[k]? := by
  have hTl : T < w.heap.size := (Array.getElem?_eq_some_iff.1 ht.blk).1
  have hpl : p < w.heap.size := (Array.getElem?_eq_some_iff.1 hp.blk).1
  have hPl := ht.pl.lt
  have hWl := ht.wt.lt
  have hNl := ht.nm.lt
  have hHl := hp.hl.lt
  have eT : ∀ X, (∃ (α : Type) (_ : DecidableEq α) (_ : KeyT α) (es : List (α × Value)), GMap w X es) → ∀ y cs t fr, w.heap[y]? = some (.cells cs t fr) → y ≠ X := by
    rintro X ⟨α, i1, i2, es, l, c, h, -⟩ y cs t fr hy rfl
    rw [h.2.2.2] at hy
    cases hy
  have nTH : T ≠ H := eT H ⟨_, _, _, _, hp.hl⟩ T _ _ _ ht.blk
  have nTN : T ≠ N := eT N ⟨_, _, _, _, ht.nm⟩ T _ _ _ ht.blk
  have npH : p ≠ H := eT H ⟨_, _, _, _, hp.hl⟩ p _ _ _ hp.blk
  have npN : p ≠ N := eT N ⟨_, _, _, _, ht.nm⟩ p _ _ _ hp.blk
  clear eT
  have c1 : w.cell? ⟨p, 0, none⟩ = some (.map (some H)) := cell_of_row w p 0 _ _ _ hp.blk
  obtain ⟨o1, hu1, hg1⟩ := gmap_update (P := Try.prog) Try.underlying68 Try.underlying29 hp.hl o (.int .i64 m)
  obtain ⟨w1, hw1⟩ : ∃ w1, setObjW w H o1 = w1 := ⟨_, rfl⟩
  have s1 : w1.heap.size = w.heap.size := by rw [← hw1, setObjW_size]
  have k1 : ∀ k, k ≠ H → w1.heap[k]? = w.heap[k]? := fun k hk => by rw [← hw1, setObjW_other _ _ _ _ hk]
  have b1 : w1.heap[T]? = _ := (k1 T nTH).trans ht.blk
  have c2 : w1.cell? ⟨T, 2, none⟩ = some (.map (some N)) := cell_of_row w1 T 2 _ _ _ b1
  have nm1 : GMap w1 N ns := ht.nm.keep (k1 N (Ne.symm d1))
  have hl1 := gmap_lookup1 (P := Try.prog) Try.underlying64 Try.underlying29 (z80 w1) nm1 o
  rw [hn] at hl1
  have hmm := run_makeMap (P := Try.prog) 80 w1
  obtain ⟨w2, hw2⟩ : ∃ w2, w1.alloc (.map #[] 0) = w2 := ⟨_, rfl⟩
  have s2 : w2.heap.size = w.heap.size + 1 := by rw [← hw2, World.size_alloc, s1]
  have k2 : ∀ k, k < w.heap.size → w2.heap[k]? = w1.heap[k]? := fun k hk => by rw [← hw2, heap_alloc_old _ _ (by omega)]
  have new2 : GMap (α := ByteArray) w2 w.heap.size [] := by rw [← hw2, ← s1]; exact gmap_new w1
  have c22 : w2.cell? ⟨T, 2, none⟩ = some (.map (some N)) := cell_of_row w2 T 2 _ _ _ ((k2 T hTl).trans b1)
  obtain ⟨o3, hu3, hg3⟩ := gmap_update (P := Try.prog) Try.underlying64 Try.underlying29 (nm1.keep (k2 N hNl)) o (.map (some w1.heap.size))
  obtain ⟨w3, hw3⟩ : ∃ w3, setObjW w2 N o3 = w3 := ⟨_, rfl⟩
  have s3 : w3.heap.size = w.heap.size + 1 := by rw [← hw3, setObjW_size, s2]
  have k3 : ∀ k, k ≠ N → w3.heap[k]? = w2.heap[k]? := fun k hk => by rw [← hw3, setObjW_other _ _ _ _ hk]
  have c32 : w3.cell? ⟨T, 2, none⟩ = some (.map (some N)) := cell_of_row w3 T 2 _ _ _ ((k3 T nTN).trans ((k2 T hTl).trans b1))
  rw [hw3] at hu3 hg3
  have hl3 := gmap_lookup1 (P := Try.prog) Try.underlying64 Try.underlying29 (z80 w3) hg3 o
  rw [glook_gset, if_pos rfl] at hl3
  rw [hw1] at hu1 hg1
  have new3 : GMap (α := ByteArray) w3 w1.heap.size [] := by rw [s1]; exact new2.keep (k3 _ (by omega))
  obtain ⟨o4, hu4, hg4⟩ := gmap_update (P := Try.prog) Try.underlying80 Try.underlying9 new3 s (.agg #[])
  obtain ⟨w4, hw4⟩ : ∃ w4, setObjW w3 w1.heap.size o4 = w4 := ⟨_, rfl⟩
  rw [hw4] at hu4 hg4
  have s4 : w4.heap.size = w.heap.size + 1 := by rw [← hw4, setObjW_size, s3]
  have k4 : ∀ k, k ≠ w.heap.size → w4.heap[k]? = w3.heap[k]? := fun k hk => by rw [← hw4, setObjW_other _ _ _ _ (by omega)]
  have kk : ∀ k, k < w.heap.size → k ≠ H → k ≠ N → w4.heap[k]? = w.heap[k]? := fun k h1 h2 h3 => by rw [k4 k (by omega), k3 k h3, k2 k h1, k1 k h2]
  have hfin : TabAt w4 T P W N ps ws (gset ns o (.map (some w.heap.size))) ∧ PlAt w4 p H q (gset hs o (.int .i64 m)) ∧ w4.heap.size = w.heap.size + 1 ∧ w4.os = w.os ∧ w4.tape = w.tape ∧ w4.output = w.output ∧
      GMap w4 w.heap.size [(s, .agg #[])] ∧ ∀ k, k < w.heap.size → k ≠ H → k ≠ N → w4.heap[k]? = w.heap[k]? := by
    refine ⟨⟨(kk T hTl nTH nTN).trans ht.blk, ht.pl.keep (kk P hPl (Ne.symm d2) (Ne.symm d4)), ht.wt.keep (kk W hWl (Ne.symm d3) (Ne.symm d5)), ?_⟩, ⟨(kk p hpl npH npN).trans hp.blk, ?_⟩, s4, ?_, ?_, ?_, ?_, kk⟩
    · rw [← s1]; exact hg3.keep (k4 N (by omega))
    · exact hg1.keep (by rw [k4 H (by omega), k3 H d1, k2 H hHl])
    · rw [← hw4, ← hw3, ← hw2, ← hw1]; rfl
    · rw [← hw4, ← hw3, ← hw2, ← hw1]; rfl
    · rw [← hw4, ← hw3, ← hw2, ← hw1]; rfl
    · rw [← s1]; exact hg4
  have HF := Lib.hid hfin
  clear hfin kk k4 s4 hg4 new3 k3 s3 hg3 new2 k2 s2 nm1 b1 k1 hg1 nTH nTN npH npN ht hp hn d1 d2 d3 d4 d5 hTl hpl hPl hWl hNl hHl hw1 hw3 hw4 s1
  change (Instr.mapUpdate 68 (.map (some H)) (.int .u64 o) (.int .i64 m)).run Try.prog w = _ at hu1
  change (Instr.lookup 64 (.map (some N)) (.int .u64 o) false).run Try.prog w1 = .ok (.map none) w1 at hl1
  change (Instr.mapUpdate 64 (.map (some N)) (.int .u64 o) (.map (some w1.heap.size))).run Try.prog w2 = _ at hu3
  change (Instr.lookup 64 (.map (some N)) (.int .u64 o) false).run Try.prog w3 = .ok (.map (some w1.heap.size)) w3 at hl3
  change (Instr.mapUpdate 80 (.map (some w1.heap.size)) (.string s) (.agg #[])).run Try.prog w3 = _ at hu4
  have hnil := nil80 w1
  go_enter Try.func30, Try.ntmps30
  go_wp2
  go_end0
  exact ⟨rfl, HF.out⟩
end Mun
end

section
/- Contract of Ask: a name that nobody holds. -/
set_option maxRecDepth 100000
set_option linter.unusedVariables false
namespace Mun
open Go Go.RowKit
open Go.Proofs

theorem z33 (w : World) : (zeroValue 33).run Try.prog w = .ok (.agg #[.string ⟨#[]⟩, .int .i64 0]) w := by
  have h : ((Try.prog.info? 33).bind (·.zero)) = some (.agg #[.string ⟨#[]⟩, .int .i64 0]) := by kernel_rfl
  cases hq : Try.prog.info? 33 with
  | none => simp [hq] at h
  | some i =>
    simp [hq] at h
    simp [zeroValue, typeInfo, hq, h]
theorem z67 (w : World) : (zeroValue 67).run Try.prog w = .ok (.pointer none) w := by
  have h : ((Try.prog.info? 67).bind (·.zero)) = some (.pointer none) := by kernel_rfl
  cases hq : Try.prog.info? 67 with
  | none => simp [hq] at h
  | some i =>
    simp [hq] at h
    simp [zeroValue, typeInfo, hq, h]
theorem z3 (w : World) : (zeroValue 3).run Try.prog w = .ok (.int .i64 0) w := by
  have h : ((Try.prog.info? 3).bind (·.zero)) = some (.int .i64 0) := by kernel_rfl
  cases hq : Try.prog.info? 3 with
  | none => simp [hq] at h
  | some i =>
    simp [hq] at h
    simp [zeroValue, typeInfo, hq, h]

theorem TabAt.keep {w w' : World} {T P W N : Nat} {ps : BL} {ws ns : UL} (h : TabAt w T P W N ps ws ns) (hk : ∀ k, k < w.heap.size → w'.heap[k]? = w.heap[k]?) : TabAt w' T P W N ps ws ns :=
  ⟨(hk _ (Array.getElem?_eq_some_iff.1 h.blk).1).trans h.blk, h.pl.keep (hk _ h.pl.lt), h.wt.keep (hk _ h.wt.lt), h.nm.keep (hk _ h.nm.lt)⟩
theorem PlAt.keep {w w' : World} {p H : Nat} {q : Value} {hs : UL} (h : PlAt w p H q hs) (hk : ∀ k, k < w.heap.size → w'.heap[k]? = w.heap[k]?) : PlAt w' p H q hs :=
  ⟨(hk _ (Array.getElem?_eq_some_iff.1 h.blk).1).trans h.blk, h.hl.keep (hk _ h.hl.lt)⟩

theorem ask_there (w : World) (T P W N p H : Nat) (ps : BL) (ws ns hs : UL) (o m : Int) (s : ByteArray) (ht : TabAt w T P W N ps ws ns) (hpa : glook ps s = some (.pointer (some ⟨p, 0, none⟩))) (hp : PlAt w p H (.slice none 0 0) hs)
    (hm : ModesAt hs) (ho : o ≠ 0) (him : isM m = true) (hw : glook ws o = none) (hh : glook hs o = none) (hn : glook ns o = none) (hg : goesP hs o m = true)
    (d1 : H ≠ N) (d2 : H ≠ P) (d3 : H ≠ W) (d4 : N ≠ P) (d5 : N ≠ W) :
    Calls Try.prog 17 #[.pointer (some ⟨T, 0, none⟩), .int .u64 o, .string s, .int .i64 m] w fun e w' => e = .returned (.int .i64 0) ∧
      ∃ M, TabAt w' T P W N ps ws (gset ns o (.map (some M))) ∧ PlAt w' p H (.slice none 0 0) (gset hs o (.int .i64 m)) ∧ w.heap.size ≤ w'.heap.size ∧ w'.os = w.os ∧ w'.tape = w.tape ∧ w'.output = w.output ∧
      w.heap.size ≤ M ∧ M < w'.heap.size ∧ GMap w' M [(s, .agg #[])] ∧ ∀ k, k < w.heap.size → k ≠ H → k ≠ N → w'.heap[k]? = w.heap[k]? := by
  have hims := isMode_any w m
  rw [him] at hims
  have hob : (o == 0) = false := by simpa using ho
  have c1 : w.cell? ⟨T, 1, none⟩ = some (.map (some W)) := cell_of_row w T 1 _ _ _ ht.blk
  have hl1 := gmap_lookup (P := Try.prog) Try.underlying63 Try.underlying29 (z33 w) ht.wt o
  rw [hw] at hl1
  change (Instr.lookup 63 (.map (some W)) (.int .u64 o) true).run Try.prog w = .ok (.tuple #[.agg #[.string ⟨#[]⟩, .int .i64 0], .bool false]) w at hl1
  obtain ⟨wA, hwA⟩ : ∃ wA, w.alloc (.cells #[.string ⟨#[]⟩, .int .i64 0] 33) = wA := ⟨_, rfl⟩
  have kA : ∀ k, k < w.heap.size → wA.heap[k]? = w.heap[k]? := fun k hk => by rw [← hwA, heap_alloc_old _ _ hk]
  have sA : wA.heap.size = w.heap.size + 1 := by rw [← hwA, World.size_alloc]
  have htA := ht.keep kA
  have hpA := hp.keep kA
  have c2 : wA.cell? ⟨T, 0, none⟩ = some (.map (some P)) := cell_of_row wA T 0 _ _ _ htA.blk
  have hl2 := gmap_lookup1 (P := Try.prog) Try.underlying62 Try.underlying9 (z67 wA) htA.pl s
  rw [hpa] at hl2
  change (Instr.lookup 62 (.map (some P)) (.string s) false).run Try.prog wA = .ok (.pointer (some ⟨p, 0, none⟩)) wA at hl2
  obtain ⟨wB, hwB⟩ : ∃ wB, wA.alloc (.cells #[.pointer (some ⟨p, 0, none⟩)] 67) = wB := ⟨_, rfl⟩
  have kB : ∀ k, k < wA.heap.size → wB.heap[k]? = wA.heap[k]? := fun k hk => by rw [← hwB, heap_alloc_old _ _ hk]
  have sB : wB.heap.size = w.heap.size + 2 := by rw [← hwB, World.size_alloc, sA]
  have htB := htA.keep kB
  have hpB := hpA.keep kB
  have nB : wB.heap[w.heap.size + 1]? = some (.cells #[.pointer (some ⟨p, 0, none⟩)] 67 (0, 0)) := by rw [← hwB, ← sA]; exact heap_alloc_new wA _
  have c3 : wB.cell? ⟨w.heap.size + 1, 0, none⟩ = some (.pointer (some ⟨p, 0, none⟩)) := cell_of_row wB _ 0 _ _ _ nB
  have c4 : wB.cell? ⟨p, 0, none⟩ = some (.map (some H)) := cell_of_row wB p 0 _ _ _ hpB.blk
  have c5 : wB.cell? ⟨p, 1, none⟩ = some (.slice none 0 0) := cell_of_row wB p 1 _ _ _ hpB.blk
  have hl3 := gmap_lookup (P := Try.prog) Try.underlying68 Try.underlying29 (z3 wB) hpB.hl o
  rw [hh] at hl3
  change (Instr.lookup 68 (.map (some H)) (.int .u64 o) true).run Try.prog wB = .ok (.tuple #[.int .i64 0, .bool false]) wB at hl3
  have hgo := goes_any wB p H _ hs o m hpB hm
  rw [hg] at hgo
  have HG := Lib.hid hgo
  have HTB := Lib.hid htB
  have HPB := Lib.hid hpB
  have HK : Hid (∀ k, k < w.heap.size → wB.heap[k]? = w.heap[k]?) := fun k hk => (kB k (by omega)).trans (kA k hk)
  have HS := Lib.hid sB
  have HAB := Lib.hid sA
  have HN := Lib.hid nB
  have HW : Hid (wB.os = w.os ∧ wB.tape = w.tape ∧ wB.output = w.output) := by show _ ∧ _ ∧ _; rw [← hwB, ← hwA]; exact ⟨rfl, rfl, rfl⟩
  clear ht hp htA hpA htB hpB kA kB sA sB hgo nB
  subst hwB
  subst hwA
  go_enter Try.func17, Try.ntmps17
  go_wp2_with fail
  refine hims.mono ?_
  rintro e w' ⟨rfl, rfl⟩
  go_wp2_with fail
  refine HG.out.mono ?_
  rintro e w2 ⟨rfl, hb2⟩
  have k2 : ∀ k, k < _ → w2.heap[k]? = _ := fun k hk => hb2.block k hk
  have c6 : w2.cell? ⟨w'.heap.size + 1, 0, none⟩ = some (.pointer (some ⟨p, 0, none⟩)) := cell_of_row w2 _ 0 _ _ _ ((k2 _ (Array.getElem?_eq_some_iff.1 HN.out).1).trans HN.out)
  have hho := hold_new w2 T P W N p H _ ps ws ns hs o m s (HTB.out.keep k2) (HPB.out.keep k2) hn d1 d2 d3 d4 d5
  have HH := Lib.hid hho
  have HB2 := Lib.hid hb2
  clear hho hb2 k2
  go_wp2_with fail
  refine HH.out.mono ?_
  rintro e w3 ⟨rfl, t3, p3, s3, x1, x2, x3, g3, k3⟩
  go_wp2
  go_ret
  have hss := HS.out
  have h2s := HB2.out.size
  refine ⟨rfl, w2.heap.size, t3, p3, by omega, x1.trans (HB2.out.os.trans HW.out.1), x2.trans (HB2.out.tape.trans HW.out.2.1), x3.trans (HB2.out.output.trans HW.out.2.2), by omega, by omega, g3, fun k h1 h2 h3 => ?_⟩
  rw [k3 k (by omega) h2 h3, HB2.out.block k (by omega), HK.out k h1]
end Mun
end

section
/- Contract of Ask: a name of which nothing is known. -/
set_option maxRecDepth 100000
set_option linter.unusedVariables false
namespace Mun
open Go Go.RowKit
open Go.Proofs

theorem ask_new (w : World) (T P W N : Nat) (ps : BL) (ws ns : UL) (o m : Int) (s : ByteArray) (ht : TabAt w T P W N ps ws ns) (hpa : glook ps s = none)
    (ho : o ≠ 0) (him : isM m = true) (hw : glook ws o = none) (hn : glook ns o = none) (d4 : N ≠ P) (d5 : N ≠ W) (d6 : P ≠ W) :
    Calls Try.prog 17 #[.pointer (some ⟨T, 0, none⟩), .int .u64 o, .string s, .int .i64 m] w fun e w' => e = .returned (.int .i64 0) ∧
      ∃ p H M, TabAt w' T P W N (gset ps s (.pointer (some ⟨p, 0, none⟩))) ws (gset ns o (.map (some M))) ∧ PlAt w' p H (.slice none 0 0) [(o, .int .i64 m)] ∧ (GMap w' M [(s, .agg #[])] ∧ H < M) ∧ w.heap.size ≤ w'.heap.size ∧
      w.heap.size ≤ M ∧ M < w'.heap.size ∧ w.heap.size ≤ p ∧ w.heap.size ≤ H ∧ w'.os = w.os ∧ w'.tape = w.tape ∧ w'.output = w.output ∧ ∀ k, k < w.heap.size → k ≠ P → k ≠ N → w'.heap[k]? = w.heap[k]? := by
  have hims := isMode_any w m
  rw [him] at hims
  have hob : (o == 0) = false := by simpa using ho
  have c1 : w.cell? ⟨T, 1, none⟩ = some (.map (some W)) := cell_of_row w T 1 _ _ _ ht.blk
  have hl1 := gmap_lookup (P := Try.prog) Try.underlying63 Try.underlying29 (z33 w) ht.wt o
  rw [hw] at hl1
  change (Instr.lookup 63 (.map (some W)) (.int .u64 o) true).run Try.prog w = .ok (.tuple #[.agg #[.string ⟨#[]⟩, .int .i64 0], .bool false]) w at hl1
  obtain ⟨wA, hwA⟩ : ∃ wA, w.alloc (.cells #[.string ⟨#[]⟩, .int .i64 0] 33) = wA := ⟨_, rfl⟩
  have kA : ∀ k, k < w.heap.size → wA.heap[k]? = w.heap[k]? := fun k hk => by rw [← hwA, heap_alloc_old _ _ hk]
  have sA : wA.heap.size = w.heap.size + 1 := by rw [← hwA, World.size_alloc]
  have htA := ht.keep kA
  have c2 : wA.cell? ⟨T, 0, none⟩ = some (.map (some P)) := cell_of_row wA T 0 _ _ _ htA.blk
  have hl2 := gmap_lookup1 (P := Try.prog) Try.underlying62 Try.underlying9 (z67 wA) htA.pl s
  rw [hpa] at hl2
  change (Instr.lookup 62 (.map (some P)) (.string s) false).run Try.prog wA = .ok (.pointer none) wA at hl2
  have hmm := run_makeMap (P := Try.prog) 68
  obtain ⟨wE, hwE⟩ : ∃ wE, (((wA.alloc (.cells #[.pointer (some ⟨w.heap.size + 1 + 1 + 1, 0, none⟩)] 67)).alloc (.map #[] 0)).alloc (.cells #[.map (some (w.heap.size + 1 + 1)), .slice none 0 0] 71)) = wE := ⟨_, rfl⟩
  have kE : ∀ k, k < wA.heap.size → wE.heap[k]? = wA.heap[k]? := fun k hk => by
    rw [← hwE, heap_alloc_old _ _ (by simp; omega), heap_alloc_old _ _ (by simp; omega), heap_alloc_old _ _ hk]
  have sE : wE.heap.size = w.heap.size + 4 := by rw [← hwE]; simp [World.size_alloc, sA]
  have htE := htA.keep kE
  have n1 : wE.heap[w.heap.size + 1]? = some (.cells #[.pointer (some ⟨w.heap.size + 1 + 1 + 1, 0, none⟩)] 67 (0, 0)) := by
    rw [← hwE, heap_alloc_old _ _ (by simp; omega), heap_alloc_old _ _ (by simp; omega), ← sA]; exact heap_alloc_new wA _
  have n2 : GMap (α := Int) wE (w.heap.size + 1 + 1) [] := by
    have h := gmap_new (α := Int) (wA.alloc (.cells #[.pointer (some ⟨w.heap.size + 1 + 1 + 1, 0, none⟩)] 67))
    rw [World.size_alloc, sA] at h
    refine h.keep ?_
    rw [← hwE, heap_alloc_old _ _ (by simp; omega)]
  have n3 : wE.heap[w.heap.size + 1 + 1 + 1]? = some (.cells #[.map (some (w.heap.size + 1 + 1)), .slice none 0 0] 71 (0, 0)) := by
    have h := heap_alloc_new ((wA.alloc (.cells #[.pointer (some ⟨w.heap.size + 1 + 1 + 1, 0, none⟩)] 67)).alloc (.map #[] 0)) (.cells #[.map (some (w.heap.size + 1 + 1)), .slice none 0 0] 71)
    rw [World.size_alloc, World.size_alloc, sA, hwE] at h
    exact h
  have cE : wE.cell? ⟨T, 0, none⟩ = some (.map (some P)) := cell_of_row wE T 0 _ _ _ htE.blk
  have cE1 : wE.cell? ⟨w.heap.size + 1, 0, none⟩ = some (.pointer (some ⟨w.heap.size + 1 + 1 + 1, 0, none⟩)) := cell_of_row wE _ 0 _ _ _ n1
  have hPl := ht.pl.lt
  have hNl := ht.nm.lt
  have hWl := ht.wt.lt
  have hTl : T < w.heap.size := (Array.getElem?_eq_some_iff.1 ht.blk).1
  have nTP : T ≠ P := by
    rintro rfl
    obtain ⟨l, c, h, -⟩ := ht.pl
    have := h.2.2.2
    rw [ht.blk] at this
    cases this
  obtain ⟨oF, huF, hgF⟩ := gmap_update (P := Try.prog) Try.underlying62 Try.underlying9 (htE.pl.keep (w' := wE.drew) rfl) s (.pointer (some ⟨w.heap.size + 1 + 1 + 1, 0, none⟩))
  change (Instr.mapUpdate 62 (.map (some P)) (.string s) (.pointer (some ⟨w.heap.size + 1 + 1 + 1, 0, none⟩))).run Try.prog wE.drew = _ at huF
  obtain ⟨wF, hwF⟩ : ∃ wF, setObjW wE.drew P oF = wF := ⟨_, rfl⟩
  rw [hwF] at huF hgF
  have kF : ∀ k, k ≠ P → wF.heap[k]? = wE.heap[k]? := fun k hk => by rw [← hwF, setObjW_other _ _ _ _ hk]; rfl
  have sF : wF.heap.size = w.heap.size + 4 := by rw [← hwF, setObjW_size]; exact sE
  have htF : TabAt wF T P W N (gset ps s (.pointer (some ⟨w.heap.size + 1 + 1 + 1, 0, none⟩))) ws ns :=
    ⟨(kF T nTP).trans htE.blk, hgF, htE.wt.keep (kF W (Ne.symm d6)), htE.nm.keep (kF N d4)⟩
  have hpF : PlAt wF (w.heap.size + 1 + 1 + 1) (w.heap.size + 1 + 1) (.slice none 0 0) [] := ⟨(kF _ (by omega)).trans n3, n2.keep (kF _ (by omega))⟩
  have nF : wF.heap[w.heap.size + 1]? = _ := (kF _ (by omega)).trans n1
  have c3 : wF.cell? ⟨w.heap.size + 1, 0, none⟩ = some (.pointer (some ⟨w.heap.size + 1 + 1 + 1, 0, none⟩)) := cell_of_row wF _ 0 _ _ _ nF
  have c4 : wF.cell? ⟨w.heap.size + 1 + 1 + 1, 0, none⟩ = some (.map (some (w.heap.size + 1 + 1))) := cell_of_row wF _ 0 _ _ _ hpF.blk
  have c5 : wF.cell? ⟨w.heap.size + 1 + 1 + 1, 1, none⟩ = some (.slice none 0 0) := cell_of_row wF _ 1 _ _ _ hpF.blk
  have hl3 := gmap_lookup (P := Try.prog) Try.underlying68 Try.underlying29 (z3 wF) hpF.hl o
  change (Instr.lookup 68 (.map (some (w.heap.size + 1 + 1))) (.int .u64 o) true).run Try.prog wF = .ok (.tuple #[.int .i64 0, .bool false]) wF at hl3
  have hgo := goes_any wF _ _ _ [] o m hpF (fun _ h => by simp at h)
  rw [show goesP [] o m = true from rfl] at hgo
  have HG := Lib.hid hgo
  have HTF := Lib.hid htF
  have HPF := Lib.hid hpF
  have HSF := Lib.hid sF
  have HNF := Lib.hid nF
  have HPL := Lib.hid (And.intro hPl (And.intro hNl hWl))
  have HFR : Hid ((wF.os = w.os ∧ wF.tape = w.tape ∧ wF.output = w.output) ∧ ∀ k, k < w.heap.size → k ≠ P → wF.heap[k]? = w.heap[k]?) := by
    show _ ∧ _
    refine ⟨?_, fun k hk hP => ((kF k hP).trans (kE k (by omega))).trans (kA k hk)⟩
    rw [← hwF, ← hwE, ← hwA]
    exact ⟨rfl, rfl, rfl⟩
  clear ht htA kA sA kE sE htE n1 n2 n3 hgF hwF kF sF htF hpF nF hgo hPl hNl hWl hTl nTP
  subst hwE
  subst hwA
  go_enter Try.func17, Try.ntmps17
  go_wp2_with fail
  refine hims.mono ?_
  rintro e w' ⟨rfl, rfl⟩
  go_wp2_with fail
  obtain ⟨wq, hwq⟩ : ∃ wq, (((((w'.alloc (.cells #[.string ⟨#[]⟩, .int .i64 0] 33)).alloc (.cells #[.pointer (some ⟨w'.heap.size + 1 + 1 + 1, 0, none⟩)] 67)).alloc (.map #[] 0)).alloc (.cells #[.map (some (w'.heap.size + 1 + 1)), .slice none 0 0] 71))) = wq := ⟨_, rfl⟩
  rw [hwq] at cE cE1 huF ⊢
  clear hwq
  go_still_tail 6, (by kernel_rfl)
  change wpList _ _ _ _ _ wq.drew
  go_wp2_with fail
  refine HG.out.mono ?_
  rintro e w2 ⟨rfl, hb2⟩
  have k2 : ∀ k, k < _ → w2.heap[k]? = _ := fun k hk => hb2.block k hk
  have c6 : w2.cell? ⟨w'.heap.size + 1, 0, none⟩ = some (.pointer (some ⟨w'.heap.size + 1 + 1 + 1, 0, none⟩)) := cell_of_row w2 _ 0 _ _ _ ((k2 _ (Array.getElem?_eq_some_iff.1 HNF.out).1).trans HNF.out)
  have hho := hold_new w2 T P W N _ _ _ _ ws ns [] o m s (HTF.out.keep k2) (HPF.out.keep k2) hn (by have := HPL.out; omega) (by have := HPL.out; omega) (by have := HPL.out; omega) d4 d5
  have HH := Lib.hid hho
  have HB2 := Lib.hid hb2
  clear hho hb2 k2
  go_wp2_with fail
  refine HH.out.mono ?_
  rintro e w3 ⟨rfl, t3, p3, s3, x1, x2, x3, g3, k3⟩
  go_wp2
  go_ret
  have hss := HSF.out
  have h2s := HB2.out.size
  have hfr := HFR.out
  refine ⟨rfl, _, _, w2.heap.size, t3, p3, ⟨g3, by omega⟩, by omega, by omega, by omega, by omega, by omega, x1.trans (HB2.out.os.trans hfr.1.1), x2.trans (HB2.out.tape.trans hfr.1.2.1), x3.trans (HB2.out.output.trans hfr.1.2.2), fun k h1 h2 h3 => ?_⟩
  rw [k3 k (by omega) (by omega) h3, HB2.out.block k (by omega), hfr.2 k h1 h2]
end Mun
end

section
/- IndexFunc over an empty queue, Insert into one. -/
set_option maxRecDepth 100000
set_option linter.unusedVariables false
namespace Mun
open Go Go.RowKit
open Go.Proofs

theorem indexFunc_empty (w : World) (f : Value) : Calls Try.prog 31 #[.slice none 0 0, f] w fun e w' => e = .returned (.int .i64 (-1)) ∧ w' = w := by
  go_enter Try.func31, Try.ntmps31
  go_wp2
  go_loopw [8] (fun v wr => v = .int .i64 0 ∧ w = wr) (fun v wr => 0)
  case atStart => exact ⟨rfl, rfl⟩
  case round =>
    obtain ⟨rfl, rfl⟩ := hrel
    go_wp2
    go_ret
    exact ⟨rfl, rfl⟩

theorem insert_empty (w : World) (g : Nat) (o m : Int) (hg : w.heap[g]? = some (.cells #[.int .u64 o, .int .i64 m] 77 (0, 0))) :
    Calls Try.prog 33 #[.slice none 0 0, .int .i64 0, .slice (some ⟨g, 0, none⟩) 1 1] w fun e w' => (∃ a c, e = .returned (.slice (some a) 1 c)) ∧ Below w.heap.size w w' := by
  have hinf : (Try.prog.info? 77).map (fun i => (i.zero, i.size, i.bytes)) = some (some (.agg #[.int .u64 0, .int .i64 0]), 2, 16) := by kernel_rfl
  cases hq : Try.prog.info? 77 with
  | none => simp [hq] at hinf
  | some i =>
    simp [hq] at hinf
    obtain ⟨hz, hs, hb⟩ := hinf
    have hc0 : w.cell? ⟨g, 0, none⟩ = some (.int .u64 o) := cell_of_row w g 0 _ _ _ hg
    have hc1 : w.cell? ⟨g, 1, none⟩ = some (.int .i64 m) := cell_of_row w g 1 _ _ _ hg
    have hap := run_append_nil (P := Try.prog) (w := w) 69 69 77 i _ Try.underlying69 hq hz ⟨g, 0, none⟩ 1 1 [.int .u64 o, .int .i64 m] (by rw [hs]; rfl)
      (by
        intro j v hv
        match j, hv with
        | 0, hv => simp at hv; subst hv; exact hc0
        | 1, hv => simp at hv; subst hv; exact hc1
        | j + 2, hv => simp at hv) (by decide) (by decide) (by rw [hb]; decide)
    have HR := Lib.hid hap
    clear hap hc0 hc1 hq hz hs hb
    go_enter Try.func33, Try.ntmps33
    go_wp2_with ((at_builtin; refine wpList_append_eq rfl rfl HR.out rfl rfl ?_; clear HR))
    go_ret
    exact ⟨⟨_, _, rfl⟩, (below_drewN (Below.refl _ _) 1).alloc (Nat.le_refl _) _⟩
end Mun
end
