/- The reference's with: a copy that has the name. -/
import Derived.Test.YtbdkhegfmnladaaRfO
set_option maxRecDepth 100000
set_option linter.unusedVariables false
set_option linter.unusedSimpArgs false
namespace Mun
open Go Go.RowKit
open Go.Proofs

/-- a part of a row -/
theorem RdV.part {F : Foot} {w : World} {size n c : Nat} {a : Option Addr} {xs : List Value} (h : RdV F w size (.slice a n c) n xs) (lo hi : Nat) (h1 : lo ≤ hi) (h2 : hi ≤ n) :
    RdV F w size (sliced a lo hi c size) (hi - lo) ((xs.drop (lo * size)).take ((hi - lo) * size)) := by
  obtain ⟨h0, a', c', hv, hc1, hc2, hnil, h4⟩ := h
  injection hv with e1 e2 e3
  subst e1 e3
  have hm : (hi - lo) * size ≤ n * size - lo * size := by
    have h9 : (hi - lo) * size ≤ (n - lo) * size := Nat.mul_le_mul_right _ (by omega)
    rw [← Nat.sub_mul]; exact h9
  refine ⟨by rw [List.length_take, List.length_drop, h0]; omega, _, _, rfl, by omega, by omega, ?_, ?_⟩
  · intro hn
    split at hn
    · have := hnil hn; omega
    · cases a with
      | none => have := hnil rfl; omega
      | some _ => simp at hn
  · intro hp
    obtain ⟨g, off, cur, e, fr, ha, hg, hh, hx⟩ := h4 (by omega)
    subst ha
    refine ⟨g, off + lo * size, cur, e, fr, ?_, hg, hh, ?_⟩
    · rw [if_neg (by omega)]
      simp only [Option.map_some, addr_add]
    · rw [← hx, List.drop_take, List.take_take, List.drop_drop, Nat.min_eq_left hm]
theorem gC_part (l : List (Int × Int)) (lo k : Nat) : gC ((l.drop lo).take k) = ((gC l).drop (lo * 2)).take (k * 2) := by
  induction l generalizing lo k with
  | nil => simp [gC]
  | cons a l ih =>
    have e1 : gC (a :: l) = .int .u64 a.1 :: .int .i64 a.2 :: gC l := rfl
    cases lo with
    | succ lo =>
      rw [List.drop_succ_cons, ih, e1, show (lo + 1) * 2 = lo * 2 + 1 + 1 by omega]
      rfl
    | zero =>
      cases k with
      | zero => simp [gC]
      | succ k =>
        have h9 := ih 0 k
        rw [List.drop_zero, Nat.zero_mul, List.drop_zero] at h9
        rw [List.drop_zero, Nat.zero_mul, List.drop_zero, List.take_succ_cons, e1, show (k + 1) * 2 = k * 2 + 1 + 1 by omega, List.take_succ_cons, List.take_succ_cons, ← h9]
        rfl
theorem lxC_part (l : List LX) (lo k : Nat) : lxC ((l.drop lo).take k) = ((lxC l).drop (lo * 3)).take (k * 3) := by
  induction l generalizing lo k with
  | nil => simp [lxC]
  | cons a l ih =>
    have e1 : lxC (a :: l) = .string a.name :: a.hv :: a.qv :: lxC l := rfl
    cases lo with
    | succ lo =>
      rw [List.drop_succ_cons, ih, e1, show (lo + 1) * 3 = lo * 3 + 1 + 1 + 1 by omega]
      rfl
    | zero =>
      cases k with
      | zero => simp [lxC]
      | succ k =>
        have h9 := ih 0 k
        rw [List.drop_zero, Nat.zero_mul, List.drop_zero] at h9
        rw [List.drop_zero, Nat.zero_mul, List.drop_zero, List.take_succ_cons, e1, show (k + 1) * 3 = k * 3 + 1 + 1 + 1 by omega, List.take_succ_cons, List.take_succ_cons, List.take_succ_cons, ← h9]
        rfl
theorem GAt.part {F : Foot} {w : World} {a : Option Addr} {n c : Nat} {l : List (Int × Int)} (h : GAt F w (.slice a n c) l) (hn : l.length = n) (lo hi : Nat) (h1 : lo ≤ hi) (h2 : hi ≤ n) :
    GAt F w (sliced a lo hi c 2) ((l.drop lo).take (hi - lo)) := by
  have hl : ((l.drop lo).take (hi - lo)).length = hi - lo := by rw [List.length_take, List.length_drop]; omega
  refine ⟨?_, fun g off c' hv hne => ?_⟩
  · have h9 := h.rd
    rw [hn] at h9
    have h8 := h9.part lo hi h1 h2
    rw [gC_part, hl]; exact h8
  · have hln : l ≠ [] := fun e => by rw [e] at hne; simp at hne
    cases a with
    | none =>
      unfold sliced at hv
      injection hv with hv _ _
      split at hv <;> simp at hv
    | some x =>
      obtain ⟨g0, off0, c0, e0, -⟩ := h.rd.at_ (List.length_pos_iff.2 hln)
      injection e0 with e0 _ _
      injection e0 with e0
      subst e0
      obtain ⟨cur, fr, hh⟩ := h.ty g0 off0 c (by rw [hn]) hln
      unfold sliced at hv
      injection hv with hv _ _
      split at hv
      · injection hv with hv
        injection hv with hv _ _
        subst hv
        exact ⟨cur, fr, hh⟩
      · simp only [Option.map_some, addr_add, Option.some.injEq, Addr.mk.injEq] at hv
        rw [← hv.1]
        exact ⟨cur, fr, hh⟩

section
variable {P : Program} {e t : TypeId} {z : Value} {size bytes : Nat}
theorem sliceL (hinfo : (Try.prog.info? e).map (fun i => (i.zero, i.size, i.bytes)) = some (some z, size, bytes)) (ht : Try.prog.underlying t = some (.slice e)) (he : Try.prog.elem t = e) (a : Option Addr) (n c lo : Nat) (W : World) (L : Int) (hL : L = lo) (h1 : lo ≤ n) (h2 : n ≤ c) :
    (Instr.sliceAt t (.slice a n c) (some (.int .i64 L)) none none).run Try.prog W = .ok (sliced a lo n c size) W := by
  subst hL
  obtain ⟨i, hi', hz, hs1, hs2⟩ := info_of hinfo
  have ht2 : Try.prog.underlying t = some (.slice (Try.prog.elem t)) := by rw [he]; exact ht
  rw [run_sliceAt_slice _ _ _ _ _ _ ht2, run_slice_l _ _ _ _ _ ht2 _ _ (by omega) (by omega), he]
  simp [Go.sizeOf, typeInfo, hi', hs1]
theorem sliceH (hinfo : (Try.prog.info? e).map (fun i => (i.zero, i.size, i.bytes)) = some (some z, size, bytes)) (ht : Try.prog.underlying t = some (.slice e)) (he : Try.prog.elem t = e) (a : Option Addr) (n c hi : Nat) (W : World) (H : Int) (hH : H = hi) (h2 : hi ≤ c) :
    (Instr.sliceAt t (.slice a n c) none (some (.int .i64 H)) none).run Try.prog W = .ok (sliced a 0 hi c size) W := by
  subst hH
  obtain ⟨i, hi', hz, hs1, hs2⟩ := info_of hinfo
  have ht2 : Try.prog.underlying t = some (.slice (Try.prog.elem t)) := by rw [he]; exact ht
  rw [run_sliceAt_slice _ _ _ _ _ _ ht2, run_slice_h _ _ _ _ _ ht2 _ _ (by omega) (by omega), he]
  simp [Go.sizeOf, typeInfo, hi', hs1]
end
theorem elemLk : Try.prog.elem 49 = 98 := by kernel_rfl
theorem elemGr : Try.prog.elem 96 = 103 := by kernel_rfl

theorem pX_mem {X X' : List LX} (h : pX X' = pX X) {x : LX} (hx : x ∈ X') : ∃ y ∈ X, y.name = x.name ∧ y.hs = x.hs ∧ y.qs = x.qs := by
  have h9 : (x.name, x.hs, x.qs) ∈ pX X := by rw [← h]; exact List.mem_map.2 ⟨x, hx, rfl⟩
  obtain ⟨y, hy, e⟩ := List.mem_map.1 h9
  simp only [Prod.mk.injEq] at e
  exact ⟨y, hy, e.1, e.2.1, e.2.2⟩
theorem pX_names {X X' : List LX} (h : pX X' = pX X) : X'.map (·.name) = X.map (·.name) := by
  have h9 := congrArg (List.map (·.1)) h
  simpa [pX, List.map_map, Function.comp_def] using h9
theorem pX_tot : ∀ {X X' : List LX}, pX X' = pX X → tot X' = tot X
  | [], [], _ => rfl
  | [], x :: X', h => by simp [pX] at h
  | x :: X, [], h => by simp [pX] at h
  | x :: X, x' :: X', h => by
    simp only [pX, List.map_cons, List.cons.injEq, Prod.mk.injEq] at h
    have ih := pX_tot (X := X) (X' := X') h.2
    simp only [tot, ih, h.1.2.1, h.1.2.2]
theorem RelX.cong {X X' : List LX} {A : AS} (h : RelX X A) (e : pX X' = pX X) : RelX X' A := by
  refine ⟨by rw [pX_names e]; exact h.nd, fun x hx => ?_, fun x hx => ?_, fun s hs => h.no s (fun y hy => ?_)⟩
  · obtain ⟨y, hy, -, e2, -⟩ := pX_mem e hx
    rw [← e2]; exact h.hk y hy
  · obtain ⟨y, hy, e1, e2, e3⟩ := pX_mem e hx
    rw [← e1, ← e2, ← e3]; exact h.at_ y hy
  · obtain ⟨x, hx, e1, -⟩ := pX_mem e.symm hy
    rw [← e1]; exact hs x hx

/-- within with's loop -/
structure WtP (X : List LX) (s : ByteArray) (i a : Nat) : Prop where
  le : a ≤ i
  ne : ∀ x ∈ X.take i, x.name ≠ s
  lo : ∀ y ∈ X.take a, ltN y.name s
  hi : ∀ y ∈ (X.take i).drop a, ¬ ltN y.name s
section
variable {X : List LX} {A : AS} {s : ByteArray} {i a : Nat}
theorem take_mem {X : List LX} {i : Nat} (hi : i < X.length) {x : LX} (hx : x ∈ X.take (i + 1)) : x ∈ X.take i ∨ x = X[i] := by
  rw [List.take_add_one, List.getElem?_eq_getElem hi, Option.toList_some] at hx
  rcases List.mem_append.1 hx with h9 | h9
  · exact .inl h9
  · exact .inr (by simpa using h9)
theorem WtP.start (X : List LX) (s : ByteArray) : WtP X s 0 0 := ⟨Nat.le_refl _, fun x h => by simp at h, fun x h => by simp at h, fun x h => by simp at h⟩
theorem WtP.lt (h : WtP X s i a) (hr : RelX X A) (hi : i < X.length) (hne : X[i].name ≠ s) (hl : ltN X[i].name s) : WtP X s (i + 1) (i + 1) := by
  refine ⟨Nat.le_refl _, fun x hx => ?_, fun x hx => ?_, fun x hx => ?_⟩
  · rcases take_mem hi hx with h9 | h9
    · exact h.ne x h9
    · rw [h9]; exact hne
  · rcases take_mem hi hx with h9 | h9
    · obtain ⟨j, hj⟩ := List.mem_iff_getElem?.1 h9
      rw [List.getElem?_take] at hj
      split at hj
      · rename_i hji
        obtain ⟨hjl, hje⟩ := List.getElem?_eq_some_iff.1 hj
        have hp := List.pairwise_iff_getElem.1 hr.nd j i (by simpa using hjl) (by simpa using hi) hji
        simp only [List.getElem_map, hje] at hp
        exact ltN_trans hp hl
      · cases hj
    · rw [h9]; exact hl
  · rw [List.drop_of_length_le (by rw [List.length_take]; omega)] at hx
    cases hx
theorem WtP.ge (h : WtP X s i a) (hi : i < X.length) (hne : X[i].name ≠ s) (hl : ¬ ltN X[i].name s) : WtP X s (i + 1) a := by
  refine ⟨Nat.le_succ_of_le h.le, fun x hx => ?_, h.lo, fun x hx => ?_⟩
  · rcases take_mem hi hx with h9 | h9
    · exact h.ne x h9
    · rw [h9]; exact hne
  · rw [List.take_add_one, List.getElem?_eq_getElem hi, Option.toList_some, List.drop_append_of_le_length (by rw [List.length_take]; have := h.le; omega)] at hx
    rcases List.mem_append.1 hx with h9 | h9
    · exact h.hi x h9
    · rw [List.mem_singleton] at h9; rw [h9]; exact hl
def nil14 (s : ByteArray) : LX := ⟨s, [], [], .slice none 0 0, .slice none 0 0⟩
theorem WtP.ins (h : WtP X s i a) (hr : RelX X A) (hi : X.length ≤ i) : RelX (X.take a ++ nil14 s :: X.drop a) A := by
  have e : X.take i = X := List.take_of_length_le hi
  have h1 := h.ne
  have h2 := h.hi
  rw [e] at h1 h2
  exact hr.ins rfl rfl h1 h.lo h2
theorem ins_bl (X : List LX) (s : ByteArray) (a : Nat) : blX (X.take a ++ nil14 s :: X.drop a) = blX X := by
  have e : blX (X.take a ++ nil14 s :: X.drop a) = blX (X.take a) ++ blX (X.drop a) := by simp [blX, nil14, LX.bl, Value.ownBlock]
  rw [e]
  unfold blX
  rw [← List.flatMap_append, List.take_append_drop]
theorem ins_tot (X : List LX) (s : ByteArray) (a : Nat) : tot (X.take a ++ nil14 s :: X.drop a) = tot X := by
  rw [tot_app]
  have h9 := tot_app (X.take a) (X.drop a)
  rw [List.take_append_drop] at h9
  rw [h9]
  simp [tot, nil14]
theorem ins_mem {X : List LX} {s : ByteArray} {a : Nat} {x : LX} (hx : x ∈ X.take a ++ nil14 s :: X.drop a) : x ∈ X ∨ x = nil14 s := by
  rcases List.mem_append.1 hx with h9 | h9
  · exact .inl (List.mem_of_mem_take h9)
  · rcases List.mem_cons.1 h9 with h9 | h9
    · exact .inr h9
    · exact .inl (List.mem_of_mem_drop h9)
theorem ins_at {X : List LX} {s : ByteArray} {a : Nat} (ha : a ≤ X.length) : (X.take a ++ nil14 s :: X.drop a)[a]? = some (nil14 s) := by
  rw [List.getElem?_append_right (by rw [List.length_take]; omega), List.length_take, Nat.min_eq_left ha, Nat.sub_self]
  rfl
end
theorem ownsRow_form {w : World} {B : Nat} {e : TypeId} {size n : Nat} {v : Value} {xs : List Value} (h : w.ownsRow B e size v n xs) : ∃ a c, v = .slice a n c := by
  rcases h.2 with ⟨e1, e2⟩ | ⟨g, cap, cur, e1, -⟩
  · exact ⟨none, 0, by rw [e1, e2]⟩
  · exact ⟨_, _, e1⟩
theorem TabO.one {B : Nat} {w : World} {v : Value} {X : List LX} (h : TabO B w v X) : ∀ u ∈ lxC X, u.oneCell' = true := by
  intro u hu
  obtain ⟨x, hx, h9⟩ := List.mem_flatMap.1 hu
  obtain ⟨a, c, e1⟩ := ownsRow_form (h.hr x hx)
  obtain ⟨b, d, e2⟩ := ownsRow_form (h.qr x hx)
  simp only [LX.cells, List.mem_cons, List.not_mem_nil, or_false] at h9
  rcases h9 with rfl | rfl | rfl
  · rfl
  · rw [e1]; rfl
  · rw [e2]; rfl

/-- a copy with one lock more -/
theorem TabO.insert {B : Nat} {w : World} {a1 : Option Addr} {n c1 : Nat} {X : List LX} (h : TabO B w (.slice a1 n c1) X) (hn : X.length = n) (s : ByteArray) (a : Nat) (ha : a ≤ n) (hB : B ≤ w.heap.size) (hl : n ≤ 1048576) :
    ∃ (b6 : Option Addr) (c6 : Nat) (w6 : World) (R7 c7 : Nat) (w7 : World) (b8 : Option Addr) (c8 : Nat) (w8 : World),
      (Builtin.append_ #[49, 49] 49 #[.slice none 0 0, sliced a1 0 a c1 3]).run Try.prog w = .ok (.slice b6 a c6) w6 ∧
      (Builtin.append_ #[49, 49] 49 #[.slice b6 a c6, .slice (some ⟨w6.heap.size, 0, none⟩) 1 1]).run Try.prog (w6.alloc (.cells #[.string s, .slice none 0 0, .slice none 0 0] 98)) = .ok (.slice (some ⟨R7, 0, none⟩) (a + 1) c7) w7 ∧
      (Builtin.append_ #[49, 49] 49 #[.slice (some ⟨R7, 0, none⟩) (a + 1) c7, sliced a1 a n c1 3]).run Try.prog w7 = .ok (.slice b8 (n + 1) c8) w8 ∧
      Below w.heap.size w w6 ∧ Below w.heap.size w w7 ∧ Below w.heap.size w w8 ∧ TabO B w8 (.slice b8 (n + 1) c8) (X.take a ++ nil14 s :: X.drop a) := by
  have hrd : RdV NoF w 3 (.slice a1 n c1) n (lxC X) := by
    have h9 := RdV.of_own (F := NoF) h.row (fun _ _ => noF _)
    rw [hn] at h9; exact h9
  have p1 := hrd.part 0 a (Nat.zero_le _) ha
  have e1 := lxC_part X 0 a
  simp only [Nat.zero_mul, Nat.sub_zero, List.drop_zero] at p1 e1
  rw [← e1] at p1
  have o1 : ∀ u ∈ lxC (X.take a), u.oneCell' = true := fun u hu => by
    obtain ⟨x, hx, h9⟩ := List.mem_flatMap.1 hu
    exact h.one u (List.mem_flatMap.2 ⟨x, List.mem_of_mem_take hx, h9⟩)
  have o2 : ∀ u ∈ lxC (X.drop a), u.oneCell' = true := fun u hu => by
    obtain ⟨x, hx, h9⟩ := List.mem_flatMap.1 hu
    exact h.one u (List.mem_flatMap.2 ⟨x, List.mem_of_mem_drop hx, h9⟩)
  obtain ⟨b6, c6, w6, hr6, ho6, hg6, hob6⟩ := app_rw (ty := 49) (B := w.heap.size) info_lx Try.underlying49 rfl (by decide) (by decide) (World.ownsRow_nil w w.heap.size _ _) p1 o1 (Nat.le_refl _) (by omega)
  rw [Nat.zero_add] at hr6 ho6 hob6
  rw [List.nil_append] at ho6
  have hb6 : Below w.heap.size w w6 := below_grown (Below.refl _ _) hg6 (fun i e => by have e9 : (none : Option Nat) = some i := e; cases e9)
  obtain ⟨R7, c7, w7, hr7, ho7, hg7, hob7⟩ := push_rw (ty := 49) info_lx Try.underlying49 rfl (by decide) (by decide) ho6 #[.string s, .slice none 0 0, .slice none 0 0] rfl (by intro u hu; simp at hu; rcases hu with rfl | rfl | rfl <;> rfl) hb6.size (by omega)
  have hb7 : Below w.heap.size w w7 := below_grown hb6 hg7 (fun i e => (ho6.lt i e).1)
  have hr2 := (hrd.below hb7).part a n ha (Nat.le_refl _)
  have e2 := lxC_part X a (n - a)
  rw [List.take_of_length_le (by rw [List.length_drop]; omega)] at e2
  rw [← e2] at hr2
  obtain ⟨b8, c8, w8, hr8, ho8, hg8, hob8⟩ := app_rw (ty := 49) info_lx Try.underlying49 rfl (by decide) (by decide) ho7 hr2 o2 hb7.size (by omega)
  have hb8 : Below w.heap.size w w8 := below_grown hb7 hg8 (fun i e => (ho7.lt i e).1)
  rw [show a + 1 + (n - a) = n + 1 by omega] at hr8 ho8
  refine ⟨b6, c6, w6, R7, c7, w7, b8, c8, w8, hr6, hr7, hr8, hb6, hb7, hb8, ?_⟩
  have hl9 : (X.take a ++ nil14 s :: X.drop a).length = n + 1 := by simp; omega
  refine ⟨?_, fun x hx => ?_, fun x hx => ?_, by rw [ins_bl]; exact h.nd⟩
  · rw [hl9]
    have e9 : lxC (X.take a) ++ (#[Value.string s, .slice none 0 0, .slice none 0 0]).toList ++ lxC (X.drop a) = lxC (X.take a ++ nil14 s :: X.drop a) := by simp [lxC, LX.cells, nil14]
    rw [← e9]
    exact rowU_mono' ho8 hB
  · rcases ins_mem hx with h9 | rfl
    · exact rowU_keep (h.hr x h9) (fun k hk => hb8.block k ((h.hr x h9).lt k hk).2)
    · exact World.ownsRow_nil _ _ _ _
  · rcases ins_mem hx with h9 | rfl
    · exact rowU_keep (h.qr x h9) (fun k hk => hb8.block k ((h.qr x h9).lt k hk).2)
    · exact World.ownsRow_nil _ _ _ _

def WtPost (w : World) (X : List LX) (A : AS) (s : ByteArray) (e : Ending) (w' : World) : Prop :=
  ∃ v' X' k, e = .returned (.tuple #[.agg #[v'], .int .i64 (k : Nat)]) ∧ RelX X' A ∧ TabO w.heap.size w' v' X' ∧ Below w.heap.size w w' ∧ (∃ x, X'[k]? = some x ∧ x.name = s) ∧ X'.length ≤ X.length + 1 ∧ tot X' = tot X

set_option maxHeartbeats 4000000 in
theorem r14_with {F : Foot} (w : World) (v : Value) (X : List LX) (A : AS) (h : TabF F w v X) (hr : RelX X A) (hsz : XSz X 1048575) (s : ByteArray) :
    Calls Try.prog 42 #[.agg #[v], .string s] w (WtPost w X A s) := by
  obtain ⟨ha, hc, rfl, -, -⟩ := h.row.form
  obtain ⟨n, hn⟩ : ∃ n, X.length = n := ⟨_, rfl⟩
  rw [hn] at h ⊢
  obtain ⟨wb, hwb⟩ : ∃ wb, (w.alloc (.cells #[.slice ha n hc] 51)).alloc (.cells #[.slice none 0 0] 51) = wb := ⟨_, rfl⟩
  have hbb : Below w.heap.size w wb := by rw [← hwb]; exact below_more (below_more (Below.refl _ _) _) _
  have s1 : (w.alloc (.cells #[.slice ha n hc] 51)).heap.size = w.heap.size + 1 := World.size_alloc _ _
  have kb0 : wb.heap[w.heap.size]? = some (.cells #[.slice ha n hc] 51 (0, 0)) := by
    rw [← hwb, heap_alloc_old _ _ (by rw [s1]; omega)]; exact heap_alloc_new w _
  have kb1 : wb.heap[w.heap.size + 1]? = some (.cells #[.slice none 0 0] 51 (0, 0)) := by
    rw [← hwb, ← s1]; exact heap_alloc_new _ _
  have sb : wb.heap.size = w.heap.size + 1 + 1 := by rw [← hwb, World.size_alloc, s1]
  have hcp := r14_copied wb _ X (h.below hbb) (hsz.mono (by omega))
  have HCP := Lib.hid hcp
  have HW := Lib.hid (And.intro hbb (And.intro kb0 (And.intro kb1 sb)))
  have HX := Lib.hid (And.intro hn (And.intro hr hsz))
  clear h hn hr hsz hbb s1 kb0 kb1 sb hcp
  go_enter Try.func42, Try.ntmps42
  go_wp2_with (first | (refine wpList_load_row rfl _ _ rfl w.heap.size rfl _ _ (0, 0) _ HW.out.2.1 Try.underlying51 rfl infoT ?_) | fail)
  refine HCP.out.mono ?_
  rintro e w4 ⟨v1, X1, rfl, hp1, hto, hb4⟩
  obtain ⟨a1, c1, rfl⟩ := ownsRow_form hto.row
  obtain ⟨n1, hn1⟩ : ∃ n1, X1.length = n1 := ⟨_, rfl⟩
  have hnn : n1 = n := by rw [← hn1, pX_len hp1]; exact HX.out.1
  rw [hn1] at hto ⊢
  obtain ⟨w5, hw5⟩ : ∃ w5, w4.setRow w.heap.size #[.slice a1 n1 c1] = w5 := ⟨_, rfl⟩
  have k40 := (hb4.block _ (lt_of_block HW.out.2.1)).trans HW.out.2.1
  have k41 := (hb4.block _ (lt_of_block HW.out.2.2.1)).trans HW.out.2.2.1
  have hoth : ∀ k, k ≠ w.heap.size → w5.heap[k]? = w4.heap[k]? := fun k hk => by rw [← hw5]; exact setRow_otherL _ _ _ _ hk
  have k50 : w5.heap[w.heap.size]? = some (.cells #[.slice a1 n1 c1] 51 (0, 0)) := by rw [← hw5]; exact setRow_heap w4 _ _ _ _ _ k40
  have k51 : w5.heap[w.heap.size + 1]? = _ := (hoth _ (by omega)).trans k41
  have hbw4 := HW.out.1.trans (hb4.mono HW.out.1.size)
  have hb5 : Below w.heap.size w w5 := ⟨by rw [← hw5]; exact hbw4.os, by rw [← hw5]; exact hbw4.tape, by rw [← hw5]; exact hbw4.output, by rw [← hw5, setRow_size]; exact hbw4.size, fun k hk => by rw [hoth k (by omega)]; exact hbw4.block k hk⟩
  have hto5 : TabO (w.heap.size + 1 + 1) w5 (.slice a1 n1 c1) X1 := by
    rw [HW.out.2.2.2] at hto
    exact hto.keep (fun k hk hB => hoth k (by omega))
  have hr1 := HX.out.2.1.cong hp1
  have ht1 := pX_tot hp1
  have K4 := Lib.hid k40
  have H5 := Lib.hid (And.intro hb5 (And.intro k50 (And.intro k51 hto5)))
  have HP := Lib.hid (And.intro hn1 (And.intro hnn (And.intro hr1 ht1)))
  have z0 : w5.cell? ⟨w.heap.size, 0, none⟩ = some (.slice a1 n1 c1) := cell_of_row w5 w.heap.size 0 _ _ _ k50
  clear hp1 hto hb4 hn1 hnn k40 k41 hoth k50 k51 hbw4 hb5 hto5 hr1 ht1 HCP hwb
  go_wp2_with (first | (refine wpList_store_row rfl _ _ _ rfl w.heap.size _ rfl rfl _ _ K4.out infoT rfl (by simp [Value.oneCell']) ?_; rw [hw5]) | fail)
  go_loopw [6, 7] (fun av iv wr => wr = w5 ∧ ∃ i a : Nat, iv = .int .i64 i ∧ av = .int .i64 a ∧ i ≤ n1 ∧ WtP X1 s i a) (fun _ iv _ => n1 - (Go.RowKit.intOf iv).toNat)
  case atStart => exact ⟨by first | rfl | rw [hw5], 0, 0, rfl, rfl, Nat.zero_le _, WtP.start _ _⟩
  case round =>
    obtain ⟨rfl, i, a, rfl, rfl, hin, hP⟩ := hrel
    by_cases hlt : i < n1
    · have hil : i < X1.length := by rw [HP.out.1]; exact hlt
      have htf := H5.out.2.2.2.tabF (F := NoF) (fun _ _ => noF _)
      obtain ⟨g, off, rfl, hco⟩ := htf.at_ HP.out.1 i hil
      obtain ⟨c0, -, -⟩ := hco wr (Below.refl _ _)
      have hat : X1[i]? = some X1[i] := List.getElem?_eq_getElem hil
      have hl1 := hP.lt HP.out.2.2.1 hil
      have hl2 := hP.ge hil
      obtain ⟨x, hx⟩ : ∃ x, X1[i] = x := ⟨_, rfl⟩
      rw [hx] at c0 hat hl1 hl2
      obtain ⟨u, hu⟩ : ∃ u, x.name = u := ⟨_, rfl⟩
      rw [hu] at c0 hl1 hl2
      have hii : (i : Int) < (n1 : Int) := by omega
      have hi0 : (0 : Int) ≤ (i : Int) := by omega
      have HWJ : Hid (wrap64 ((i : Int) + 1) = ((i + 1 : Nat) : Int)) := by show _ = _; have := HP.out.2.1; have := HX.out.1; have := HX.out.2.2.ln; unfold wrap64; omega
      by_cases he : u = s
      · have hbe : (u.toList == s.toList) = true := by rw [toList_eqb]; simp [he]
        obtain ⟨w6, hw6⟩ : ∃ w6, wr.setRow (w.heap.size + 1) #[.slice (some ⟨g, off, none⟩) n1 c1] = w6 := ⟨_, rfl⟩
        have k6 : Hid (w6.heap[w.heap.size + 1]? = some (.cells #[.slice (some ⟨g, off, none⟩) n1 c1] 51 (0, 0))) := by
          show _ = _
          rw [← hw6]; exact setRow_heap wr _ _ _ _ _ H5.out.2.2.1
        have ho6 : ∀ k, k ≠ w.heap.size + 1 → w6.heap[k]? = wr.heap[k]? := fun k hk => by rw [← hw6]; exact setRow_otherL _ _ _ _ hk
        have hfin : Hid (WtPost w X A s (.returned (.tuple #[.agg #[.slice (some ⟨g, off, none⟩) n1 c1], .int .i64 i])) w6) :=
          ⟨_, X1, i, rfl, HP.out.2.2.1, (H5.out.2.2.2.keep (fun k hk hB => ho6 k (by omega))).base (by omega), ⟨by rw [← hw6]; exact H5.out.1.os, by rw [← hw6]; exact H5.out.1.tape, by rw [← hw6]; exact H5.out.1.output, by rw [← hw6, setRow_size]; exact H5.out.1.size, fun k hk => by rw [ho6 k (by omega)]; exact H5.out.1.block k hk⟩, ⟨x, hat, hu.trans he⟩, by rw [HP.out.1, HX.out.1]; have := HP.out.2.1; omega, HP.out.2.2.2⟩
        clear hl1 hl2 hat hx hu hlt hin hP hil htf hco ho6
        go_wp2_with (first | (refine wpList_load_row rfl _ _ rfl w.heap.size rfl _ _ (0, 0) _ H5.out.2.1 Try.underlying51 rfl infoT ?_) | (refine wpList_store_row rfl _ _ _ rfl (w.heap.size + 1) _ rfl rfl _ _ H5.out.2.2.1 infoT rfl (by simp [Value.oneCell']) ?_; rw [hw6]))
        exact bodyPost_ret (v := .tuple #[.agg #[.slice (some ⟨g, off, none⟩) n1 c1], .int .i64 i]) (by simp [results, Try.results42, asAddr, run_loadVar_row w6 (w.heap.size + 1) 51 51 _ (0, 0) _ k6.out Try.underlying51 rfl infoT]) rfl hfin.out
      · have hbe : (u.toList == s.toList) = false := by rw [toList_eqb]; simp [he]
        have HL1 := Lib.hid (fun h9 => hl1 he h9)
        have HL2 := Lib.hid (fun h9 => hl2 he h9)
        have HLT := Lib.hid hlt
        clear hl1 hl2 hat hx hu hlt hin hP hil htf hco
        by_cases hlb : ltN u s
        · have hbl : Op.bytesLess u.toList s.toList = true := by rw [bytesLess_ltN]; simp [hlb]
          have HN := Lib.hid (HL1.out hlb)
          clear HL1 HL2 hlb
          go_wp2
          go_roundw
          case rel => exact ⟨by trivial, i + 1, i + 1, by rw [HWJ.out], by rw [HWJ.out], HLT.out, HN.out⟩
          case measure => exact meas_up HWJ.out HLT.out
        · have hbl : Op.bytesLess u.toList s.toList = false := by rw [bytesLess_ltN]; simp [hlb]
          have HN := Lib.hid (HL2.out hlb)
          clear HL1 HL2 hlb
          go_wp2
          go_roundw
          case rel => exact ⟨by trivial, i + 1, a, by rw [HWJ.out], rfl, HLT.out, HN.out⟩
          case measure => exact meas_up HWJ.out HLT.out
    · have hii : ¬ (i : Int) < (n1 : Int) := by omega
      have hrel2 := hP.ins HP.out.2.2.1 (by rw [HP.out.1]; omega)
      have hal : a ≤ n1 := by have := hP.le; omega
      have hnl : n1 ≤ 1048575 := by have := HP.out.2.1; have := HX.out.1; have := HX.out.2.2.ln; omega
      have hcap : n1 ≤ c1 := by
        obtain ⟨a9, c9, e9, hcc, -⟩ := (RdV.of_own (F := NoF) H5.out.2.2.2.row (fun _ _ => noF _)).form
        injection e9 with e1 e2 e3
        rw [HP.out.1] at hcc
        omega
      obtain ⟨b6, c6, w6, R7, c7, w7, b8, c8, w8, hr6, hr7, hr8, hb6, hb7, hb8, hT8⟩ := H5.out.2.2.2.insert HP.out.1 s a hal (by have := lt_of_block H5.out.2.2.1; omega) (by omega)
      have q1 : ∀ W : World, (Instr.sliceAt 49 (.slice a1 n1 c1) none (some (.int .i64 a)) none).run Try.prog W = .ok (sliced a1 0 a c1 3) W := fun W => sliceH info_lx Try.underlying49 elemLk a1 n1 c1 a W a rfl (by omega)
      have q2 : ∀ W : World, (Instr.sliceAt 49 (.slice a1 n1 c1) (some (.int .i64 a)) none none).run Try.prog W = .ok (sliced a1 a n1 c1 3) W := fun W => sliceL info_lx Try.underlying49 elemLk a1 n1 c1 a W a rfl (by omega) (by omega)
      obtain ⟨s6, hs6⟩ : ∃ s6, sliced a1 0 a c1 3 = s6 := ⟨_, rfl⟩
      obtain ⟨s8, hs8⟩ : ∃ s8, sliced a1 a n1 c1 3 = s8 := ⟨_, rfl⟩
      rw [hs6] at hr6 q1
      rw [hs8] at hr8 q2
      obtain ⟨p6a, p6n, p6c, hp6⟩ : ∃ p6a p6n p6c, s6 = .slice p6a p6n p6c := ⟨_, _, _, hs6.symm⟩
      obtain ⟨p8a, p8n, p8c, hp8⟩ : ∃ p8a p8n p8c, s8 = .slice p8a p8n p8c := ⟨_, _, _, hs8.symm⟩
      clear hs6 hs8
      subst hp6 hp8
      have k70 := (hb7.block _ (lt_of_block H5.out.2.1)).trans H5.out.2.1
      have k80 := (hb8.block _ (lt_of_block H5.out.2.1)).trans H5.out.2.1
      have k81 := (hb8.block _ (lt_of_block H5.out.2.2.1)).trans H5.out.2.2.1
      have k60 := (hb6.block _ (lt_of_block H5.out.2.1)).trans H5.out.2.1
      have z6 : w6.cell? ⟨w.heap.size, 0, none⟩ = some (.slice a1 n1 c1) := cell_of_row w6 w.heap.size 0 _ _ _ k60
      have z7 : w7.cell? ⟨w.heap.size, 0, none⟩ = some (.slice a1 n1 c1) := cell_of_row w7 w.heap.size 0 _ _ _ k70
      have z8 : w8.cell? ⟨w.heap.size, 0, none⟩ = some (.slice a1 n1 c1) := cell_of_row w8 w.heap.size 0 _ _ _ k80
      have f8 : w8.frozen? ⟨w.heap.size, 0, none⟩ = false := by simp [World.frozen?, k80]
      obtain ⟨w9, hw9⟩ : ∃ w9, w8.setCell ⟨w.heap.size, 0, none⟩ (.slice b8 (n1 + 1) c8) = w9 := ⟨_, rfl⟩
      have k90 : w9.heap[w.heap.size]? = some (.cells #[.slice b8 (n1 + 1) c8] 51 (0, 0)) := by rw [← hw9]; exact setCell_blkL k80 _
      have ho9 : ∀ k, k ≠ w.heap.size → w9.heap[k]? = w8.heap[k]? := fun k hk => by rw [← hw9]; exact setCell_heapL _ _ _ _ hk
      have k91 := (ho9 _ (by omega)).trans k81
      obtain ⟨w10, hw10⟩ : ∃ w10, w9.setRow (w.heap.size + 1) #[.slice b8 (n1 + 1) c8] = w10 := ⟨_, rfl⟩
      have k10 : Hid (w10.heap[w.heap.size + 1]? = some (.cells #[.slice b8 (n1 + 1) c8] 51 (0, 0))) := by
        show _ = _
        rw [← hw10]; exact setRow_heap w9 _ _ _ _ _ k91
      have ho10 : ∀ k, k ≠ w.heap.size + 1 → w10.heap[k]? = w9.heap[k]? := fun k hk => by rw [← hw10]; exact setRow_otherL _ _ _ _ hk
      have hb58 := H5.out.1.trans (hb8.mono H5.out.1.size)
      have hfin : Hid (WtPost w X A s (.returned (.tuple #[.agg #[.slice b8 (n1 + 1) c8], .int .i64 a])) w10) :=
        ⟨_, X1.take a ++ nil14 s :: X1.drop a, a, rfl, hrel2, (hT8.keep (fun k hk hB => (ho10 k (by omega)).trans (ho9 k (by omega)))).base (by omega),
          ⟨by rw [← hw10, ← hw9]; exact hb58.os, by rw [← hw10, ← hw9]; exact hb58.tape, by rw [← hw10, ← hw9]; exact hb58.output, by rw [← hw10, setRow_size, ← hw9, setCell_sizeL]; exact hb58.size, fun k hk => by rw [ho10 k (by omega), ho9 k (by omega)]; exact hb58.block k hk⟩,
          ⟨nil14 s, ins_at (by rw [HP.out.1]; exact hal), rfl⟩, by have := HP.out.1; have := HP.out.2.1; have := HX.out.1; simp; omega, by rw [ins_tot]; exact HP.out.2.2.2⟩
      have HR6 := Lib.hid hr6
      have HR7 := Lib.hid hr7
      have HR8 := Lib.hid hr8
      have HK9 := Lib.hid (And.intro k90 k91)
      have ta : ¬ ((n1 : Int) < (a : Int)) := by omega
      have ta0 : (0 : Int) ≤ (a : Int) := by omega
      clear hr6 hr7 hr8 hb6 hb7 hb8 hT8 k70 k80 k81 k60 k90 k91 ho9 ho10 hb58 hrel2 hlt hin hP
      go_wp2_with (first | (at_builtin; refine wpList_append_eq rfl rfl HR6.out rfl rfl ?_; clear HR6) | (at_builtin; refine wpList_append_eq rfl rfl HR7.out rfl rfl ?_; clear HR7) | (at_builtin; refine wpList_append_eq rfl rfl HR8.out rfl rfl ?_; clear HR8) | (refine wpList_load_row rfl _ _ rfl w.heap.size rfl _ _ (0, 0) _ HK9.out.1 Try.underlying51 rfl infoT ?_) | (refine wpList_store_row rfl _ _ _ rfl (w.heap.size + 1) _ rfl rfl _ _ HK9.out.2 infoT rfl (by simp [Value.oneCell']) ?_; rw [hw10]))
      exact bodyPost_ret (v := .tuple #[.agg #[.slice b8 (n1 + 1) c8], .int .i64 a]) (by simp [results, Try.results42, asAddr, run_loadVar_row w10 (w.heap.size + 1) 51 51 _ (0, 0) _ k10.out Try.underlying51 rfl infoT]) rfl hfin.out
end Mun
