/- Rows of rows put together anew: append(append(append([][]byte{}, a...), x), b...). -/
import Derived.Test.YtndeebchiodimaaRowB
import Derived.Test.YtndeebchiodimaaListsW
set_option maxRecDepth 100000
set_option linter.unusedVariables false
set_option linter.unusedSimpArgs false
namespace Mun
open Go Go.RowKit
open Go.Proofs

theorem row_underlying : Try.prog.underlying 28 = some (.slice (Try.prog.elem 28)) := by
  have he : Try.prog.elem 28 = 22 := by kernel_rfl
  rw [he]; exact Try.underlying28

/-- the run of a cut of rows at its end -/
theorem row_to (a : Option Addr) (n c m : Nat) (M : Int) (hM : M = m) (hm : m ≤ c) (W : World) :
    (Instr.sliceAt 28 (.slice a n c) none (some (.int .i64 M)) none).run Try.prog W = .ok (.slice a m c) W := by
  subst hM
  obtain ⟨i, hi', hz, hs1, hs2⟩ := info_of info_bs
  have he : Try.prog.elem 28 = 22 := by kernel_rfl
  rw [run_sliceAt_slice _ _ _ _ _ _ row_underlying, run_slice_h _ _ _ _ _ row_underlying _ _ (by omega) (by omega), he]
  simp [Go.sizeOf, typeInfo, hi', hs1, sliced]
  cases a with
  | none => simp
  | some x => simp [Addr.add]

theorem RdV.to {F : Foot} {w : World} {a : Option Addr} {n c : Nat} {xs : List Value} (h : RdV F w 1 (.slice a n c) n xs) (m : Nat) (hm : m ≤ n) : RdV F w 1 (.slice a m c) m (xs.take m) := by
  obtain ⟨h0, a', c', hv, hc1, hc2, hnil, h4⟩ := h
  injection hv with e1 e2 e3
  subst e1 e3
  refine ⟨by rw [List.length_take]; omega, a, c, rfl, by omega, hc2, hnil, fun hp => ?_⟩
  obtain ⟨g, off, cur, e, fr, ha, hg, hh, hx⟩ := h4 (by omega)
  refine ⟨g, off, cur, e, fr, ha, hg, hh, ?_⟩
  rw [← hx, List.take_take]
  congr 1
  omega

/-- the run of a cut of rows at its beginning -/
theorem row_from {F : Foot} {w : World} {a : Option Addr} {n c : Nat} {xs : List Value} (h : RdV F w 1 (.slice a n c) n xs) (lo : Nat) (L : Int) (hL : L = lo) (h1 : lo ≤ n) :
    ∃ a1 c1, (∀ W, (Instr.sliceAt 28 (.slice a n c) (some (.int .i64 L)) none none).run Try.prog W = .ok (.slice a1 (n - lo) c1) W) ∧ RdV F w 1 (.slice a1 (n - lo) c1) (n - lo) (xs.drop lo) := by
  subst hL
  obtain ⟨h0, a', c', hv, hc1, hc2, hnil, h4⟩ := h
  injection hv with e1 e2 e3
  subst e1 e3
  have hr : ∀ W, (Instr.sliceAt 28 (.slice a n c) (some (.int .i64 (lo : Int))) none none).run Try.prog W = .ok (.slice (if c = lo then a else a.map (·.add lo)) (n - lo) (c - lo)) W := by
    intro W
    obtain ⟨i, hi', hz, hs1, hs2⟩ := info_of info_bs
    have he : Try.prog.elem 28 = 22 := by kernel_rfl
    rw [run_sliceAt_slice _ _ _ _ _ _ row_underlying, run_slice_l _ _ _ _ _ row_underlying _ _ (by omega) (by omega), he]
    simp [Go.sizeOf, typeInfo, hi', hs1, sliced]
  refine ⟨_, _, hr, by rw [List.length_drop]; omega, _, _, rfl, by omega, by omega, ?_, ?_⟩
  · intro hn
    split at hn
    · have := hnil hn; omega
    · cases a with
      | none => have := hnil rfl; omega
      | some _ => simp at hn
  · intro hp
    obtain ⟨g, off, cur, e, fr, ha, hg, hh, hx⟩ := h4 (by omega)
    subst ha
    refine ⟨g, off + lo, cur, e, fr, ?_, hg, hh, ?_⟩
    · rw [if_neg (by omega)]
      simp only [Option.map_some, addr_add]
    · rw [← hx, List.drop_take, List.drop_drop]
      congr 1
      omega

/-- what lies above B -/
def FarF (B : Nat) : Foot := fun k => B ≤ k
theorem RdV.far {w : World} {size n : Nat} {v : Value} {xs : List Value} (h : RdV NoF w size v n xs) {B : Nat} (hB : w.heap.size ≤ B) : RdV (FarF B) w size v n xs :=
  RdV.mono h (fun k hk h2 => by unfold FarF at h2; omega)
theorem RdV.farBelow {B : Nat} {w w' : World} {size n : Nat} {v : Value} {xs : List Value} (h : RdV (FarF B) w size v n xs) (hb : Below B w w') : RdV (FarF B) w' size v n xs :=
  RdV.keep h (fun k hk hF => hb.block k (by unfold FarF at hF; omega)) (fun _ _ h => h)

/-- a row of the call's own on its way -/
structure Ch (B : Nat) (w0 w : World) (v : Value) (vs : List Value) : Prop where
  own : OwnV w B v vs
  bl : Below B w0 w
  hB : B ≤ w.heap.size

theorem Ch.app {F : Foot} {B : Nat} {w0 w : World} {ty : TypeId} {v s : Value} {vs ys : List Value} {m : Nat} (h : Ch B w0 w v vs) (hs : RdV F w 1 s m ys) (hy : ∀ u ∈ ys, u.oneCell' = true) (hb : vs.length + ys.length < 1000000) :
    ∃ a n c w', (Builtin.append_ #[28, 28] ty #[v, s]).run Try.prog w = .ok (.slice a n c) w' ∧ Ch B w0 w' (.slice a n c) (vs ++ ys) ∧
      (∀ X, X < w.heap.size → v.ownBlock ≠ some X → w'.heap[X]? = w.heap[X]?) ∧ w.heap.size ≤ w'.heap.size ∧
      ((Value.slice a n c).ownBlock = v.ownBlock ∨ (Value.slice a n c).ownBlock = some w.heap.size) := by
  obtain ⟨i, hi, hz, h1, h2⟩ := info_of info_bs
  have hm : m = ys.length := by have := hs.len; omega
  subst hm
  obtain ⟨v', w', hr, h3, h4, h5, h6⟩ := run_append_rd (P := Try.prog) (ty := ty) Try.underlying28 hi hz h1 h2 (by rfl) (by omega) h.own hs hy (by omega) (by omega) h.hB
  obtain ⟨a, c, e, -⟩ := (RdV.of_own (F := NoF) h3 (fun _ _ => noF _)).form
  subst e
  refine ⟨a, _, c, w', hr, ⟨?_, h.bl.grown h4 h.hB (fun k hk => (h.own.lt k hk).1), ?_⟩, fun X hX hn => h4.block X hX (fun e => hn e.symm), h4.size, h5⟩
  · unfold OwnV; rw [List.length_append]; exact h3
  · have := h4.size; have := h.hB; omega

theorem Ch.alloc {B : Nat} {w0 w : World} {v : Value} {vs : List Value} (h : Ch B w0 w v vs) (o : Obj) : Ch B w0 (w.alloc o) v vs :=
  ⟨World.ownsRow.alloc h.own o, h.bl.alloc h.hB o, by rw [World.size_alloc]; have := h.hB; omega⟩
theorem Ch.empty {B : Nat} {w0 w : World} (hb : Below B w0 w) (hB : B ≤ w.heap.size) : Ch B w0 (w.alloc (.cells #[] 22)) (.slice (some ⟨w.heap.size, 0, none⟩) 0 0) [] :=
  ⟨⟨rfl, .inr ⟨_, _, _, rfl, hB, heap_alloc_new w _, Nat.le_refl _, by unfold maxLen; omega, rfl, rfl⟩⟩, hb.alloc hB _, by rw [World.size_alloc]; omega⟩

theorem one_row (w : World) (X : Nat) (x : Value) (h : w.heap[X]? = some (.cells #[x] 22 (0, 0))) : RdV NoF w 1 (.slice (some ⟨X, 0, none⟩) 1 1) 1 [x] :=
  ⟨rfl, _, _, rfl, Nat.le_refl _, by unfold maxLen; omega, by simp, fun _ => ⟨X, 0, _, _, _, rfl, noF _, h, rfl⟩⟩

section
variable {B : Nat} {w0 w1 : World} {t1 t2 t3 : TypeId} {v0 s1 s3 x : Value} {n1 n3 : Nat} {ys1 ys3 : List Value}

abbrev runApp (t : TypeId) (v s : Value) (w : World) (v' : Value) (w' : World) : Prop := (Builtin.append_ #[28, 28] t #[v, s]).run Try.prog w = .ok v' w'

theorem spl2 (h : Ch B w0 w1 v0 []) (R1 : RdV (FarF B) w1 1 s1 n1 ys1) (R3 : RdV (FarF B) w1 1 s3 n3 ys3) (o1 : ∀ u ∈ ys1, u.oneCell' = true) (o3 : ∀ u ∈ ys3, u.oneCell' = true) (hl : ys1.length + ys3.length < 999999) (hw : Below B w1 w1) :
    ∃ a n c w2 a3 n3' c3 w4, runApp t1 v0 s1 w1 (.slice a n c) w2 ∧ runApp t3 (.slice a n c) s3 w2 (.slice a3 n3' c3) w4 ∧ Ch B w0 w4 (.slice a3 n3' c3) (ys1 ++ ys3) ∧ Below B w1 w2 := by
  have h' : Ch B w1 w1 v0 [] := ⟨h.own, Below.refl _ _, h.hB⟩
  obtain ⟨a, n, c, w2, r1, k1, q1, z1, e1⟩ := h.app (ty := t1) R1 o1 (by simp; omega)
  obtain ⟨a', n', c', w2', r1', k1', -⟩ := h'.app (ty := t1) R1 o1 (by simp; omega)
  have e := r1.symm.trans r1'
  injection e with e2 e3
  subst e3
  have b12 : Below B w1 w2 := k1'.bl
  rw [List.nil_append] at k1
  obtain ⟨a3, n3', c3, w4, r3, k3, q3, z3, e3⟩ := k1.app (ty := t3) (R3.farBelow b12) o3 (by omega)
  exact ⟨a, n, c, w2, a3, n3', c3, w4, r1, r3, k3, b12⟩

theorem spl3 (h : Ch B w0 w1 v0 []) (R1 : RdV (FarF B) w1 1 s1 n1 ys1) (R3 : RdV (FarF B) w1 1 s3 n3 ys3) (o1 : ∀ u ∈ ys1, u.oneCell' = true) (o3 : ∀ u ∈ ys3, u.oneCell' = true) (ox : x.oneCell' = true) (hl : ys1.length + ys3.length < 999999)
    (X : Nat) (hX : w1.heap[X]? = some (.cells #[x] 22 (0, 0))) (hv : v0.ownBlock ≠ some X) :
    ∃ a n c w2 a2 n2 c2 w3 a3 n3' c3 w4, runApp t1 v0 s1 w1 (.slice a n c) w2 ∧ runApp t2 (.slice a n c) (.slice (some ⟨X, 0, none⟩) 1 1) w2 (.slice a2 n2 c2) w3 ∧ runApp t3 (.slice a2 n2 c2) s3 w3 (.slice a3 n3' c3) w4 ∧
      Ch B w0 w4 (.slice a3 n3' c3) (ys1 ++ [x] ++ ys3) ∧ Below B w1 w2 ∧ Below B w1 w3 := by
  have h' : Ch B w1 w1 v0 [] := ⟨h.own, Below.refl _ _, h.hB⟩
  have hXl := (Array.getElem?_eq_some_iff.1 hX).1
  obtain ⟨a, n, c, w2, r1, k1, q1, z1, e1⟩ := h.app (ty := t1) R1 o1 (by simp; omega)
  obtain ⟨a', n', c', w2', r1', k1', -⟩ := h'.app (ty := t1) R1 o1 (by simp; omega)
  have e := r1.symm.trans r1'
  injection e with e2 e3
  injection e2 with f1 f2 f3
  subst e3 f1 f2 f3
  have hX2 : w2.heap[X]? = some (.cells #[x] 22 (0, 0)) := (q1 X hXl hv).trans hX
  rw [List.nil_append] at k1 k1'
  obtain ⟨a2, n2, c2, w3, r2, k2, q2, z2, e2⟩ := k1.app (ty := t2) (one_row w2 X x hX2) (by intro u hu; simp at hu; subst hu; exact ox) (by simp; omega)
  obtain ⟨a2', n2', c2', w3', r2', k2', -⟩ := k1'.app (ty := t2) (one_row w2 X x hX2) (by intro u hu; simp at hu; subst hu; exact ox) (by simp; omega)
  have e := r2.symm.trans r2'
  injection e with e2 e3
  subst e3
  have b13 : Below B w1 w3 := k2'.bl
  obtain ⟨a3, n3', c3, w4, r3, k3, q3, z3, e3⟩ := k2.app (ty := t3) (R3.farBelow b13) o3 (by simp; omega)
  exact ⟨a, n, c, w2, a2, n2, c2, w3, a3, n3', c3, w4, r1, r2, r3, k3, k1'.bl, b13⟩

/-- the literal made behind the first append -/
theorem spl3A (h : Ch B w0 w1 v0 []) (R1 : RdV (FarF B) w1 1 s1 n1 ys1) (R3 : RdV (FarF B) w1 1 s3 n3 ys3) (o1 : ∀ u ∈ ys1, u.oneCell' = true) (o3 : ∀ u ∈ ys3, u.oneCell' = true) (ox : x.oneCell' = true) (hl : ys1.length + ys3.length < 999999) :
    ∃ a n c w2 a2 n2 c2 w3 a3 n3' c3 w4, runApp t1 v0 s1 w1 (.slice a n c) w2 ∧ runApp t2 (.slice a n c) (.slice (some ⟨w2.heap.size, 0, none⟩) 1 1) (w2.alloc (.cells #[x] 22)) (.slice a2 n2 c2) w3 ∧ runApp t3 (.slice a2 n2 c2) s3 w3 (.slice a3 n3' c3) w4 ∧
      Ch B w0 w4 (.slice a3 n3' c3) (ys1 ++ [x] ++ ys3) ∧ Below B w1 w2 ∧ Below B w1 (w2.alloc (.cells #[x] 22)) ∧ Below B w1 w3 := by
  have h' : Ch B w1 w1 v0 [] := ⟨h.own, Below.refl _ _, h.hB⟩
  obtain ⟨a, n, c, w2, r1, k1, q1, z1, e1⟩ := h.app (ty := t1) R1 o1 (by simp; omega)
  obtain ⟨a', n', c', w2', r1', k1', -⟩ := h'.app (ty := t1) R1 o1 (by simp; omega)
  have e := r1.symm.trans r1'
  injection e with e2 e3
  injection e2 with f1 f2 f3
  subst e3 f1 f2 f3
  rw [List.nil_append] at k1 k1'
  have kx := k1.alloc (.cells #[x] 22)
  have kx' := k1'.alloc (.cells #[x] 22)
  obtain ⟨a2, n2, c2, w3, r2, k2, q2, z2, e2⟩ := kx.app (ty := t2) (one_row _ w2.heap.size x (heap_alloc_new w2 _)) (by intro u hu; simp at hu; subst hu; exact ox) (by simp; omega)
  obtain ⟨a2', n2', c2', w3', r2', k2', -⟩ := kx'.app (ty := t2) (one_row _ w2.heap.size x (heap_alloc_new w2 _)) (by intro u hu; simp at hu; subst hu; exact ox) (by simp; omega)
  have e := r2.symm.trans r2'
  injection e with e2 e3
  subst e3
  have b13 : Below B w1 w3 := k2'.bl
  obtain ⟨a3, n3', c3, w4, r3, k3, q3, z3, e3⟩ := k2.app (ty := t3) (R3.farBelow b13) o3 (by simp; omega)
  exact ⟨a, n, c, w2, a2, n2, c2, w3, a3, n3', c3, w4, r1, r2, r3, k3, k1'.bl, kx'.bl, b13⟩
end

/-- values that read as their bytes -/
structure Eq2 (w : World) (us : List Value) (cs : List PBytes) : Prop where
  len : us.length = cs.length
  rd : ∀ (i : Nat) (u : Value) (c : PBytes), us[i]? = some u → cs[i]? = some c → RdB NoF w u c

theorem Eq2.below {w w' : World} {us : List Value} {cs : List PBytes} (h : Eq2 w us cs) (hb : Below w.heap.size w w') : Eq2 w' us cs := ⟨h.len, fun i u c h1 h2 => RdB.below (h.rd i u c h1 h2) hb⟩
theorem Eq2.take {w : World} {us : List Value} {cs : List PBytes} (h : Eq2 w us cs) (k : Nat) : Eq2 w (us.take k) (cs.take k) := by
  refine ⟨by simp [h.len], fun i u c h1 h2 => ?_⟩
  rw [List.getElem?_take] at h1 h2
  split at h1
  · rw [if_pos (by assumption)] at h2; exact h.rd i u c h1 h2
  · cases h1
theorem Eq2.drop {w : World} {us : List Value} {cs : List PBytes} (h : Eq2 w us cs) (k : Nat) : Eq2 w (us.drop k) (cs.drop k) := by
  refine ⟨by simp [h.len], fun i u c h1 h2 => ?_⟩
  rw [List.getElem?_drop] at h1 h2
  exact h.rd _ u c h1 h2
theorem Eq2.app {w : World} {us us2 : List Value} {cs cs2 : List PBytes} (h : Eq2 w us cs) (k : Eq2 w us2 cs2) : Eq2 w (us ++ us2) (cs ++ cs2) := by
  refine ⟨by simp [h.len, k.len], fun i u c h1 h2 => ?_⟩
  rcases Nat.lt_or_ge i us.length with hi | hi
  · rw [List.getElem?_append_left hi] at h1
    rw [List.getElem?_append_left (by rw [← h.len]; exact hi)] at h2
    exact h.rd i u c h1 h2
  · rw [List.getElem?_append_right hi] at h1
    rw [List.getElem?_append_right (by rw [← h.len]; exact hi), ← h.len] at h2
    exact k.rd _ u c h1 h2
theorem Eq2.one {w : World} {u : Value} {c : PBytes} (h : RdB NoF w u c) : Eq2 w [u] [c] := by
  refine ⟨rfl, fun i u' c' h1 h2 => ?_⟩
  cases i with
  | zero => simp at h1 h2; subst h1 h2; exact h
  | succ i => simp at h1
theorem ListsAt.eq2 {w : World} {v : Value} {cs : List PBytes} {us : List Value} (h : ListsAt NoF w v cs us) : Eq2 w us cs := by
  refine ⟨by have := h.row.len; omega, fun i u c h1 h2 => ?_⟩
  have hi : i < cs.length := by
    rcases Nat.lt_or_ge i cs.length with h | h
    · exact h
    · rw [List.getElem?_eq_none h] at h2; cases h2
  obtain ⟨u', h3, h4⟩ := h.rd i hi
  rw [h1] at h3
  injection h3 with h3
  subst h3
  rw [List.getElem?_eq_getElem hi] at h2
  injection h2 with h2
  rw [← h2]; exact h4
theorem Ch.lists {B : Nat} {w0 w : World} {v : Value} {us : List Value} {cs : List PBytes} (h : Ch B w0 w v us) (he : Eq2 w us cs) : ListsAt NoF w v cs us := by
  have hr := h.own
  unfold OwnV at hr
  refine ⟨by rw [← he.len]; exact RdV.of_own hr (fun _ _ => noF _), fun i hi => ?_⟩
  have hu : i < us.length := by rw [he.len]; exact hi
  exact ⟨us[i], List.getElem?_eq_getElem hu, he.rd i _ _ (List.getElem?_eq_getElem hu) (List.getElem?_eq_getElem hi)⟩
theorem Eq2.one_cell {w : World} {us : List Value} {cs : List PBytes} (h : Eq2 w us cs) : ∀ u ∈ us, u.oneCell' = true := by
  intro u hu
  obtain ⟨i, hi, rfl⟩ := List.getElem_of_mem hu
  have := h.rd i us[i] (cs[i]'(by rw [← h.len]; exact hi)) (List.getElem?_eq_getElem hi) (List.getElem?_eq_getElem _)
  obtain ⟨a, c, e, -⟩ := this.form
  rw [e]; rfl

abbrev EO : Obj := .cells #[] 22
abbrev XO (x : Value) : Obj := .cells #[x] 22

/-- a cell in the place of those from lo to hi: the row made anew, whatever the order -/
theorem splice3 {t1 t2 t3 : TypeId} (w : World) (ca : Option Addr) (m cc lo hi : Nat) (H : Int) (cs : List PBytes) (us : List Value) (x : Value) (c : PBytes) (hL : ListsAt NoF w (.slice ca m cc) cs us) (hx : RdB NoF w x c) (h1 : lo ≤ hi) (h2 : hi ≤ m) (hm : m ≤ 1000) (hH : H = hi) :
    ∃ a1 c1, (∀ W, (Instr.sliceAt 28 (.slice ca m cc) none (some (.int .i64 (lo : Int))) none).run Try.prog W = .ok (.slice ca lo cc) W) ∧
      (∀ W, (Instr.sliceAt 28 (.slice ca m cc) (some (.int .i64 H)) none none).run Try.prog W = .ok (.slice a1 (m - hi) c1) W) ∧
      (∃ a n c0 w2 a2 n2 c2 w3 a3 n3 c3 w4, runApp t1 (.slice (some ⟨w.heap.size, 0, none⟩) 0 0) (.slice ca lo cc) ((w.alloc EO).drew) (.slice a n c0) w2 ∧ runApp t2 (.slice a n c0) (.slice (some ⟨w2.heap.size, 0, none⟩) 1 1) (w2.alloc (XO x)) (.slice a2 n2 c2) w3 ∧ runApp t3 (.slice a2 n2 c2) (.slice a1 (m - hi) c1) w3 (.slice a3 n3 c3) w4 ∧
        ListsAt NoF w4 (.slice a3 n3 c3) (cs.take lo ++ [c] ++ cs.drop hi) (us.take lo ++ [x] ++ us.drop hi) ∧ Below w.heap.size w w4 ∧ Below w.heap.size w w2 ∧ Below w.heap.size w (w2.alloc (XO x)) ∧ Below w.heap.size w w3) ∧
      (∃ a n c0 w2 a2 n2 c2 w3 a3 n3 c3 w4, runApp t1 (.slice (some ⟨w.heap.size, 0, none⟩) 0 0) (.slice ca lo cc) (((w.alloc EO).alloc (XO x)).drew) (.slice a n c0) w2 ∧ runApp t2 (.slice a n c0) (.slice (some ⟨w.heap.size + 1, 0, none⟩) 1 1) w2 (.slice a2 n2 c2) w3 ∧ runApp t3 (.slice a2 n2 c2) (.slice a1 (m - hi) c1) w3 (.slice a3 n3 c3) w4 ∧
        ListsAt NoF w4 (.slice a3 n3 c3) (cs.take lo ++ [c] ++ cs.drop hi) (us.take lo ++ [x] ++ us.drop hi) ∧ Below w.heap.size w w4 ∧ Below w.heap.size w w2 ∧ Below w.heap.size w w3) ∧
      (∃ a n c0 w2 a2 n2 c2 w3 a3 n3 c3 w4, runApp t1 (.slice (some ⟨w.heap.size + 1, 0, none⟩) 0 0) (.slice ca lo cc) (((w.alloc (XO x)).alloc EO).drew) (.slice a n c0) w2 ∧ runApp t2 (.slice a n c0) (.slice (some ⟨w.heap.size, 0, none⟩) 1 1) w2 (.slice a2 n2 c2) w3 ∧ runApp t3 (.slice a2 n2 c2) (.slice a1 (m - hi) c1) w3 (.slice a3 n3 c3) w4 ∧
        ListsAt NoF w4 (.slice a3 n3 c3) (cs.take lo ++ [c] ++ cs.drop hi) (us.take lo ++ [x] ++ us.drop hi) ∧ Below w.heap.size w w4 ∧ Below w.heap.size w w2 ∧ Below w.heap.size w w3) := by
  obtain ⟨ad, cd, e, hlc, hcm⟩ := hL.row.form
  injection e with e1 e2 e3
  subst e1 e3
  have hrow := hL.row
  rw [← e2] at hrow
  have hul : us.length = m := by rw [hL.eq2.len]; exact e2.symm
  have hoc := hL.eq2.one_cell
  have ox : x.oneCell' = true := by obtain ⟨_, _, rfl, -⟩ := hx.form; rfl
  obtain ⟨a1, c1, hf, hrf⟩ := row_from hrow hi H hH h2
  have o1 : ∀ u ∈ us.take lo, u.oneCell' = true := fun u hu => hoc u (List.mem_of_mem_take hu)
  have o3 : ∀ u ∈ us.drop hi, u.oneCell' = true := fun u hu => hoc u (List.mem_of_mem_drop hu)
  have hlen : (us.take lo).length + (us.drop hi).length < 999999 := by rw [List.length_take, List.length_drop]; omega
  have q1 := (hrow.to lo (by omega)).far (Nat.le_refl w.heap.size)
  have q3 := hrf.far (Nat.le_refl w.heap.size)
  have hE2 : Eq2 w (us.take lo ++ [x] ++ us.drop hi) (cs.take lo ++ [c] ++ cs.drop hi) := ((hL.eq2.take lo).app (Eq2.one hx)).app (hL.eq2.drop hi)
  have b0 : Below w.heap.size w w.drew := below_drewN (Below.refl _ _) 1
  refine ⟨a1, c1, fun W => row_to ca m cc lo (lo : Int) rfl (by omega) W, hf, ?_, ?_, ?_⟩
  · have hC : Ch w.heap.size w ((w.alloc EO).drew) (.slice (some ⟨w.heap.size, 0, none⟩) 0 0) [] := Ch.empty (w := w.drew) b0 b0.size
    obtain ⟨a, n, c0, w2, a2, n2, c2, w3, a3, n3, c3, w4, r1, r2, r3, k, s1, s2, s3⟩ := spl3A (t1 := t1) (t2 := t2) (t3 := t3) (x := x) hC (q1.farBelow hC.bl) (q3.farBelow hC.bl) o1 o3 ox hlen
    exact ⟨a, n, c0, w2, a2, n2, c2, w3, a3, n3, c3, w4, r1, r2, r3, k.lists (hE2.below k.bl), k.bl, hC.bl.trans s1, hC.bl.trans s2, hC.bl.trans s3⟩
  · have hC : Ch w.heap.size w (((w.alloc EO).alloc (XO x)).drew) (.slice (some ⟨w.heap.size, 0, none⟩) 0 0) [] := (Ch.empty (w := w.drew) b0 b0.size).alloc (XO x)
    have hX : (((w.alloc EO).alloc (XO x)).drew).heap[w.heap.size + 1]? = some (.cells #[x] 22 (0, 0)) := by
      have := heap_alloc_new (w.drew.alloc EO) (XO x)
      rw [World.size_alloc] at this
      exact this
    obtain ⟨a, n, c0, w2, a2, n2, c2, w3, a3, n3, c3, w4, r1, r2, r3, k, s1, s2⟩ := spl3 (t1 := t1) (t2 := t2) (t3 := t3) (x := x) hC (q1.farBelow hC.bl) (q3.farBelow hC.bl) o1 o3 ox hlen (w.heap.size + 1) hX (by simp [Value.ownBlock])
    exact ⟨a, n, c0, w2, a2, n2, c2, w3, a3, n3, c3, w4, r1, r2, r3, k.lists (hE2.below k.bl), k.bl, hC.bl.trans s1, hC.bl.trans s2⟩
  · have hC : Ch w.heap.size w (((w.alloc (XO x)).alloc EO).drew) (.slice (some ⟨w.heap.size + 1, 0, none⟩) 0 0) [] := by
      have := Ch.empty (w := w.drew.alloc (XO x)) (b0.alloc b0.size (XO x)) (by rw [World.size_alloc]; exact Nat.le_succ _)
      rw [World.size_alloc] at this
      exact this
    have hX : (((w.alloc (XO x)).alloc EO).drew).heap[w.heap.size]? = some (.cells #[x] 22 (0, 0)) := by
      have h0 := heap_alloc_old (w.drew.alloc (XO x)) EO (r := w.heap.size) (by rw [World.size_alloc]; exact Nat.lt_succ_self _)
      exact h0.trans (heap_alloc_new w.drew (XO x))
    obtain ⟨a, n, c0, w2, a2, n2, c2, w3, a3, n3, c3, w4, r1, r2, r3, k, s1, s2⟩ := spl3 (t1 := t1) (t2 := t2) (t3 := t3) (x := x) hC (q1.farBelow hC.bl) (q3.farBelow hC.bl) o1 o3 ox hlen w.heap.size hX (by simp [Value.ownBlock])
    exact ⟨a, n, c0, w2, a2, n2, c2, w3, a3, n3, c3, w4, r1, r2, r3, k.lists (hE2.below k.bl), k.bl, hC.bl.trans s1, hC.bl.trans s2⟩

/-- the cells from lo to hi taken out -/
theorem splice2 {t1 t3 : TypeId} (w : World) (ca : Option Addr) (m cc lo hi : Nat) (H : Int) (cs : List PBytes) (us : List Value) (hL : ListsAt NoF w (.slice ca m cc) cs us) (h1 : lo ≤ hi) (h2 : hi ≤ m) (hm : m ≤ 1000) (hH : H = hi) :
    ∃ a1 c1, (∀ W, (Instr.sliceAt 28 (.slice ca m cc) none (some (.int .i64 (lo : Int))) none).run Try.prog W = .ok (.slice ca lo cc) W) ∧
      (∀ W, (Instr.sliceAt 28 (.slice ca m cc) (some (.int .i64 H)) none none).run Try.prog W = .ok (.slice a1 (m - hi) c1) W) ∧
      (∃ a n c0 w2 a3 n3 c3 w4, runApp t1 (.slice (some ⟨w.heap.size, 0, none⟩) 0 0) (.slice ca lo cc) ((w.alloc EO).drew) (.slice a n c0) w2 ∧ runApp t3 (.slice a n c0) (.slice a1 (m - hi) c1) w2 (.slice a3 n3 c3) w4 ∧
        ListsAt NoF w4 (.slice a3 n3 c3) (cs.take lo ++ cs.drop hi) (us.take lo ++ us.drop hi) ∧ Below w.heap.size w w4 ∧ Below w.heap.size w w2) := by
  obtain ⟨ad, cd, e, hlc, hcm⟩ := hL.row.form
  injection e with e1 e2 e3
  subst e1 e3
  have hrow := hL.row
  rw [← e2] at hrow
  have hul : us.length = m := by rw [hL.eq2.len]; exact e2.symm
  have hoc := hL.eq2.one_cell
  obtain ⟨a1, c1, hf, hrf⟩ := row_from hrow hi H hH h2
  have o1 : ∀ u ∈ us.take lo, u.oneCell' = true := fun u hu => hoc u (List.mem_of_mem_take hu)
  have o3 : ∀ u ∈ us.drop hi, u.oneCell' = true := fun u hu => hoc u (List.mem_of_mem_drop hu)
  have hlen : (us.take lo).length + (us.drop hi).length < 999999 := by rw [List.length_take, List.length_drop]; omega
  have q1 := (hrow.to lo (by omega)).far (Nat.le_refl w.heap.size)
  have q3 := hrf.far (Nat.le_refl w.heap.size)
  have hE2 : Eq2 w (us.take lo ++ us.drop hi) (cs.take lo ++ cs.drop hi) := (hL.eq2.take lo).app (hL.eq2.drop hi)
  have b0 : Below w.heap.size w w.drew := below_drewN (Below.refl _ _) 1
  refine ⟨a1, c1, fun W => row_to ca m cc lo (lo : Int) rfl (by omega) W, hf, ?_⟩
  have hC : Ch w.heap.size w ((w.alloc EO).drew) (.slice (some ⟨w.heap.size, 0, none⟩) 0 0) [] := Ch.empty (w := w.drew) b0 b0.size
  obtain ⟨a, n, c0, w2, a3, n3, c3, w4, r1, r3, k, s1⟩ := spl2 (t1 := t1) (t3 := t3) hC (q1.farBelow hC.bl) (q3.farBelow hC.bl) o1 o3 hlen (Below.refl _ _)
  exact ⟨a, n, c0, w2, a3, n3, c3, w4, r1, r3, k.lists (hE2.below k.bl), k.bl, hC.bl.trans s1⟩
end Mun
