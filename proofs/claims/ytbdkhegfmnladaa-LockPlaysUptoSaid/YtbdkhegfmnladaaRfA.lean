/- The reference's tables of locks: how they lie; mode, fits, in. -/
import Derived.Test.YtbdkhegfmnladaaMgM
set_option maxRecDepth 100000
set_option linter.unusedVariables false
set_option linter.unusedSimpArgs false
namespace Mun
open Go Go.RowKit
open Go.Proofs

/-- grants, as cells -/
def gC (l : List (Int × Int)) : List Value := l.flatMap fun a => [.int .u64 a.1, .int .i64 a.2]
theorem gC_len (l : List (Int × Int)) : (gC l).length = l.length * 2 := by
  induction l with
  | nil => rfl
  | cons a l ih =>
    unfold gC at ih ⊢
    simp only [List.flatMap_cons, List.length_append, ih, List.length_cons, List.length_nil]; omega
theorem gC_one (l : List (Int × Int)) : ∀ u ∈ gC l, u.oneCell' = true := by
  intro u hu
  obtain ⟨g, -, h⟩ := List.mem_flatMap.1 hu
  simp at h
  rcases h with rfl | rfl <;> rfl
theorem gC_app (l l' : List (Int × Int)) : gC (l ++ l') = gC l ++ gC l' := by simp [gC]
theorem gC_get (l : List (Int × Int)) (i : Nat) (hi : i < l.length) : (gC l)[i * 2]? = some (.int .u64 l[i].1) ∧ (gC l)[i * 2 + 1]? = some (.int .i64 l[i].2) := by
  induction l generalizing i with
  | nil => simp at hi
  | cons a l ih =>
    cases i with
    | zero => simp [gC]
    | succ i =>
      have h9 := ih i (by simpa using hi)
      unfold gC at h9 ⊢
      rw [List.flatMap_cons, List.getElem?_append_right (by simp; omega), List.getElem?_append_right (by simp; omega)]
      have e1 : (i + 1) * 2 - [Value.int .u64 a.1, Value.int .i64 a.2].length = i * 2 := by simp; omega
      have e2 : (i + 1) * 2 + 1 - [Value.int .u64 a.1, Value.int .i64 a.2].length = i * 2 + 1 := by simp; omega
      rw [e1, e2]
      exact h9

/-- a row of grants -/
structure GAt (F : Foot) (w : World) (v : Value) (l : List (Int × Int)) : Prop where
  rd : RdV F w 2 v l.length (gC l)
  ty : ∀ g off c, v = .slice (some ⟨g, off, none⟩) l.length c → l ≠ [] → ∃ cur fr, w.heap[g]? = some (.cells cur 103 fr)
section
variable {F F' : Foot} {w w' : World} {v : Value} {l : List (Int × Int)}
theorem GAt.keepT (h : GAt F w v l) (hk : ∀ g cur fr, ¬ F g → w.heap[g]? = some (.cells cur 103 fr) → w'.heap[g]? = w.heap[g]?) (hF : ∀ k, k < w.heap.size → F' k → F k) : GAt F' w' v l := by
  obtain ⟨⟨h0, a, c, hv, h1, h2, h3, h4⟩, ht⟩ := h
  refine ⟨⟨h0, a, c, hv, h1, h2, h3, fun hn => ?_⟩, fun g off c' hv' hl => ?_⟩
  · obtain ⟨g, off, cur, e, fr, ha, hg, hh, hx⟩ := h4 hn
    obtain ⟨cur', fr', hh'⟩ := ht g off c (by rw [hv, ha]) (fun e => by rw [e] at hn; simp at hn)
    have hlt : g < w.heap.size := (Array.getElem?_eq_some_iff.1 hh).1
    exact ⟨g, off, cur, e, fr, ha, fun h' => hg (hF g hlt h'), (hk g cur' fr' hg hh').trans hh, hx⟩
  · obtain ⟨cur', fr', hh'⟩ := ht g off c' hv' hl
    have hn : 0 < l.length := List.length_pos_iff.2 hl
    obtain ⟨g2, off2, cur, e, fr, ha, hg, hh, hx⟩ := h4 hn
    have e9 := hv.symm.trans hv'
    rw [ha] at e9
    injection e9 with e9 _ _
    injection e9 with e9
    injection e9 with e9 _
    subst e9
    exact ⟨cur', fr', (hk _ cur' fr' hg hh').trans hh'⟩
theorem GAt.keep (h : GAt F w v l) (hk : ∀ k, k < w.heap.size → ¬ F k → w'.heap[k]? = w.heap[k]?) (hF : ∀ k, k < w.heap.size → F' k → F k) : GAt F' w' v l :=
  h.keepT (fun g cur fr hg hh => hk g (Array.getElem?_eq_some_iff.1 hh).1 hg) hF
theorem GAt.below (h : GAt F w v l) (hb : Below w.heap.size w w') : GAt F w' v l := h.keep (fun k hk _ => hb.block k hk) (fun _ _ h => h)
theorem GAt.chg (h : GAt F w v l) (hc : Chg F F' w w') : GAt F' w' v l := h.keep hc.block (fun k hk h' => (hc.foot k h').elim id (fun x => by omega))
theorem GAt.nil (F : Foot) (w : World) : GAt F w (.slice none 0 0) [] := ⟨RdV.nil _ _ _, fun _ _ _ _ h => absurd rfl h⟩
theorem GAt.form (h : GAt F w v l) : ∃ a c, v = .slice a l.length c ∧ l.length ≤ c ∧ c ≤ maxLen := h.rd.form
theorem GAt.of_own {B : Nat} (h : w.ownsRow B 103 2 v l.length (gC l)) (hF : ∀ k, v.ownBlock = some k → ¬ F k) : GAt F w v l := by
  refine ⟨RdV.of_own' h hF, fun g off c hv hl => ?_⟩
  rcases h.2 with ⟨rfl, h0⟩ | ⟨g', cap, cur, rfl, hbg, hg, rest⟩
  · cases hv
  · injection hv with e _ _
    injection e with e
    injection e with e _
    subst e
    exact ⟨cur, _, hg⟩
theorem GAt.mono (h : GAt F w v l) (hF : ∀ k, k < w.heap.size → F' k → F k) : GAt F' w v l := h.keep (fun _ _ _ => rfl) hF
/-- a grant's cells -/
theorem GAt.at_ {a : Option Addr} {n c : Nat} (h : GAt F w (.slice a n c) l) (hn : l.length = n) (i : Nat) (hi : i < l.length) :
    ∃ g off, a = some ⟨g, off, none⟩ ∧ ∀ W, Below w.heap.size w W → W.cell? ⟨g, off + i * 2, none⟩ = some (.int .u64 l[i].1) ∧ W.cell? ⟨g, off + i * 2 + 1, none⟩ = some (.int .i64 l[i].2) := by
  obtain ⟨g, off, c', hv, -, -, -, hg, hc⟩ := h.rd.at_ (by omega)
  injection hv with e1 e2 e3
  obtain ⟨k1, k2⟩ := gC_get l i hi
  refine ⟨g, off, e1, fun W hb => ?_⟩
  have h1 := hc _ _ k1
  have h2 := hc _ _ k2
  rw [← Nat.add_assoc] at h2
  exact ⟨(World.cell?_of_block (hb.block g hg)).trans h1, (World.cell?_of_block (hb.block g hg)).trans h2⟩
end

/-- a lock of the reference's -/
structure LX where
  name : ByteArray
  hs : List (Int × Int)
  qs : List (Int × Int)
  hv : Value
  qv : Value
def LX.cells (x : LX) : List Value := [.string x.name, x.hv, x.qv]
def LX.val (x : LX) : Value := .agg #[.string x.name, x.hv, x.qv]
def lxC (X : List LX) : List Value := X.flatMap LX.cells
theorem lxC_len (X : List LX) : (lxC X).length = X.length * 3 := by
  induction X with
  | nil => rfl
  | cons a l ih =>
    unfold lxC at ih ⊢
    simp only [List.flatMap_cons, List.length_append, ih, LX.cells, List.length_cons, List.length_nil]; omega
theorem lxC_get (X : List LX) (i j : Nat) (hi : i < X.length) (hj : j < 3) : (lxC X)[i * 3 + j]? = (X[i].cells)[j]? := by
  induction X generalizing i with
  | nil => simp at hi
  | cons a l ih =>
    cases i with
    | zero =>
      unfold lxC
      rw [List.flatMap_cons, List.getElem?_append_left (by simp [LX.cells]; omega)]
      simp
    | succ i =>
      have h9 := ih i (by simpa using hi)
      unfold lxC at h9 ⊢
      rw [List.flatMap_cons, List.getElem?_append_right (by simp [LX.cells]; omega)]
      have : (i + 1) * 3 + j - (LX.cells a).length = i * 3 + j := by simp [LX.cells]; omega
      rw [this, h9]
      simp
/-- a table of the reference's -/
structure TabF (F : Foot) (w : World) (v : Value) (X : List LX) : Prop where
  row : RdV F w 3 v X.length (lxC X)
  hr : ∀ x ∈ X, GAt F w x.hv x.hs
  qr : ∀ x ∈ X, GAt F w x.qv x.qs
section
variable {F F' : Foot} {w w' : World} {v : Value} {X : List LX}
theorem TabF.below (h : TabF F w v X) (hb : Below w.heap.size w w') : TabF F w' v X := ⟨h.row.below hb, fun x hx => (h.hr x hx).below hb, fun x hx => (h.qr x hx).below hb⟩
theorem TabF.chg (h : TabF F w v X) (hc : Chg F F' w w') : TabF F' w' v X := ⟨h.row.chg hc, fun x hx => (h.hr x hx).chg hc, fun x hx => (h.qr x hx).chg hc⟩
theorem TabF.nil (F : Foot) (w : World) : TabF F w (.slice none 0 0) [] := ⟨RdV.nil _ _ _, fun x h => (by cases h), fun x h => (by cases h)⟩
theorem TabF.mono (h : TabF F w v X) (hF : ∀ k, k < w.heap.size → F' k → F k) : TabF F' w v X := ⟨h.row.mono hF, fun x hx => (h.hr x hx).mono hF, fun x hx => (h.qr x hx).mono hF⟩
/-- a lock's cells -/
theorem TabF.at_ {a : Option Addr} {n c : Nat} (h : TabF F w (.slice a n c) X) (hn : X.length = n) (i : Nat) (hi : i < X.length) :
    ∃ g off, a = some ⟨g, off, none⟩ ∧ ∀ W, Below w.heap.size w W → W.cell? ⟨g, off + i * 3, none⟩ = some (.string X[i].name) ∧ W.cell? ⟨g, off + i * 3 + 1, none⟩ = some X[i].hv ∧ W.cell? ⟨g, off + i * 3 + 2, none⟩ = some X[i].qv := by
  obtain ⟨g, off, c', hv, -, -, -, hg, hc⟩ := h.row.at_ (by omega)
  injection hv with e1 e2 e3
  refine ⟨g, off, e1, fun W hb => ?_⟩
  have k0 := hc (i * 3 + 0) _ (by rw [lxC_get X i 0 hi (by decide)]; rfl)
  have k1 := hc (i * 3 + 1) _ (by rw [lxC_get X i 1 hi (by decide)]; rfl)
  have k2 := hc (i * 3 + 2) _ (by rw [lxC_get X i 2 hi (by decide)]; rfl)
  rw [← Nat.add_assoc] at k0 k1 k2
  exact ⟨(World.cell?_of_block (hb.block g hg)).trans k0, (World.cell?_of_block (hb.block g hg)).trans k1, (World.cell?_of_block (hb.block g hg)).trans k2⟩
end

theorem klook_drop {l : List (Int × Int)} {o : Int} {i : Nat} (hi : i < l.length) : klook (l.drop i) o = if l[i].1 = o then some l[i].2 else klook (l.drop (i + 1)) o := by
  rw [List.drop_eq_getElem_cons hi, klook_cons]

set_option maxHeartbeats 1000000 in
theorem r14_mode {F : Foot} (w : World) (nm : ByteArray) (hv qv : Value) (hs : List (Int × Int)) (h : GAt F w hv hs) (hl : hs.length ≤ 8796093022200) (o : Int) :
    Calls Try.prog 43 #[.agg #[.string nm, hv, qv], .int .u64 o] w fun e w' => e = .returned (.int .i64 ((klook hs o).getD 0)) ∧ Below w.heap.size w w' := by
  obtain ⟨ha, hc, rfl, -, -⟩ := h.form
  obtain ⟨n, hn⟩ : ∃ n, hs.length = n := ⟨_, rfl⟩
  rw [hn] at h ⊢
  obtain ⟨wb, hwb⟩ : ∃ wb, w.alloc (.cells #[.string nm, .slice ha n hc, qv] 98) = wb := ⟨_, rfl⟩
  have hbb : Below w.heap.size w wb := by rw [← hwb]; exact (Below.refl _ _).alloc (Nat.le_refl _) _
  have kb : wb.heap[w.heap.size]? = some (.cells #[.string nm, .slice ha n hc, qv] 98 (0, 0)) := by rw [← hwb]; exact heap_alloc_new w _
  have HX := Lib.hid (And.intro h (And.intro hn (And.intro hl (And.intro hbb kb))))
  clear h hn hl hbb kb
  go_enter Try.func43, Try.ntmps43
  go_wp2_with fail
  go_loopw [5] (fun iv wr => ∃ i : Nat, iv = .int .i64 i ∧ i ≤ n ∧ klook hs o = klook (hs.drop i) o ∧ Below wb.heap.size wb wr) (fun iv _ => n - (Go.RowKit.intOf iv).toNat)
  case atStart => exact ⟨0, rfl, Nat.zero_le _, by simp, by first | exact Below.refl _ _ | (rw [hwb]; exact Below.refl _ _)⟩
  case round =>
    obtain ⟨i, rfl, hin, hk, hb⟩ := hrel
    have z1 : wr.cell? ⟨w.heap.size, 1, none⟩ = some (.slice ha n hc) := cell_of_row wr w.heap.size 1 _ _ _ ((hb.block w.heap.size (lt_of_block HX.out.2.2.2.2)).trans HX.out.2.2.2.2)
    have HB : Hid (Below w.heap.size w wr) := HX.out.2.2.2.1.trans (hb.mono HX.out.2.2.2.1.size)
    by_cases hlt : i < n
    · have hil : i < hs.length := by rw [HX.out.2.1]; exact hlt
      obtain ⟨g, off, rfl, hco⟩ := HX.out.1.at_ HX.out.2.1 i hil
      obtain ⟨c0, c1⟩ := hco wr HB.out
      have hkd := klook_drop (o := o) hil
      obtain ⟨p, hp⟩ : ∃ p, hs[i] = p := ⟨_, rfl⟩
      rw [hp] at c0 c1 hkd
      obtain ⟨u, m⟩ := p
      simp only at c0 c1 hkd
      have hii : (i : Int) < (n : Int) := by omega
      have hi0 : (0 : Int) ≤ (i : Int) := by omega
      have HWJ : Hid (wrap64 ((i : Int) + 1) = ((i + 1 : Nat) : Int)) := by show _ = _; have := HX.out.2.1; have := HX.out.2.2.1; unfold wrap64; omega
      have HK := Lib.hid (And.intro hk (And.intro hkd (And.intro hlt hb)))
      clear hk hkd hlt hb hin hco hil hp
      by_cases he : u = o
      · have hbb : (u == o) = true := by simp [he]
        go_wp2
        go_ret
        exact ⟨by rw [HK.out.1, HK.out.2.1, if_pos he]; rfl, HB.out⟩
      · have hbb : (u == o) = false := by simp [he]
        clear c1
        go_wp2
        go_roundw
        case rel => exact ⟨i + 1, by rw [HWJ.out], HK.out.2.2.1, by rw [HK.out.1, HK.out.2.1, if_neg he], HK.out.2.2.2⟩
        case measure => exact meas_up HWJ.out HK.out.2.2.1
    · have hii : ¬ (i : Int) < (n : Int) := by omega
      have hfin : Hid (klook hs o = none) := by
        show _ = _
        rw [hk, List.drop_of_length_le (by rw [HX.out.2.1]; omega)]; rfl
      clear hk hb hlt hin
      go_wp2
      go_ret
      exact ⟨by rw [hfin.out]; rfl, HB.out⟩
end Mun
