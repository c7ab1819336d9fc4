/- The reference's fits, in, find. -/
import Derived.Test.YtbdkhegfmnladaaRfA
import Derived.Test.YtbdkhegfmnladaaMgG
set_option maxRecDepth 100000
set_option linter.unusedVariables false
set_option linter.unusedSimpArgs false
namespace Mun
open Go Go.RowKit
open Go.Proofs

def fitsP (hs : List (Int × Int)) (o m : Int) : Bool := hs.all fun a => a.1 == o || tog a.2 m
theorem fitsP_drop {l : List (Int × Int)} {o m : Int} {i : Nat} (hi : i < l.length) : fitsP (l.drop i) o m = ((l[i].1 == o || tog l[i].2 m) && fitsP (l.drop (i + 1)) o m) := by
  rw [List.drop_eq_getElem_cons hi]; rfl

set_option maxHeartbeats 1000000 in
theorem r14_fits {F : Foot} (w : World) (nm : ByteArray) (hv qv : Value) (hs : List (Int × Int)) (h : GAt F w hv hs) (hl : hs.length ≤ 8796093022200) (o m : Int) :
    Calls Try.prog 44 #[.agg #[.string nm, hv, qv], .int .u64 o, .int .i64 m] w fun e w' => e = .returned (.bool (fitsP hs o m)) ∧ Below w.heap.size w w' := by
  obtain ⟨ha, hc, rfl, -, -⟩ := h.form
  obtain ⟨n, hn⟩ : ∃ n, hs.length = n := ⟨_, rfl⟩
  rw [hn] at h ⊢
  obtain ⟨wb, hwb⟩ : ∃ wb, w.alloc (.cells #[.string nm, .slice ha n hc, qv] 98) = wb := ⟨_, rfl⟩
  have hbb : Below w.heap.size w wb := by rw [← hwb]; exact (Below.refl _ _).alloc (Nat.le_refl _) _
  have kb : wb.heap[w.heap.size]? = some (.cells #[.string nm, .slice ha n hc, qv] 98 (0, 0)) := by rw [← hwb]; exact heap_alloc_new w _
  have HX := Lib.hid (And.intro h (And.intro hn (And.intro hl (And.intro hbb kb))))
  clear h hn hl hbb kb
  go_enter Try.func44, Try.ntmps44
  go_wp2_with fail
  go_loopw [7] (fun iv wr => ∃ i : Nat, iv = .int .i64 i ∧ i ≤ n ∧ fitsP hs o m = fitsP (hs.drop i) o m ∧ Below wb.heap.size wb wr) (fun iv _ => n - (Go.RowKit.intOf iv).toNat)
  case atStart => exact ⟨0, rfl, Nat.zero_le _, by simp, by first | exact Below.refl _ _ | (rw [hwb]; exact Below.refl _ _)⟩
  case round =>
    obtain ⟨i, rfl, hin, hk, hb⟩ := hrel
    have z1 : wr.cell? ⟨w.heap.size, 1, none⟩ = some (.slice ha n hc) := cell_of_row wr w.heap.size 1 _ _ _ ((hb.block w.heap.size (lt_of_block HX.out.2.2.2.2)).trans HX.out.2.2.2.2)
    have HB : Hid (Below w.heap.size w wr) := HX.out.2.2.2.1.trans (hb.mono HX.out.2.2.2.1.size)
    by_cases hlt : i < n
    · have hil : i < hs.length := by rw [HX.out.2.1]; exact hlt
      obtain ⟨g, off, rfl, hco⟩ := HX.out.1.at_ HX.out.2.1 i hil
      obtain ⟨c0, c1⟩ := hco wr HB.out
      have hkd := fitsP_drop (o := o) (m := m) hil
      obtain ⟨p, hp⟩ : ∃ p, hs[i] = p := ⟨_, rfl⟩
      rw [hp] at c0 c1 hkd
      obtain ⟨u, mm⟩ := p
      simp only at c0 c1 hkd
      have hii : (i : Int) < (n : Int) := by omega
      have hi0 : (0 : Int) ≤ (i : Int) := by omega
      have HWJ : Hid (wrap64 ((i : Int) + 1) = ((i + 1 : Nat) : Int)) := by show _ = _; have := HX.out.2.1; have := HX.out.2.2.1; unfold wrap64; omega
      have HK := Lib.hid (And.intro hk (And.intro hkd (And.intro hlt hb)))
      clear hk hkd hlt hb hin hco hil hp
      by_cases he : u = o
      · have hbb : (u != o) = false := by simp [he]
        go_wp2
        go_roundw
        case rel => exact ⟨i + 1, by rw [HWJ.out], HK.out.2.2.1, by rw [HK.out.1, HK.out.2.1]; simp [he], HK.out.2.2.2⟩
        case measure => exact meas_up HWJ.out HK.out.2.2.1
      · have hbb : (u != o) = true := by simp [he]
        have hbe : (u == o) = false := by simp [he]
        have htg := reftogether_any wr mm m
        have HTG := Lib.hid htg
        clear htg
        go_wp2_with fail
        refine HTG.out.mono ?_
        rintro e w5 ⟨rfl, hb5⟩
        have H5 := Lib.hid (And.intro (HK.out.2.2.2.trans (hb5.mono HK.out.2.2.2.size)) (HB.out.trans (hb5.mono HB.out.size)))
        have HR := Lib.hid (And.intro HK.out.1 HK.out.2.1)
        clear hb5 HTG c0 c1 z1
        cases ht : tog mm m with
        | true =>
          go_wp2
          go_roundw
          case rel => exact ⟨i + 1, by rw [HWJ.out], HK.out.2.2.1, by rw [HR.out.1, HR.out.2, ht]; simp, H5.out.1⟩
          case measure => exact meas_up HWJ.out HK.out.2.2.1
        | false =>
          go_wp2
          go_ret
          exact ⟨by rw [HR.out.1, HR.out.2, ht, hbe]; rfl, H5.out.2⟩
    · have hii : ¬ (i : Int) < (n : Int) := by omega
      have hfin : Hid (fitsP hs o m = true) := by
        show _ = _
        rw [hk, List.drop_of_length_le (by rw [HX.out.2.1]; omega)]; rfl
      clear hk hb hlt hin
      go_wp2
      go_ret
      exact ⟨by rw [hfin.out]; rfl, HB.out⟩

set_option maxHeartbeats 1000000 in
theorem r14_in {F : Foot} (w : World) (v : Value) (l : List (Int × Int)) (h : RdV F w 1 v l.length (ov l)) (hl : l.length ≤ 8796093022200) (o : Int) :
    Calls Try.prog 61 #[v, .int .u64 o] w fun e w' => e = .returned (.bool (decide (o ∈ l.map (·.1)))) ∧ Below w.heap.size w w' := by
  obtain ⟨ha, hc, rfl, -, -⟩ := h.form
  obtain ⟨n, hn⟩ : ∃ n, l.length = n := ⟨_, rfl⟩
  rw [hn] at h ⊢
  have HX := Lib.hid (And.intro h (And.intro hn hl))
  clear h hn hl
  go_enter Try.func61, Try.ntmps61
  go_wp2_with fail
  go_loopw [5] (fun iv wr => ∃ i : Nat, iv = .int .i64 i ∧ i ≤ n ∧ o ∉ (l.take i).map (·.1) ∧ Below w.heap.size w wr) (fun iv _ => n - (Go.RowKit.intOf iv).toNat)
  case atStart => exact ⟨0, rfl, Nat.zero_le _, by simp, Below.refl _ _⟩
  case round =>
    obtain ⟨i, rfl, hin, hk, hb⟩ := hrel
    by_cases hlt : i < n
    · have hil : i < l.length := by rw [HX.out.2.1]; exact hlt
      obtain ⟨g, off, rfl, hco⟩ := ov_cell HX.out.1 HX.out.2.1 i hil
      have c0 := hco wr hb
      obtain ⟨u, hu⟩ : ∃ u, l[i].1 = u := ⟨_, rfl⟩
      rw [hu] at c0
      have hii : (i : Int) < (n : Int) := by omega
      have hi0 : (0 : Int) ≤ (i : Int) := by omega
      have HWJ : Hid (wrap64 ((i : Int) + 1) = ((i + 1 : Nat) : Int)) := by show _ = _; have := HX.out.2.1; have := HX.out.2.2; unfold wrap64; omega
      have hmem : u ∈ l.map (·.1) := by rw [← hu]; exact List.mem_map_of_mem (List.getElem_mem hil)
      have hnx : u ≠ o → o ∉ (l.take (i + 1)).map (·.1) := fun hne hm => by
        rw [List.take_add_one, List.getElem?_eq_getElem hil, List.map_append, Option.toList_some, List.map_singleton, hu] at hm
        rcases List.mem_append.1 hm with h9 | h9
        · exact hk h9
        · simp at h9; exact hne h9.symm
      have HK := Lib.hid (And.intro hmem (And.intro hnx (And.intro hlt hb)))
      clear hmem hnx hlt hb hin hco hil hu hk
      by_cases he : u = o
      · have hbb : (u == o) = true := by simp [he]
        go_wp2
        go_ret
        exact ⟨by have h9 := HK.out.1; rw [he] at h9; simp [h9], HK.out.2.2.2⟩
      · have hbb : (u == o) = false := by simp [he]
        go_wp2
        go_roundw
        case rel => exact ⟨i + 1, by rw [HWJ.out], HK.out.2.2.1, HK.out.2.1 he, HK.out.2.2.2⟩
        case measure => exact meas_up HWJ.out HK.out.2.2.1
    · have hii : ¬ (i : Int) < (n : Int) := by omega
      have hfin : Hid (o ∉ l.map (·.1)) := by
        show ¬ _
        rw [List.take_of_length_le (by rw [HX.out.2.1]; omega)] at hk; exact hk
      have HB := Lib.hid hb
      clear hk hb hlt hin
      go_wp2
      go_ret
      exact ⟨by have := hfin.out; simp only [this, decide_false]; rfl, HB.out⟩

/-- a name's place -/
def idxX (X : List LX) (s : ByteArray) : Nat := X.findIdx fun x => decide (x.name = s)
theorem idxX_at {X : List LX} {s : ByteArray} {i : Nat} (hi : i < X.length) (h : ∀ x ∈ X.take i, x.name ≠ s) (he : X[i].name = s) : idxX X s = i := by
  unfold idxX
  have h0 : (X.take i).findIdx (fun x => decide (x.name = s)) = (X.take i).length := by
    rw [List.findIdx_eq_length]
    intro x hx
    simpa using h x hx
  have hl : (X.take i).length = i := by rw [List.length_take]; omega
  conv => lhs; rw [← List.take_append_drop i X]
  rw [List.findIdx_append, h0, if_neg (Nat.lt_irrefl _), hl, List.drop_eq_getElem_cons hi, List.findIdx_cons]
  simp [he]
theorem idxX_no {X : List LX} {s : ByteArray} (h : ∀ x ∈ X, x.name ≠ s) : idxX X s = X.length := by
  unfold idxX
  rw [List.findIdx_eq_length]
  intro x hx
  simpa using h x hx
theorem idxX_lt {X : List LX} {s : ByteArray} (h : idxX X s < X.length) : ∃ x, X[idxX X s]? = some x ∧ x.name = s := by
  have h9 : decide ((X[idxX X s]'h).name = s) = true := List.findIdx_getElem (w := h)
  exact ⟨X[idxX X s]'h, List.getElem?_eq_getElem h, of_decide_eq_true h9⟩
def findP (X : List LX) (s : ByteArray) : Int := if idxX X s < X.length then (idxX X s : Int) else -1
theorem toList_eqb {a b : ByteArray} : (a.toList == b.toList) = decide (a = b) := by
  by_cases h : a = b
  · subst h; simp
  · rw [decide_eq_false h, beq_eq_false_iff_ne]
    intro e
    rw [ByteArray.toList_eq, ByteArray.toList_eq] at e
    apply h
    cases a; cases b
    simpa using e

set_option maxHeartbeats 1000000 in
theorem r14_find {F : Foot} (w : World) (v : Value) (X : List LX) (h : TabF F w v X) (hl : X.length ≤ 8796093022200) (s : ByteArray) :
    Calls Try.prog 62 #[.agg #[v], .string s] w fun e w' => e = .returned (.int .i64 (findP X s)) ∧ Below w.heap.size w w' := by
  obtain ⟨ha, hc, rfl, -, -⟩ := h.row.form
  obtain ⟨n, hn⟩ : ∃ n, X.length = n := ⟨_, rfl⟩
  rw [hn] at h ⊢
  obtain ⟨wb, hwb⟩ : ∃ wb, w.alloc (.cells #[.slice ha n hc] 51) = wb := ⟨_, rfl⟩
  have hbb : Below w.heap.size w wb := by rw [← hwb]; exact (Below.refl _ _).alloc (Nat.le_refl _) _
  have kb : wb.heap[w.heap.size]? = some (.cells #[.slice ha n hc] 51 (0, 0)) := by rw [← hwb]; exact heap_alloc_new w _
  have HX := Lib.hid (And.intro h (And.intro hn (And.intro hl (And.intro hbb kb))))
  clear h hn hl hbb kb
  go_enter Try.func62, Try.ntmps62
  go_wp2_with fail
  go_loopw [5] (fun iv wr => ∃ i : Nat, iv = .int .i64 i ∧ i ≤ n ∧ (∀ x ∈ X.take i, x.name ≠ s) ∧ Below wb.heap.size wb wr) (fun iv _ => n - (Go.RowKit.intOf iv).toNat)
  case atStart => exact ⟨0, rfl, Nat.zero_le _, by simp, by first | exact Below.refl _ _ | (rw [hwb]; exact Below.refl _ _)⟩
  case round =>
    obtain ⟨i, rfl, hin, hk, hb⟩ := hrel
    have z1 : wr.cell? ⟨w.heap.size, 0, none⟩ = some (.slice ha n hc) := cell_of_row wr w.heap.size 0 _ _ _ ((hb.block w.heap.size (lt_of_block HX.out.2.2.2.2)).trans HX.out.2.2.2.2)
    have HB : Hid (Below w.heap.size w wr) := HX.out.2.2.2.1.trans (hb.mono HX.out.2.2.2.1.size)
    by_cases hlt : i < n
    · have hil : i < X.length := by rw [HX.out.2.1]; exact hlt
      obtain ⟨g, off, rfl, hco⟩ := HX.out.1.at_ HX.out.2.1 i hil
      obtain ⟨c0, -, -⟩ := hco wr HB.out
      have hyes := fun (e : X[i].name = s) => idxX_at hil hk e
      have hnx : X[i].name ≠ s → ∀ x ∈ X.take (i + 1), x.name ≠ s := fun hne x hx => by
        rw [List.take_add_one, List.getElem?_eq_getElem hil, Option.toList_some] at hx
        rcases List.mem_append.1 hx with h9 | h9
        · exact hk x h9
        · simp at h9; rw [h9]; exact hne
      obtain ⟨u, hu⟩ : ∃ u, X[i].name = u := ⟨_, rfl⟩
      rw [hu] at c0 hyes hnx
      have hii : (i : Int) < (n : Int) := by omega
      have hi0 : (0 : Int) ≤ (i : Int) := by omega
      have HWJ : Hid (wrap64 ((i : Int) + 1) = ((i + 1 : Nat) : Int)) := by show _ = _; have := HX.out.2.1; have := HX.out.2.2.1; unfold wrap64; omega
      have HK := Lib.hid (And.intro hyes (And.intro hnx (And.intro hlt hb)))
      clear hyes hnx hlt hb hin hco hil hu hk
      by_cases he : u = s
      · have hbb : (u.toList == s.toList) = true := by rw [toList_eqb]; simp [he]
        go_wp2
        go_ret
        exact ⟨by unfold findP; rw [HK.out.1 he, if_pos (by rw [HX.out.2.1]; exact HK.out.2.2.1)]; rfl, HB.out⟩
      · have hbb : (u.toList == s.toList) = false := by rw [toList_eqb]; simp [he]
        go_wp2
        go_roundw
        case rel => exact ⟨i + 1, by rw [HWJ.out], HK.out.2.2.1, HK.out.2.1 he, HK.out.2.2.2⟩
        case measure => exact meas_up HWJ.out HK.out.2.2.1
    · have hii : ¬ (i : Int) < (n : Int) := by omega
      have hfin : Hid (findP X s = -1) := by
        show _ = _
        unfold findP
        rw [idxX_no (fun x hx => hk x (by rw [List.take_of_length_le (by rw [HX.out.2.1]; omega)]; exact hx)), if_neg (Nat.lt_irrefl _)]
      clear hk hb hlt hin
      go_wp2
      go_ret
      exact ⟨by rw [hfin.out]; rfl, HB.out⟩
end Mun
