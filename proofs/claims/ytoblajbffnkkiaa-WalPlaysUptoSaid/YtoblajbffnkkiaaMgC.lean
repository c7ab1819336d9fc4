/- Texts of mine, one behind the other: RecM, RecW, RecA, RecB, RecC, RecD. -/
import Derived.Test.YtoblajbffnkkiaaMgB
import Derived.Test.YtoblajbffnkkiaaMgA
import Derived.Deep.RegionLaw
import Derived.Deep.DeepCutAuto
section
/- How a record of the log lies in memory. -/
set_option maxRecDepth 100000
set_option linter.unusedVariables false
namespace Mun
open Go Go.RowKit
open Go.Proofs

abbrev CV := PC × Value
def crow1 (p : CV) : List Value := [.int .i64 p.1.page, .int .i64 p.1.at_, .bool p.1.whole, p.2]

/-- a slice of changes -/
structure ChsAt (F : Foot) (w : World) (v : Value) (l : List CV) : Prop where
  row : RdV F w 4 v l.length (l.flatMap crow1)
  rd : ∀ p ∈ l, RdB F w p.2 p.1.b

structure RV where
  dv : Value
  cv : Value
  cs : List CV

def rval (r : PR) (x : RV) : Value := .agg #[.int .i64 r.kind, .int .u64 r.tx, .int .u64 r.prev, .int .u64 r.next, x.dv, x.cv]

/-- a record that lies there -/
structure RecAt (F : Foot) (w : World) (r : PR) (x : RV) : Prop where
  data : RdB F w x.dv r.data
  cs : ChsAt F w x.cv x.cs
  eq : x.cs.map (·.1) = r.cs
  tx : r.tx < 18446744073709551616
  prev : r.prev < 18446744073709551616
  next : r.next < 18446744073709551616

theorem crow_length (l : List CV) : (l.flatMap crow1).length = l.length * 4 := by
  induction l with
  | nil => rfl
  | cons a l ih => simp only [List.flatMap_cons, List.length_append, ih, crow1, List.length_cons, List.length_nil]; omega

theorem crow_get (l : List CV) (i j : Nat) (h : i < l.length) (hj : j < 4) : (l.flatMap crow1)[i * 4 + j]? = (crow1 l[i])[j]? := by
  induction l generalizing i with
  | nil => simp at h
  | cons a l ih =>
    cases i with
    | zero =>
      rw [List.flatMap_cons, List.getElem?_append_left (by simp [crow1]; omega)]
      simp
    | succ i =>
      rw [List.flatMap_cons, List.getElem?_append_right (by simp [crow1]; omega)]
      have : (i + 1) * 4 + j - (crow1 a).length = i * 4 + j := by simp [crow1]; omega
      rw [this, ih i (by simpa using h)]
      simp

section
variable {F F' : Foot} {w w' : World} {v : Value} {l : List CV} {r : PR} {x : RV}

theorem ChsAt.keep (h : ChsAt F w v l) (hk : ∀ k, k < w.heap.size → ¬ F k → w'.heap[k]? = w.heap[k]?) (hF : ∀ k, k < w.heap.size → F' k → F k) : ChsAt F' w' v l :=
  ⟨h.row.keep hk hF, fun d hd => RdV.keep (h.rd d hd) hk hF⟩
theorem ChsAt.chg (h : ChsAt F w v l) (hc : Chg F F' w w') : ChsAt F' w' v l := ⟨h.row.chg hc, fun d hd => (h.rd d hd).chg hc⟩
theorem ChsAt.below (h : ChsAt F w v l) (hb : Below w.heap.size w w') : ChsAt F w' v l := ⟨h.row.below hb, fun d hd => (h.rd d hd).below hb⟩
theorem ChsAt.mono (h : ChsAt F w v l) (hF : ∀ k, k < w.heap.size → F' k → F k) : ChsAt F' w v l := ⟨h.row.mono hF, fun d hd => (h.rd d hd).mono hF⟩
theorem ChsAt.drewN (h : ChsAt F w v l) (k : Nat) : ChsAt F (w.drewN k) v l := ⟨h.row, h.rd⟩

theorem ChsAt.at_ (h : ChsAt F w v l) (i : Nat) (hi : i < l.length) : ∃ g off c, v = .slice (some ⟨g, off, none⟩) l.length c ∧ l.length ≤ c ∧ c ≤ maxLen ∧ ¬ F g ∧ g < w.heap.size ∧
    w.cell? ⟨g, off + i * 4, none⟩ = some (.int .i64 l[i].1.page) ∧ w.cell? ⟨g, off + i * 4 + 1, none⟩ = some (.int .i64 l[i].1.at_) ∧ w.cell? ⟨g, off + i * 4 + 2, none⟩ = some (.bool l[i].1.whole) ∧ w.cell? ⟨g, off + i * 4 + 3, none⟩ = some l[i].2 := by
  obtain ⟨g, off, c, hv, h1, h2, h3, h4, hc⟩ := h.row.at_ (by omega)
  refine ⟨g, off, c, hv, h1, h2, h3, h4, ?_, ?_, ?_, ?_⟩
  · have := hc (i * 4 + 0) _ (by rw [crow_get l i 0 hi (by decide)]; rfl)
    exact this
  · have := hc (i * 4 + 1) _ (by rw [crow_get l i 1 hi (by decide)]; rfl)
    rwa [← Nat.add_assoc] at this
  · have := hc (i * 4 + 2) _ (by rw [crow_get l i 2 hi (by decide)]; rfl)
    rwa [← Nat.add_assoc] at this
  · have := hc (i * 4 + 3) _ (by rw [crow_get l i 3 hi (by decide)]; rfl)
    rwa [← Nat.add_assoc] at this

theorem RecAt.keep (h : RecAt F w r x) (hk : ∀ k, k < w.heap.size → ¬ F k → w'.heap[k]? = w.heap[k]?) (hF : ∀ k, k < w.heap.size → F' k → F k) : RecAt F' w' r x :=
  ⟨RdV.keep h.data hk hF, h.cs.keep hk hF, h.eq, h.tx, h.prev, h.next⟩
theorem RecAt.chg (h : RecAt F w r x) (hc : Chg F F' w w') : RecAt F' w' r x := ⟨h.data.chg hc, h.cs.chg hc, h.eq, h.tx, h.prev, h.next⟩
theorem RecAt.below (h : RecAt F w r x) (hb : Below w.heap.size w w') : RecAt F w' r x := ⟨h.data.below hb, h.cs.below hb, h.eq, h.tx, h.prev, h.next⟩
theorem RecAt.mono (h : RecAt F w r x) (hF : ∀ k, k < w.heap.size → F' k → F k) : RecAt F' w r x := ⟨h.data.mono hF, h.cs.mono hF, h.eq, h.tx, h.prev, h.next⟩
theorem RecAt.drewN (h : RecAt F w r x) (k : Nat) : RecAt F (w.drewN k) r x := ⟨h.data, h.cs.drewN k, h.eq, h.tx, h.prev, h.next⟩
theorem RecAt.len (h : RecAt F w r x) : x.cs.length = r.cs.length := by rw [← h.eq, List.length_map]
theorem RecAt.get (h : RecAt F w r x) (i : Nat) (hi : i < x.cs.length) : r.cs[i]'(by rw [← h.len]; exact hi) = x.cs[i].1 := by
  simp [← h.eq]
end
end Mun
end

section
/- Contracts of what writes a record: its digits, its chunks. -/
set_option maxRecDepth 100000
set_option linter.unusedVariables false
namespace Mun
open Go Go.RowKit
open Go.Proofs

/-- the block of a slice that starts at a block's head -/
def bf (v : Value) : Foot := fun k => v.ownBlock = some k
def B1 (g : Nat) : Foot := fun k => k = g

/-- a row of bytes is handed back, longer; nothing else has turned -/
def BO (w : World) (base : Nat) (v : Value) (l : List UInt8) (e : Ending) (w' : World) : Prop :=
  ∃ g n c, e = .returned (.slice (some ⟨g, 0, none⟩) n c) ∧ Hid (n = l.length) ∧ OwnB w' base 5 (.slice (some ⟨g, 0, none⟩) n c) l ∧ Chg (bf v) (B1 g) w w' ∧ base ≤ g

theorem chg_byte {w w' : World} {o : Obj} {v : Value} {g : Nat} (h : (w.alloc o).grownBy w' v.ownBlock) (hor : v.ownBlock = some g ∨ w.heap.size < g) (hlt : g < w'.heap.size) : Chg (bf v) (B1 g) w w' := by
  have hs := h.size
  simp only [World.size_alloc] at hs
  refine ⟨h.os, h.tape, h.output, by omega, fun k hk hn => ?_, fun k hk => ?_⟩
  · rw [h.block k (by simp; omega) (fun e => hn e.symm), heap_alloc_old _ _ hk]
  · have : k = g := hk
    subst this
    rcases hor with h1 | h1
    · exact .inl h1
    · exact .inr ⟨by omega, hlt⟩

theorem chg_rows {w w' : World} {v : Value} {g : Nat} (h : w.grownBy w' v.ownBlock) (hor : v.ownBlock = some g ∨ w.heap.size ≤ g) (hlt : g < w'.heap.size) : Chg (bf v) (B1 g) w w' := by
  refine ⟨h.os, h.tape, h.output, h.size, fun k hk hn => h.block k hk (fun e => hn e.symm), fun k hk => ?_⟩
  have : k = g := hk
  subst this
  rcases hor with h1 | h1
  · exact .inl h1
  · exact .inr ⟨by omega, hlt⟩

theorem B1_bf (g n c : Nat) : B1 g = bf (.slice (some ⟨g, 0, none⟩) n c) := by
  funext k
  simp only [B1, bf, Value.ownBlock, Option.some.injEq]
  exact propext ⟨fun h => h.symm, fun h => h.symm⟩

theorem OwnB.ownlt {w : World} {base : Nat} {g n c : Nat} {l : List UInt8} (h : OwnB w base 5 (.slice (some ⟨g, 0, none⟩) n c) l) : base ≤ g ∧ g < w.heap.size := h.lt g rfl

theorem or128 (k : Nat) : bits .or .u8 ((k : Int) % 256) 128 = ((UInt8.ofNat (k % 128 + 128)).toNat : Int) := by
  have h : ∀ a : Nat, a < 256 → bits .or .u8 (a : Int) 128 = ((a % 128 + 128 : Nat) : Int) := by decide +kernel
  have h1 := h (k % 256) (by omega)
  rw [UInt8.toNat_ofNat']
  rw [show ((k : Int) % 256) = ((k % 256 : Nat) : Int) by omega, h1]
  omega

set_option maxHeartbeats 400000 in
/-- a number's digits behind a row of the call's own -/
theorem varint_any (w : World) (base : Nat) (v : Value) (xs : List UInt8) (N : Nat) (hN : N < 18446744073709551616) (ho : OwnB w base 5 v xs) (hbase : base ≤ w.heap.size) (hx : xs.length ≤ 140737488355000) :
    Calls Try.prog 61 #[v, .int .u64 N] w (BO w base v (xs ++ vi N)) := by
  go_enter Try.func61, Try.ntmps61
  go_wp2
  go_loopw [0, 1] (fun u n wr => ∃ (k : Nat) (ys : List UInt8), n = .int .u64 k ∧ k ≤ N ∧ ys ++ vi k = xs ++ vi N ∧ OwnB wr base 5 u ys ∧ Chg (bf v) (bf u) w wr) (fun _ n _ => (intOf n).toNat)
  case atStart => exact ⟨N, xs, rfl, Nat.le_refl _, rfl, ho, Chg.refl _ _⟩
  case round =>
    obtain ⟨k, ys, rfl, hk, he, hown, hc⟩ := hrel
    have hys : ys.length ≤ 140737488355100 := by
      have h1 := congrArg List.length he
      have h2 := vi_length64 N hN
      simp only [List.length_append] at h1
      omega
    have hB : base ≤ wr.heap.size := by have := hc.size; omega
    have t0 : (0 : Int) ≤ (k : Int) := by omega
    have t1 : (k : Int) ≤ 18446744073709551615 := by omega
    by_cases hlt : (k : Int) < 128
    · obtain ⟨g, cap, w', hr, h1, h2, h3, h4, h5⟩ := append_byte (ty := 23) (UInt8.ofNat k) (k : Int) (by rw [UInt8.toNat_ofNat']; omega) hown (by omega) hB
      have hC := hc.trans (chg_byte h2 h5 h1.ownlt.2)
      have HL : Hid (ys.length + 1 = (xs ++ vi N).length) := by rw [← he, vi_lt (by omega), List.length_append]; rfl
      have HO : Hid (OwnB w' base 5 (.slice (some ⟨g, 0, none⟩) (ys.length + 1) cap) (xs ++ vi N)) := by rw [← he, vi_lt (by omega)]; exact h1
      have HR := Lib.hid hr
      clear h1 h2 h4 h5 hr hown hc ho he
      go_wp2_with (at_builtin; refine wpList_append_eq rfl rfl HR.out rfl rfl ?_)
      go_ret
      exact ⟨_, _, _, rfl, HL, HO.out, hC, h3⟩
    · have hb := or128 k
      obtain ⟨g, cap, w', hr, h1, h2, h3, h4, h5⟩ := append_byte (ty := 23) (UInt8.ofNat (k % 128 + 128)) (bits .or .u8 ((k : Int) % 256) 128) hb hown (by omega) hB
      have hC := hc.trans (chg_byte h2 h5 h1.ownlt.2)
      have HR := Lib.hid hr
      have HE : Hid ((ys ++ [UInt8.ofNat (k % 128 + 128)]) ++ vi (k / 128) = xs ++ vi N) := by rw [← he, vi_ge (n := k) (by omega), List.append_assoc]; rfl
      have HO := Lib.hid h1
      clear h1 h2 h4 h5 hr hown hc ho he hb
      go_wp2_with (at_builtin; refine wpList_append_eq rfl rfl HR.out rfl rfl ?_)
      go_roundw
      case rel => exact ⟨k / 128, _, by go_num, by omega, HE.out, HO.out, by rw [← B1_bf]; exact hC⟩
      case measure => simp [intOf]; omega
end Mun
end

section
/- Contracts of what writes a record: whether it is good; chunks. -/
set_option maxRecDepth 100000
set_option linter.unusedVariables false
namespace Mun
open Go Go.RowKit
open Go.Proofs

/-- the blocks from a number on -/
def NewF (B : Nat) : Foot := fun k => B ≤ k

theorem below_of_chg {w w' : World} {v : Value} {g B : Nat} (h : Chg (bf v) (B1 g) w w') (hv : ∀ k, v.ownBlock = some k → B ≤ k) (hB : B ≤ w.heap.size) : Below B w w' :=
  h.below hB (fun k hk hF => by have := hv k hF; omega)

theorem ownB_from {w : World} {base : Nat} {v : Value} {l : List UInt8} (h : OwnB w base 5 v l) : ∀ k, v.ownBlock = some k → base ≤ k := fun k hk => (h.lt k hk).1

set_option maxHeartbeats 400000 in
/-- a chunk behind a row of the call's own -/
theorem text_any {F : Foot} (w : World) (base : Nat) (v : Value) (xs : List UInt8) (s : Value) (b : List UInt8) (hb : b.length ≤ 140737488355000) (ho : OwnB w base 5 v xs) (hbase : base ≤ w.heap.size) (hx : xs.length + b.length ≤ 140737488350000)
    (hs : RdB F w s b) (hF : ∀ k, base ≤ k → F k) :
    Calls Try.prog 62 #[v, s] w (BO w base v (xs ++ txt b)) := by
  obtain ⟨a, n, c, rfl, HN, hnc, hcm⟩ := hs.formN
  have hv := varint_any w base v xs n (by rw [HN.out]; omega) ho hbase (by omega)
  have hs2 : ∀ (w1 : World) (g : Nat), Chg (bf v) (B1 g) w w1 → base ≤ g → RdB (B1 g) w1 (.slice a n c) b := fun w1 g hc hg =>
    RdB.chg (RdV.mono hs (fun k hk hb => hF k (ownB_from ho k hb))) hc
  have HS := Lib.hid hs2
  have hn : (n : Int) ≤ 9223372036854775807 := by unfold maxLen at hcm; omega
  have h10 := vi_length64 n (by rw [HN.out]; omega)
  have hxb : xs.length + n ≤ 140737488350000 := by rw [HN.out]; exact hx
  clear hs2 hs ho hF hx hcm hnc hb
  go_enter Try.func62, Try.ntmps62
  go_wp2_with fail
  refine hv.mono ?_
  rintro e w1 ⟨g, m, cp, rfl, HM, hown, hc1, hg⟩
  have hs1 := HS.out w1 g hc1 hg
  have hml : m = (xs ++ vi n).length := HM.out
  obtain ⟨v2, w2, hr, h1, h2, h3, h4⟩ := append_bytes (ty := 23) hown hs1 (by rw [← HN.out]; simp only [List.length_append]; omega) (by have := hc1.size; omega)
  have hp : 0 < ((xs ++ vi n) ++ b).length := by have := vi_pos n; simp only [List.length_append]; omega
  obtain ⟨g2, cp2, rfl, hg2, hlt2, _⟩ := h1.at_ hp
  have hor : (Value.slice (some ⟨g, 0, none⟩) m cp).ownBlock = some g2 ∨ w1.heap.size ≤ g2 := by
    rcases h3 with h3 | h3
    · exact .inl h3.symm
    · simp only [Value.ownBlock, Option.some.injEq] at h3; exact .inr (by omega)
  have hC := hc1.trans (by rw [B1_bf g m cp]; exact chg_rows h2 hor hlt2)
  have HL : Hid (((xs ++ vi n) ++ b).length = (xs ++ txt b).length) := by unfold txt; rw [← HN.out, List.append_assoc]; rfl
  generalize ((xs ++ vi n) ++ b).length = m2 at h1 hr HL
  have HO : Hid (OwnB w2 base 5 (.slice (some ⟨g2, 0, none⟩) m2 cp2) (xs ++ txt b)) := by
    unfold txt
    rw [← HN.out, ← List.append_assoc]; exact h1
  have HR := Lib.hid hr
  clear h1 h2 h3 h4 hr hown hc1 hs1 hml hor
  go_wp2_with (at_builtin; refine wpList_append_eq rfl rfl HR.out rfl rfl ?_)
  go_ret
  exact ⟨_, _, _, rfl, HL, HO.out, hC, hg2⟩

set_option maxHeartbeats 1000000 in
theorem rgood_any {F : Foot} (w : World) (r : PR) (x : RV) (h : RecAt F w r x) :
    Calls Try.prog 33 #[rval r x] w fun e w' => e = .returned (.bool (goodR r)) ∧ Below w.heap.size w w' := by
  unfold rval
  by_cases k1 : r.kind < 1
  · have HG : Hid (goodR r = false) := by
      unfold Hid
      rw [Bool.eq_false_iff]
      intro hg
      have := (goodR_iff r).1 hg
      omega
    go_enter Try.func33, Try.ntmps33
    go_wp2
    go_ret
    exact ⟨by rw [HG.out]; rfl, (Below.refl _ _).alloc (Nat.le_refl _) _⟩
  · by_cases k2 : 9 < r.kind
    · have HG : Hid (goodR r = false) := by
        unfold Hid
        rw [Bool.eq_false_iff]
        intro hg
        have := (goodR_iff r).1 hg
        omega
      go_enter Try.func33, Try.ntmps33
      go_wp2
      go_ret
      exact ⟨by rw [HG.out]; rfl, (Below.refl _ _).alloc (Nat.le_refl _) _⟩
    · have hk1 : 1 ≤ r.kind := by omega
      have hk2 : ¬ 9 < r.kind := k2
      clear k1 k2
      obtain ⟨a, n, c, hcv, HN, hnc, hcm⟩ : ∃ a n c, x.cv = .slice a n c ∧ Hid (n = x.cs.length) ∧ n ≤ c ∧ c ≤ maxLen := by
        obtain ⟨a, c, hv, h1, h2⟩ := h.cs.row.form
        exact ⟨a, _, c, hv, rfl, h1, h2⟩
      have hn : (n : Int) ≤ 9223372036854775807 := by unfold maxLen at hcm; omega
      have HC : ∀ i (hi : i < x.cs.length), ∃ g off, a = some ⟨g, off, none⟩ ∧ g < w.heap.size ∧ w.cell? ⟨g, off + i * 4, none⟩ = some (.int .i64 x.cs[i].1.page) ∧ w.cell? ⟨g, off + i * 4 + 1, none⟩ = some (.int .i64 x.cs[i].1.at_) ∧
          w.cell? ⟨g, off + i * 4 + 2, none⟩ = some (.bool x.cs[i].1.whole) ∧ w.cell? ⟨g, off + i * 4 + 3, none⟩ = some x.cs[i].2 := by
        intro i hi
        obtain ⟨g, off, c', hv, h1, h2, h3, h4, h5, h6, h7, h8⟩ := h.cs.at_ i hi
        rw [hcv] at hv
        injection hv with e1 e2 e3
        exact ⟨g, off, e1, h4, h5, h6, h7, h8⟩
      have HB : ∀ i (hi : i < x.cs.length), ∃ a c, x.cs[i].2 = .slice a x.cs[i].1.b.length c ∧ x.cs[i].1.b.length ≤ 9223372036854775807 := fun i hi => by
        obtain ⟨a, c, hv, h1, h2⟩ := (h.cs.rd _ (List.getElem_mem hi)).form
        exact ⟨a, c, hv, by unfold maxLen at h2; omega⟩
      have HE : Hid (goodR r = (x.cs.all fun p => goodC p.1)) := by
        unfold Hid goodR
        rw [← h.eq, List.all_map]
        have e1 : decide (1 ≤ r.kind) = true := decide_eq_true hk1
        have e2 : decide (r.kind ≤ 9) = true := decide_eq_true (by omega)
        rw [e1, e2]
        rfl
      rw [hcv]
      clear h
      have HC2 := Lib.hid HC
      have HB2 := Lib.hid HB
      clear HC HB hcm
      go_enter Try.func33, Try.ntmps33
      go_wp2
      go_loopw [16] (fun i wr => ∃ k : Nat, k ≤ n ∧ i = .int .i64 k ∧ Below w.heap.size w wr ∧ (∀ j (hj : j < x.cs.length), j < k → goodC x.cs[j].1 = true)) (fun i _ => n - (intOf i).toNat)
      case atStart => exact ⟨0, Nat.zero_le _, rfl, (Below.refl _ _).alloc (Nat.le_refl _) _, fun j hj h0 => absurd h0 (Nat.not_lt_zero _)⟩
      case round =>
        obtain ⟨k, hk, rfl, hb, hg⟩ := hrel
        by_cases hlt : k < n
        · have hkl : k < x.cs.length := by rw [← HN.out]; exact hlt
          obtain ⟨g, off, rfl, hgl, c0, c1, c2, c3⟩ := HC2.out k hkl
          obtain ⟨ba, bc, hbv, hbm⟩ := HB2.out k hkl
          rw [hbv] at c3
          rw [← hb.cell (p := ⟨g, off + k * 4, none⟩) hgl] at c0
          rw [← hb.cell (p := ⟨g, off + k * 4 + 1, none⟩) hgl] at c1
          rw [← hb.cell (p := ⟨g, off + k * 4 + 2, none⟩) hgl] at c2
          rw [← hb.cell (p := ⟨g, off + k * 4 + 3, none⟩) hgl] at c3
          have HBad : Hid (goodC x.cs[k].1 = false → goodR r = false) := fun hf => by
            rw [HE.out, List.all_eq_false]
            exact ⟨_, List.getElem_mem hkl, by rw [hf]; exact Bool.false_ne_true⟩
          have HYes : Hid (goodC x.cs[k].1 = true → ∀ j (hj : j < x.cs.length), j < k + 1 → goodC x.cs[j].1 = true) := fun ht j hj hjk => by
            rcases Nat.lt_or_ge j k with h1 | h1
            · exact hg j hj h1
            · obtain rfl : j = k := by omega
              exact ht
          have hBe : Below w.heap.size w (wr.alloc (.cells #[.int .i64 x.cs[k].1.page, .int .i64 x.cs[k].1.at_, .bool x.cs[k].1.whole, .slice ba x.cs[k].1.b.length bc] 81)) := hb.alloc hb.size _
          have Hb := Lib.hid hBe
          clear hg hb hbv hBe
          generalize x.cs[k].1 = pc at c0 c1 c2 c3 hbm HBad HYes Hb
          have HG1 : Hid (GoodC pc → goodC pc = true) := (goodC_iff pc).2
          have HG0 : Hid (¬ GoodC pc → goodC pc = false) := fun h => by rw [Bool.eq_false_iff]; exact fun h1 => h ((goodC_iff pc).1 h1)
          have HL : Hid (pc.b.length = pc.b.length) := rfl
          by_cases q1 : pc.page < 0
          · have HG : Hid (goodR r = false) := HBad.out (HG0.out (fun h => by have := h.p0; omega))
            go_wp2
            go_ret
            exact ⟨by rw [HG.out]; rfl, Hb.out⟩
          by_cases q2 : 65536 ≤ pc.page
          · have HG : Hid (goodR r = false) := HBad.out (HG0.out (fun h => by have := h.p1; omega))
            go_wp2
            go_ret
            exact ⟨by rw [HG.out]; rfl, Hb.out⟩
          by_cases q3 : pc.at_ < 0
          · have HG : Hid (goodR r = false) := HBad.out (HG0.out (fun h => by have := h.a0; omega))
            go_wp2
            go_ret
            exact ⟨by rw [HG.out]; rfl, Hb.out⟩
          by_cases q4 : 512 < pc.at_
          · have HG : Hid (goodR r = false) := HBad.out (HG0.out (fun h => by have := h.a1; omega))
            go_wp2
            go_ret
            exact ⟨by rw [HG.out]; rfl, Hb.out⟩
          have q3' : 0 ≤ pc.at_ := by omega
          have q4' : pc.at_ ≤ 512 := by omega
          by_cases q5 : 512 - pc.at_ < (pc.b.length : Int)
          · have HG : Hid (goodR r = false) := HBad.out (HG0.out (fun h => by have := h.len; omega))
            go_wp2
            go_ret
            exact ⟨by rw [HG.out]; rfl, Hb.out⟩
          cases hw : pc.whole with
          | false =>
            have HG := Lib.hid (HYes.out (HG1.out ⟨by omega, by omega, by omega, by omega, by omega, fun h => by rw [hw] at h; cases h⟩))
            rw [hw] at c2 Hb
            clear hw
            go_wp2
            go_roundw
            case rel => exact ⟨k + 1, by omega, by go_num, Hb.out, HG.out⟩
            case measure => simp [intOf]; omega
          | true =>
            rw [hw] at c2 Hb
            by_cases q6 : pc.at_ = 0
            · by_cases q7 : pc.b.length = 512
              · have HG := Lib.hid (HYes.out (HG1.out ⟨by omega, by omega, by omega, by omega, by omega, fun h => ⟨q6, q7⟩⟩))
                rw [q6] at Hb c1
                rw [q7] at Hb c3
                clear hw
                go_wp2
                go_roundw
                case rel => exact ⟨k + 1, by omega, by go_num, Hb.out, HG.out⟩
                case measure => simp [intOf]; omega
              · have HG : Hid (goodR r = false) := HBad.out (HG0.out (fun h => q7 (h.all hw).2))
                rw [q6] at Hb c1
                clear hw
                have q7' : ((pc.b.length : Int) != 512) = true := by simp; omega
                go_wp2
                go_ret
                exact ⟨by rw [HG.out]; rfl, Hb.out⟩
            · have HG : Hid (goodR r = false) := HBad.out (HG0.out (fun h => q6 (h.all hw).1))
              clear hw
              have q6' : (pc.at_ != 0) = true := by simpa using q6
              go_wp2
              go_ret
              exact ⟨by rw [HG.out]; rfl, Hb.out⟩
        · obtain rfl : k = n := by omega
          have HG : Hid (goodR r = true) := by
            unfold Hid
            rw [HE.out, List.all_eq_true]
            intro p hp
            obtain ⟨j, hj, rfl⟩ := List.getElem_of_mem hp
            exact hg j hj (by rw [HN.out]; exact hj)
          clear hg
          go_wp2_with fail
          go_ret
          exact ⟨by rw [HG.out]; rfl, hb⟩
end Mun
end

section
/- Contract of what lays a record's body. -/
set_option maxRecDepth 100000
set_option linter.unusedVariables false
namespace Mun
open Go Go.RowKit
open Go.Proofs

/-- a row of the call's own; what stood below stays -/
structure BSt (B : Nat) (w1 wr : World) (v : Value) (l : List UInt8) : Prop where
  own : OwnB wr B 5 v l
  bl : Below B w1 wr
  hB : B ≤ w1.heap.size

theorem BSt.size {B : Nat} {w1 wr : World} {v : Value} {l : List UInt8} (h : BSt B w1 wr v l) : B ≤ wr.heap.size := by have := h.bl.size; have := h.hB; omega
theorem BSt.form {B : Nat} {w1 wr : World} {v : Value} {l : List UInt8} (h : BSt B w1 wr v l) : ∃ a n c, v = .slice a n c := by
  obtain ⟨a, c, hv, _⟩ := (OwnB.rd (F := NoF) h.own (fun _ _ => noF _)).form
  exact ⟨a, _, c, hv⟩
theorem BSt.step {B : Nat} {w1 wr w' : World} {v : Value} {l l' : List UInt8} {g n c : Nat} (h : BSt B w1 wr v l) (ho : OwnB w' B 5 (.slice (some ⟨g, 0, none⟩) n c) l') (hc : Chg (bf v) (B1 g) wr w') : BSt B w1 w' (.slice (some ⟨g, 0, none⟩) n c) l' :=
  ⟨ho, h.bl.trans (below_of_chg hc (ownB_from h.own) h.size), h.hB⟩
theorem BSt.grow {B : Nat} {w1 wr w' : World} {v : Value} {l : List UInt8} (h : BSt B w1 wr v l) (hb : Below wr.heap.size wr w') : BSt B w1 w' v l :=
  ⟨h.own.below hb, h.bl.trans (hb.mono h.size), h.hB⟩
theorem BSt.drew {B : Nat} {w1 wr : World} {v : Value} {l : List UInt8} (h : BSt B w1 wr v l) : BSt B w1 wr.drew v l := h.grow (below_drewN (Below.refl _ _) 1)

theorem BSt.boxcell {B b : Nat} {w1 wr : World} {v : Value} {l : List UInt8} {cs : Array Value} {ty : TypeId} (h : BSt B w1 wr v l) (hb : w1.heap[b]? = some (.cells cs ty (0, 0))) (hlt : b < B) (i : Nat) : wr.cell? ⟨b, i, none⟩ = cs[i]? :=
  cell_of_row wr b i _ _ _ ((h.bl.block b hlt).trans hb)
theorem RecAt.newer {F : Foot} {w w1 wr : World} {r : PR} {x : RV} {B : Nat} (h : RecAt F w r x) (hb : Below w.heap.size w w1) (hb2 : Below B w1 wr) (hB : w.heap.size ≤ B) : RecAt (NewF B) wr r x :=
  (h.mono (F' := NewF B) (fun k hk hn => by unfold NewF at hn; omega)).below (hb.trans (hb2.mono hB))
/-- a block that is not the row's stays -/
theorem BSt.other {B : Nat} {w1 wr : World} {v : Value} {l : List UInt8} (h : BSt B w1 wr v l) (o : Obj) : v.ownBlock ≠ some wr.heap.size := fun e => by have := (h.own.lt _ e).2; omega

/-- cells of a block that stay -/
theorem cells_chg {F F' : Foot} {w w' : World} {c : Nat} {cs : Array Value} {ty : TypeId} (hb : w.heap[c]? = some (.cells cs ty (0, 0))) (hc : Chg F F' w w') (hF : ¬ F c) : w'.heap[c]? = some (.cells cs ty (0, 0)) ∧ ¬ F' c := by
  have hlt := (Array.getElem?_eq_some_iff.1 hb).1
  refine ⟨(hc.block c hlt hF).trans hb, fun h => ?_⟩
  rcases hc.foot c h with h1 | h1
  · exact hF h1
  · omega

/-- the first bytes of a body -/
def hdK (r : PR) : Nat → List UInt8
  | 0 => [UInt8.ofNat r.kind.toNat]
  | 1 => [UInt8.ofNat r.kind.toNat] ++ vi r.tx
  | 2 => [UInt8.ofNat r.kind.toNat] ++ vi r.tx ++ vi r.prev
  | _ => headR r

theorem hdK_len (r : PR) (x : RV) {F : Foot} {w : World} (h : RecAt F w r x) (k : Nat) : (hdK r k).length ≤ 31 := by
  have h1 := vi_length64 _ h.tx
  have h2 := vi_length64 _ h.prev
  have h3 := vi_length64 _ h.next
  unfold hdK
  split <;> simp only [headR, List.length_append, List.length_cons, List.length_nil] <;> omega

/-- a body as far as k changes -/
def bdK (r : PR) (k : Nat) : List UInt8 := headR r ++ txt r.data ++ vi r.cs.length ++ (r.cs.take k).flatMap chB

theorem bdK_all (r : PR) : bdK r r.cs.length = bodyR r := by simp [bdK, bodyR]
theorem bdK_zero (r : PR) : bdK r 0 = headR r ++ txt r.data ++ vi r.cs.length := by simp [bdK]
theorem bdK_succ (r : PR) (k : Nat) (h : k < r.cs.length) : bdK r (k + 1) = bdK r k ++ (vi r.cs[k].page.toNat ++ vi r.cs[k].at_.toNat ++ [wb r.cs[k]] ++ txt r.cs[k].b) := by
  unfold bdK
  rw [take_snoc r.cs k h, List.flatMap_append]
  simp [chB]

theorem rszs_mono (l : List PC) (k : Nat) : ((l.take k).map szC).sum ≤ (l.map szC).sum := by
  induction l generalizing k with
  | nil => simp
  | cons a l ih =>
    cases k with
    | zero => simp
    | succ k => have := ih k; simp only [List.take_succ_cons, List.map_cons, List.sum_cons]; omega

theorem bdK_len (r : PR) (x : RV) {F : Foot} {w : World} (h : RecAt F w r x) (hg : goodR r = true) (hs : szR r ≤ 4194304) (k : Nat) : (bdK r k).length ≤ 4194400 := by
  have hG := ((goodR_iff r).1 hg).2.2
  have h1 := hdK_len r x h 3
  have h2 := vi_length64 r.data.length (by unfold szR at hs; omega)
  have h3 := vi_length64 r.cs.length (by unfold szR at hs; omega)
  have h4 := chs_length (r.cs.take k) (fun c hc => hG c (List.mem_of_mem_take hc))
  have h5 := rszs_mono r.cs k
  unfold szR at hs
  have h6 : (hdK r 3) = headR r := rfl
  rw [h6] at h1
  simp only [bdK, txt, List.length_append]
  omega

theorem sz_mem (l : List PC) (c : PC) (h : c ∈ l) : szC c ≤ (l.map szC).sum := by
  induction l with
  | nil => cases h
  | cons a l ih =>
    rcases List.mem_cons.1 h with rfl | h
    · simp
    · have := ih h; simp only [List.map_cons, List.sum_cons]; omega

theorem own_one (w : World) (b : UInt8) (x : Int) (hx : x = b.toNat) : OwnB (w.alloc (.cells #[.int .u8 x] 5)) w.heap.size 5 (.slice (some ⟨w.heap.size, 0, none⟩) 1 1) [b] := by
  rw [bobj_one w b x hx]
  exact bobj_own w [b] 1 _ rfl (by simp [maxLen]) (Nat.le_refl _)

theorem step_append_is {P : Program} {ops : Array Oper} {o : Oper} {a : Act} {w : World} {K : Act → World → Prop} {Q : Exit → Act → World → Prop} {E : Prop} (hgd : o.guard = none) {s x : Operand} {t : TypeId}
    (ho : o.op = .call { callee := .builtin .append, args := #[s, x], argTypes := #[t, t] }) {v sv v' : Value} {w' : World}
    (hr : (Builtin.append_ #[t, t] o.type #[v, sv]).run P w = .ok v' w') (hs : a.eval s = v) (hx : a.eval x = sv) (h : K (a.put o.dst v') w') :
    if Region.wanted o (yielded ops a.tmps) = true then Oper.wp P o a w K Q else E := by
  have hw : Region.wanted o (yielded ops a.tmps) = true := by simp [Region.wanted, hgd]
  rw [if_pos hw]
  unfold Oper.wp
  simp [execOp, ho, resolve, invoke, builtin, hs, hx, hr, Result.andThen]
  exact h
end Mun
end

section
/- Contract of what lays a record's body: the walk. -/
set_option maxRecDepth 100000
set_option linter.unusedVariables false
set_option linter.unusedSimpArgs false
namespace Mun
open Go Go.RowKit
open Go.Proofs

/-- what body hands back -/
def BodyOut (w : World) (l : List UInt8) (e : Ending) (w' : World) : Prop :=
  ∃ g n c, e = .returned (.slice (some ⟨g, 0, none⟩) n c) ∧ Hid (n = l.length) ∧ OwnB w' w.heap.size 5 (.slice (some ⟨g, 0, none⟩) n c) l ∧ Below w.heap.size w w'

def St3 (r : PR) (B : Nat) (w1 wr : World) (u i : Value) : Prop :=
  ∃ k, ((k = 0 ∧ i = .int .i64 0) ∨ (k = 1 ∧ i = .int .i64 1) ∨ (k = 2 ∧ i = .int .i64 2) ∨ (k = 3 ∧ i = .int .i64 3)) ∧ BSt B w1 wr u (hdK r k)

set_option maxHeartbeats 1000000 in
theorem body_any {F : Foot} (w : World) (r : PR) (x : RV) (h : RecAt F w r x) (hg : goodR r = true) (hsz : szR r ≤ 4194304) :
    Calls Try.prog 34 #[rval r x] w (BodyOut w (bodyR r)) := by
  have hG := (goodR_iff r).1 hg
  have i0 : ∀ w, (Instr.index 112 (.agg #[.int .u64 r.tx, .int .u64 r.prev, .int .u64 r.next]) (.int .i64 0)).run Try.prog w = .ok (.int .u64 r.tx) w := fun _ => by kernel_rfl
  have i1 : ∀ w, (Instr.index 112 (.agg #[.int .u64 r.tx, .int .u64 r.prev, .int .u64 r.next]) (.int .i64 1)).run Try.prog w = .ok (.int .u64 r.prev) w := fun _ => by kernel_rfl
  have i2 : ∀ w, (Instr.index 112 (.agg #[.int .u64 r.tx, .int .u64 r.prev, .int .u64 r.next]) (.int .i64 2)).run Try.prog w = .ok (.int .u64 r.next) w := fun _ => by kernel_rfl
  have hd1 : Hid (∀ k, (hdK r k).length ≤ 31) := fun k => hdK_len r x h k
  have hd2 : Hid (∀ k, (bdK r k).length ≤ 4194400) := fun k => bdK_len r x h hg hsz k
  have hk0 : 0 ≤ r.kind := by omega
  have hk1 : r.kind < 256 := by omega
  obtain ⟨kd, hkd⟩ := Int.eq_ofNat_of_zero_le hk0
  have HKD := Lib.hid hkd
  unfold rval
  rw [hkd]
  obtain ⟨dn, hdn⟩ : ∃ dn, r.data.length = dn := ⟨_, rfl⟩
  obtain ⟨da, dc, hdv, _, _⟩ := h.data.form
  obtain ⟨ca, cc, hcv, hcc, hcm⟩ := h.cs.row.form
  rw [hdn] at hdv
  obtain ⟨n, hnn⟩ : ∃ n, x.cs.length = n := ⟨_, rfl⟩
  rw [hnn] at hcv
  rw [hdv, hcv]
  have HN := Lib.hid hnn
  have HDN := Lib.hid hdn
  have HH := Lib.hid h
  have HDV := Lib.hid hdv
  have HCV := Lib.hid hcv
  have HS := Lib.hid hsz
  have HGG := Lib.hid hG
  have hn1 : n ≤ 4194304 := by rw [← hnn, h.len]; unfold szR at hsz; omega
  have hdl : dn ≤ 4194304 := by rw [← hdn]; unfold szR at hsz; omega
  have hkk : (kd : Int) < 256 := by omega
  have hni : (n : Int) ≤ 4194304 := by omega
  have hni0 : (0 : Int) ≤ (n : Int) := by omega
  clear hG hkd hk0 hk1 hdn hdv hcv hcc hcm hnn h hsz hg
  obtain ⟨w1, hw1⟩ : ∃ w1, w.alloc (.cells #[.int .i64 kd, .int .u64 r.tx, .int .u64 r.prev, .int .u64 r.next, .slice da dn dc, .slice ca n cc] 26) = w1 := ⟨_, rfl⟩
  have hbx : w1.heap[w.heap.size]? = some (.cells #[.int .i64 kd, .int .u64 r.tx, .int .u64 r.prev, .int .u64 r.next, .slice da dn dc, .slice ca n cc] 26 (0, 0)) := by rw [← hw1]; exact heap_alloc_new w _
  have hs1 : w1.heap.size = w.heap.size + 1 := by rw [← hw1]; simp
  have hb1 : Below w.heap.size w w1 := by rw [← hw1]; exact (Below.refl _ _).alloc (Nat.le_refl _) _
  have c0 : w1.cell? ⟨w.heap.size, 0, none⟩ = some (.int .i64 kd) := cell_of_row w1 _ 0 _ _ _ hbx
  have hbx2 : (w1.alloc (.cells #[.int .u8 kd] 5)).heap[w.heap.size]? = some (.cells #[.int .i64 kd, .int .u64 r.tx, .int .u64 r.prev, .int .u64 r.next, .slice da dn dc, .slice ca n cc] 26 (0, 0)) := by rw [heap_alloc_old _ _ (by omega)]; exact hbx
  have c1 : (w1.alloc (.cells #[.int .u8 kd] 5)).cell? ⟨w.heap.size, 1, none⟩ = some (.int .u64 r.tx) := cell_of_row _ _ 1 _ _ _ hbx2
  have c2 : (w1.alloc (.cells #[.int .u8 kd] 5)).cell? ⟨w.heap.size, 2, none⟩ = some (.int .u64 r.prev) := cell_of_row _ _ 2 _ _ _ hbx2
  have c3 : (w1.alloc (.cells #[.int .u8 kd] 5)).cell? ⟨w.heap.size, 3, none⟩ = some (.int .u64 r.next) := cell_of_row _ _ 3 _ _ _ hbx2
  clear hbx2
  have HB1 := Lib.hid (And.intro hb1 (And.intro hbx hs1))
  have hst : BSt (w.heap.size + 1) w1 (w1.alloc (.cells #[.int .u8 kd] 5)) (.slice (some ⟨w1.heap.size, 0, none⟩) 1 1) (hdK r 0) := by
    refine ⟨?_, (Below.refl _ _).alloc (by omega) _, by omega⟩
    have := own_one w1 (UInt8.ofNat r.kind.toNat) kd (by rw [HKD.out, UInt8.toNat_ofNat']; simp; omega)
    rw [hs1] at this ⊢
    exact this
  have HST := Lib.hid hst
  have e1 : w.heap.size + 1 = w1.heap.size := hs1.symm
  have E1 := Lib.hid e1
  clear hst hb1 hbx hs1 e1
  go_enter Try.func34, Try.ntmps34
  go_upto_region 2 with (fail)
  clear hw1
  go_wp2
  clear c0 c1 c2 c3
  go_loopw [3, 20] (fun u i wr => St3 r (w.heap.size + 1) w1 wr u i) (fun _ i _ => 3 - (intOf i).toNat)
  case atStart => exact ⟨0, .inl ⟨rfl, rfl⟩, HST.out⟩
  case round =>
    obtain ⟨k, hk, hs⟩ := hrel
    obtain ⟨ua, un, uc, rfl⟩ := hs.form
    have HSS := Lib.hid hs
    have hbase := hs.size
    have hown := hs.own
    rcases hk with ⟨rfl, rfl⟩ | ⟨rfl, rfl⟩ | ⟨rfl, rfl⟩ | ⟨rfl, rfl⟩
    · have hv := varint_any wr (w.heap.size + 1) _ _ r.tx HH.out.tx hown hbase (by have := hd1.out 0; omega)
      have HV := Lib.hid hv
      clear hv hown hbase hs i1 i2
      go_wp2_with (go_at_call 61; refine HV.out.mono ?_; rintro e w' ⟨g, m, cp, rfl, hm, ho, hc, hgg⟩)
      have HX := Lib.hid (HSS.out.step ho hc)
      clear ho hc hm
      go_roundw
      case rel => exact ⟨1, .inr (.inl ⟨rfl, rfl⟩), HX.out⟩
      case measure => simp [intOf]
    · have hv := varint_any wr (w.heap.size + 1) _ _ r.prev HH.out.prev hown hbase (by have := hd1.out 1; omega)
      have HV := Lib.hid hv
      clear hv hown hbase hs i0 i2
      go_wp2_with (go_at_call 61; refine HV.out.mono ?_; rintro e w' ⟨g, m, cp, rfl, hm, ho, hc, hgg⟩)
      have HX := Lib.hid (HSS.out.step ho hc)
      clear ho hc hm
      go_roundw
      case rel => exact ⟨2, .inr (.inr (.inl ⟨rfl, rfl⟩)), HX.out⟩
      case measure => simp [intOf]
    · have hv := varint_any wr (w.heap.size + 1) _ _ r.next HH.out.next hown hbase (by have := hd1.out 2; omega)
      have HV := Lib.hid hv
      clear hv hown hbase hs i0 i1
      go_wp2_with (go_at_call 61; refine HV.out.mono ?_; rintro e w' ⟨g, m, cp, rfl, hm, ho, hc, hgg⟩)
      have HX := Lib.hid (HSS.out.step ho hc)
      clear ho hc hm
      go_roundw
      case rel => exact ⟨3, .inr (.inr (.inr ⟨rfl, rfl⟩)), HX.out⟩
      case measure => simp [intOf]
    · clear i0 i1 i2 hown hbase hs
      obtain ⟨w3, rfl⟩ : ∃ w3 : World, w3 = wr := ⟨_, rfl⟩
      have hsd := HSS.out.drew
      have HSD := Lib.hid hsd
      have hrd := (HH.out.newer HB1.out.1 hsd.bl (Nat.le_succ _)).data
      rw [HDV.out] at hrd
      have ht := text_any w3.drew (w.heap.size + 1) _ _ _ _ (by rw [HDN.out]; omega) hsd.own hsd.size (by have := hd1.out 3; rw [HDN.out]; omega) hrd (fun _ h => h)
      have HT := Lib.hid ht
      have hS0 : w3.drew.cell? ⟨w.heap.size, 4, none⟩ = some (.slice da dn dc) ∧ w3.drew.cell? ⟨w.heap.size, 5, none⟩ = some (.slice ca n cc) := ⟨hsd.boxcell HB1.out.2.1 (Nat.lt_succ_self _) 4, hsd.boxcell HB1.out.2.1 (Nat.lt_succ_self _) 5⟩
      clear hsd hrd ht
      go_upto_region 7 with (fail)
      have hw64 : IntKind.u64.wrap (n : Int) = (n : Int) := wrap_u64_nat n (by omega)
      refine wp_region_U (fun W => W.cell? ⟨w.heap.size, 4, none⟩ = some (.slice da dn dc) ∧ W.cell? ⟨w.heap.size, 5, none⟩ = some (.slice ca n cc)) [] (by kernel_rfl) ?_
      refine wpAnyU_take (i := 0) [3, 8, 9] rfl (by as_aux_lemma => kernel_rfl) (by as_aux_lemma => kernel_rfl) (by as_aux_lemma => kernel_rfl) (by as_aux_lemma => kernel_rfl) (by as_aux_lemma => kernel_rfl) (by as_aux_lemma => kernel_rfl) (fun _ _ _ h => h) (Or.inl ⟨by rfl, (by intro W hSW; (try dsimp only at hSW); (try go_split_ands); go_simp <;> with_reducible rfl)⟩) hS0 ?_
      try simp only [Act.put, List.getElem_toArray, List.getElem_cons_succ, List.getElem_cons_zero, List.setIfInBounds_toArray, List.set_cons_zero, List.set_cons_succ]
      refine wpAnyU_take (i := 1) [2, 3, 8, 9] rfl (by as_aux_lemma => kernel_rfl) (by as_aux_lemma => kernel_rfl) (by as_aux_lemma => kernel_rfl) (by as_aux_lemma => kernel_rfl) (by as_aux_lemma => kernel_rfl) (by as_aux_lemma => kernel_rfl) (fun _ _ _ h => h) (Or.inl ⟨by rfl, (by intro W hSW; (try dsimp only at hSW); (try go_split_ands); go_simp <;> with_reducible rfl)⟩) hS0 ?_
      try simp only [Act.put, List.getElem_toArray, List.getElem_cons_succ, List.getElem_cons_zero, List.setIfInBounds_toArray, List.set_cons_zero, List.set_cons_succ]
      refine wpAnyU_take (i := 2) [3, 8, 9] rfl (by as_aux_lemma => kernel_rfl) (by as_aux_lemma => kernel_rfl) (by as_aux_lemma => kernel_rfl) (by as_aux_lemma => kernel_rfl) (by as_aux_lemma => kernel_rfl) (by as_aux_lemma => kernel_rfl) (fun _ _ _ h => h) (Or.inl ⟨by rfl, (by intro W hSW; (try dsimp only at hSW); (try go_split_ands); go_simp <;> with_reducible rfl)⟩) hS0 ?_
      try simp only [Act.put, List.getElem_toArray, List.getElem_cons_succ, List.getElem_cons_zero, List.setIfInBounds_toArray, List.set_cons_zero, List.set_cons_succ]
      refine wpAnyU_take (i := 4) [5, 6, 7, 8, 9] rfl (by as_aux_lemma => kernel_rfl) (by as_aux_lemma => kernel_rfl) (by as_aux_lemma => kernel_rfl) (by as_aux_lemma => kernel_rfl) (by as_aux_lemma => kernel_rfl) (by as_aux_lemma => kernel_rfl) (fun _ _ _ h => h) (Or.inl ⟨by rfl, (by intro W hSW; (try dsimp only at hSW); (try go_split_ands); go_simp <;> with_reducible rfl)⟩) hS0 ?_
      try simp only [Act.put, List.getElem_toArray, List.getElem_cons_succ, List.getElem_cons_zero, List.setIfInBounds_toArray, List.set_cons_zero, List.set_cons_succ]
      refine wpAnyU_take (i := 5) [6, 7, 8, 9] rfl (by as_aux_lemma => kernel_rfl) (by as_aux_lemma => kernel_rfl) (by as_aux_lemma => kernel_rfl) (by as_aux_lemma => kernel_rfl) (by as_aux_lemma => kernel_rfl) (by as_aux_lemma => kernel_rfl) (fun _ _ _ h => h) (Or.inl ⟨by rfl, (by intro W hSW; (try dsimp only at hSW); (try go_split_ands); go_simp <;> with_reducible rfl)⟩) hS0 ?_
      try simp only [Act.put, List.getElem_toArray, List.getElem_cons_succ, List.getElem_cons_zero, List.setIfInBounds_toArray, List.set_cons_zero, List.set_cons_succ]
      refine wpAnyU_take (i := 6) [7, 8, 9] rfl (by as_aux_lemma => kernel_rfl) (by as_aux_lemma => kernel_rfl) (by as_aux_lemma => kernel_rfl) (by as_aux_lemma => kernel_rfl) (by as_aux_lemma => kernel_rfl) (by as_aux_lemma => kernel_rfl) (fun _ _ _ h => h) (Or.inl ⟨by rfl, (by intro W hSW; (try dsimp only at hSW); (try go_split_ands); go_simp <;> with_reducible rfl)⟩) hS0 ?_
      try simp only [Act.put, List.getElem_toArray, List.getElem_cons_succ, List.getElem_cons_zero, List.setIfInBounds_toArray, List.set_cons_zero, List.set_cons_succ]
      refine wpAnyU_take (i := 7) [8, 9] rfl (by as_aux_lemma => kernel_rfl) (by as_aux_lemma => kernel_rfl) (by as_aux_lemma => kernel_rfl) (by as_aux_lemma => kernel_rfl) (by as_aux_lemma => kernel_rfl) (by as_aux_lemma => kernel_rfl) (fun _ _ _ h => h) (Or.inl ⟨by rfl, (by intro W hSW; (try dsimp only at hSW); (try go_split_ands); go_simp <;> with_reducible rfl)⟩) hS0 ?_
      try simp only [Act.put, List.getElem_toArray, List.getElem_cons_succ, List.getElem_cons_zero, List.setIfInBounds_toArray, List.set_cons_zero, List.set_cons_succ]
      refine wpAnyU_one (i := 3) (by kernel_rfl) rfl (fun K hK => ?_)
      go_simp
      go_at_call 62
      (with_reducible refine HT.out.mono ?_)
      rintro e w4 ⟨g4, m4, cp4, rfl, hm4, ho4, hc4, hgg4⟩
      have HX4 := Lib.hid (HSD.out.step ho4 hc4)
      have hS4 : w4.cell? ⟨w.heap.size, 4, none⟩ = some (.slice da dn dc) ∧ w4.cell? ⟨w.heap.size, 5, none⟩ = some (.slice ca n cc) := ⟨HX4.out.boxcell HB1.out.2.1 (Nat.lt_succ_self _) 4, HX4.out.boxcell HB1.out.2.1 (Nat.lt_succ_self _) 5⟩
      have hv4 := varint_any w4 (w.heap.size + 1) _ _ n (by omega) HX4.out.own HX4.out.size (by have := hd1.out 3; have := vi_length64 r.data.length (by rw [HDN.out]; omega); simp only [txt, List.length_append]; rw [HDN.out] at *; omega)
      have HV4 := Lib.hid hv4
      clear hm4 ho4 hc4 hgg4 hv4 HT
      refine hK.out _ _ (fun _ => hS4) (fun _ => ?_)
      clear hK K
      try simp only [Act.put, List.getElem_toArray, List.getElem_cons_succ, List.getElem_cons_zero, List.setIfInBounds_toArray, List.set_cons_zero, List.set_cons_succ]
      refine wpAnyU_one (i := 8) (by kernel_rfl) rfl (fun K hK => ?_)
      go_simp
      go_at_call 61
      (with_reducible refine HV4.out.mono ?_)
      rintro e w5 ⟨g5, m5, cp5, rfl, hm5, ho5, hc5, hgg5⟩
      have HX5 := Lib.hid (HX4.out.step ho5 hc5)
      have hS5 : w5.cell? ⟨w.heap.size, 4, none⟩ = some (.slice da dn dc) ∧ w5.cell? ⟨w.heap.size, 5, none⟩ = some (.slice ca n cc) := ⟨HX5.out.boxcell HB1.out.2.1 (Nat.lt_succ_self _) 4, HX5.out.boxcell HB1.out.2.1 (Nat.lt_succ_self _) 5⟩
      clear hm5 ho5 hc5 hgg5 HV4
      refine hK.out _ _ (fun _ => hS5) (fun _ => ?_)
      clear hK K
      try simp only [Act.put, List.getElem_toArray, List.getElem_cons_succ, List.getElem_cons_zero, List.setIfInBounds_toArray, List.set_cons_zero, List.set_cons_succ]
      refine wpAnyU_take (i := 9) [] rfl (by as_aux_lemma => kernel_rfl) (by as_aux_lemma => kernel_rfl) (by as_aux_lemma => kernel_rfl) (by as_aux_lemma => kernel_rfl) (by as_aux_lemma => kernel_rfl) (by as_aux_lemma => kernel_rfl) (fun _ _ _ h => h) (Or.inl ⟨by rfl, (by intro W hSW; (try dsimp only at hSW); (try go_split_ands); go_simp <;> with_reducible rfl)⟩) hS5 ?_
      try simp only [Act.put, List.getElem_toArray, List.getElem_cons_succ, List.getElem_cons_zero, List.setIfInBounds_toArray, List.set_cons_zero, List.set_cons_succ]
      refine wpAnyU_done (by kernel_rfl) ?_ _
      have HX6 : Hid (BSt (w.heap.size + 1) w1 w5 (.slice (some ⟨g5, 0, none⟩) m5 cp5) (bdK r 0)) := by
        have h9 := HX5.out
        unfold Hid
        rw [bdK_zero, ← HH.out.len, HN.out]
        exact h9
      have q5 := hS5.2
      clear hS0 hS4 hS5 HX4 HX5 hw64
      go_wp2
      clear q5
      go_loopw [3, 39] (fun u i wr => ∃ k : Nat, k ≤ n ∧ i = .int .i64 k ∧ BSt (w.heap.size + 1) w1 wr u (bdK r k)) (fun _ i _ => n - (intOf i).toNat)
      case atStart => exact ⟨0, Nat.zero_le _, rfl, HX6.out⟩
      case round =>
        obtain ⟨k, hk, rfl, hs⟩ := hrel
        obtain ⟨ua, un, uc, rfl⟩ := hs.form
        have HSS := Lib.hid hs
        clear hs HX6
        by_cases hlt : k < n
        · have hkl : k < x.cs.length := by rw [HN.out]; exact hlt
          have hN := HH.out.newer HB1.out.1 HSS.out.bl (Nat.le_succ _)
          obtain ⟨g, off, c', hv, -, -, -, -, q0, q1, q2, q3⟩ := hN.cs.at_ k hkl
          rw [HCV.out] at hv
          injection hv with e1 e2 e3
          subst e1
          clear e2 e3
          have hrd := hN.cs.rd _ (List.getElem_mem hkl)
          obtain ⟨pc, hpc⟩ : ∃ pc, x.cs[k].1 = pc := ⟨_, rfl⟩
          obtain ⟨bw, hbw⟩ : ∃ bw, x.cs[k].2 = bw := ⟨_, rfl⟩
          rw [hpc] at q0 q1 q2 hrd
          rw [hbw] at q3 hrd
          obtain ⟨ba, bn, bc, rfl, HBN, -, -⟩ := hrd.formN
          have hget := HH.out.get k hkl
          have hkr : k < r.cs.length := by rw [← HH.out.len]; exact hkl
          have HKR := Lib.hid hkr
          have HPC2 : Hid (r.cs[k] = pc) := hget.trans hpc
          have hgc : GoodC pc := by rw [← HPC2.out]; exact HGG.out.2.2 _ (List.getElem_mem hkr)
          obtain ⟨pg, hpg⟩ := Int.eq_ofNat_of_zero_le hgc.p0
          obtain ⟨ag, hag⟩ := Int.eq_ofNat_of_zero_le hgc.a0
          rw [hpg] at q0
          rw [hag] at q1
          have p1 : (pg : Int) < 65536 := by have := hgc.p1; omega
          have p0 : (0 : Int) ≤ (pg : Int) := by omega
          have a1 : (ag : Int) ≤ 512 := by have := hgc.a1; omega
          have a0 : (0 : Int) ≤ (ag : Int) := by omega
          have hbn : bn ≤ 512 := by have := hgc.len; have := HBN.out; omega
          have HPA := Lib.hid (And.intro hpg hag)
          have HPC := Lib.hid (And.intro hpc hbw)
          have HLT := Lib.hid hlt
          obtain ⟨w2, hw2⟩ : ∃ w2, wr.alloc (.cells #[.int .i64 pg, .int .i64 ag, .bool pc.whole, .slice ba bn bc] 81) = w2 := ⟨_, rfl⟩
          have hs2 : BSt (w.heap.size + 1) w1 w2 (.slice ua un uc) (bdK r k) := by rw [← hw2]; exact HSS.out.grow ((Below.refl _ _).alloc (Nat.le_refl _) _)
          have hcb : w2.heap[wr.heap.size]? = some (.cells #[.int .i64 pg, .int .i64 ag, .bool pc.whole, .slice ba bn bc] 81 (0, 0)) := by rw [← hw2]; exact heap_alloc_new wr _
          have HCB : Hid (w2.drew.heap[wr.heap.size]? = some (.cells #[.int .i64 pg, .int .i64 ag, .bool pc.whole, .slice ba bn bc] 81 (0, 0)) ∧ ¬ bf (.slice ua un uc) wr.heap.size) := ⟨hcb, fun h => by have := (HSS.out.own.lt _ h).2; omega⟩
          have HX2 := Lib.hid hs2.drew
          have hL0 := hd2.out k
          have hv3 := varint_any w2.drew (w.heap.size + 1) _ _ pg (by omega) HX2.out.own HX2.out.size (by omega)
          have HV3 := Lib.hid hv3
          have hS0 : w2.drew.cell? ⟨wr.heap.size, 0, none⟩ = some (.int .i64 pg) ∧ w2.drew.cell? ⟨wr.heap.size, 1, none⟩ = some (.int .i64 ag) := ⟨cell_of_row _ _ 0 _ _ _ HCB.out.1, cell_of_row _ _ 1 _ _ _ HCB.out.1⟩
          have HL0 := Lib.hid hL0
          clear hN hrd hpc hbw hget hkr hgc hpg hag hs2 hcb hv3 hL0
          go_upto_region 11 with (fail)
          clear hw2 q0 q1 q2 q3
          have hw64 : IntKind.u64.wrap (pg : Int) = (pg : Int) := wrap_u64_nat pg (by omega)
          have hw65 : IntKind.u64.wrap (ag : Int) = (ag : Int) := wrap_u64_nat ag (by omega)
          refine wp_region_U (fun W => W.cell? ⟨wr.heap.size, 0, none⟩ = some (.int .i64 pg) ∧ W.cell? ⟨wr.heap.size, 1, none⟩ = some (.int .i64 ag)) [] (by kernel_rfl) ?_
          refine wpAnyU_take (i := 0) [4, 8, 9] rfl (by as_aux_lemma => kernel_rfl) (by as_aux_lemma => kernel_rfl) (by as_aux_lemma => kernel_rfl) (by as_aux_lemma => kernel_rfl) (by as_aux_lemma => kernel_rfl) (by as_aux_lemma => kernel_rfl) (fun _ _ _ h => h) (Or.inl ⟨by rfl, (by intro W hSW; (try dsimp only at hSW); (try go_split_ands); go_simp <;> with_reducible rfl)⟩) hS0 ?_
          try simp only [Act.put, List.getElem_toArray, List.getElem_cons_succ, List.getElem_cons_zero, List.setIfInBounds_toArray, List.set_cons_zero, List.set_cons_succ]
          refine wpAnyU_take (i := 1) [2, 3, 4, 8, 9] rfl (by as_aux_lemma => kernel_rfl) (by as_aux_lemma => kernel_rfl) (by as_aux_lemma => kernel_rfl) (by as_aux_lemma => kernel_rfl) (by as_aux_lemma => kernel_rfl) (by as_aux_lemma => kernel_rfl) (fun _ _ _ h => h) (Or.inl ⟨by rfl, (by intro W hSW; (try dsimp only at hSW); (try go_split_ands); go_simp <;> with_reducible rfl)⟩) hS0 ?_
          try simp only [Act.put, List.getElem_toArray, List.getElem_cons_succ, List.getElem_cons_zero, List.setIfInBounds_toArray, List.set_cons_zero, List.set_cons_succ]
          refine wpAnyU_take (i := 2) [3, 4, 8, 9] rfl (by as_aux_lemma => kernel_rfl) (by as_aux_lemma => kernel_rfl) (by as_aux_lemma => kernel_rfl) (by as_aux_lemma => kernel_rfl) (by as_aux_lemma => kernel_rfl) (by as_aux_lemma => kernel_rfl) (fun _ _ _ h => h) (Or.inl ⟨by rfl, (by intro W hSW; (try dsimp only at hSW); (try go_split_ands); go_simp <;> with_reducible rfl)⟩) hS0 ?_
          try simp only [Act.put, List.getElem_toArray, List.getElem_cons_succ, List.getElem_cons_zero, List.setIfInBounds_toArray, List.set_cons_zero, List.set_cons_succ]
          refine wpAnyU_take (i := 3) [4, 8, 9] rfl (by as_aux_lemma => kernel_rfl) (by as_aux_lemma => kernel_rfl) (by as_aux_lemma => kernel_rfl) (by as_aux_lemma => kernel_rfl) (by as_aux_lemma => kernel_rfl) (by as_aux_lemma => kernel_rfl) (fun _ _ _ h => h) (Or.inl ⟨by rfl, (by intro W hSW; (try dsimp only at hSW); (try go_split_ands); go_simp <;> with_reducible rfl)⟩) hS0 ?_
          try simp only [Act.put, List.getElem_toArray, List.getElem_cons_succ, List.getElem_cons_zero, List.setIfInBounds_toArray, List.set_cons_zero, List.set_cons_succ]
          refine wpAnyU_take (i := 5) [6, 7, 8, 9] rfl (by as_aux_lemma => kernel_rfl) (by as_aux_lemma => kernel_rfl) (by as_aux_lemma => kernel_rfl) (by as_aux_lemma => kernel_rfl) (by as_aux_lemma => kernel_rfl) (by as_aux_lemma => kernel_rfl) (fun _ _ _ h => h) (Or.inl ⟨by rfl, (by intro W hSW; (try dsimp only at hSW); (try go_split_ands); go_simp <;> with_reducible rfl)⟩) hS0 ?_
          try simp only [Act.put, List.getElem_toArray, List.getElem_cons_succ, List.getElem_cons_zero, List.setIfInBounds_toArray, List.set_cons_zero, List.set_cons_succ]
          refine wpAnyU_take (i := 6) [7, 8, 9] rfl (by as_aux_lemma => kernel_rfl) (by as_aux_lemma => kernel_rfl) (by as_aux_lemma => kernel_rfl) (by as_aux_lemma => kernel_rfl) (by as_aux_lemma => kernel_rfl) (by as_aux_lemma => kernel_rfl) (fun _ _ _ h => h) (Or.inl ⟨by rfl, (by intro W hSW; (try dsimp only at hSW); (try go_split_ands); go_simp <;> with_reducible rfl)⟩) hS0 ?_
          try simp only [Act.put, List.getElem_toArray, List.getElem_cons_succ, List.getElem_cons_zero, List.setIfInBounds_toArray, List.set_cons_zero, List.set_cons_succ]
          refine wpAnyU_take (i := 7) [8, 9] rfl (by as_aux_lemma => kernel_rfl) (by as_aux_lemma => kernel_rfl) (by as_aux_lemma => kernel_rfl) (by as_aux_lemma => kernel_rfl) (by as_aux_lemma => kernel_rfl) (by as_aux_lemma => kernel_rfl) (fun _ _ _ h => h) (Or.inl ⟨by rfl, (by intro W hSW; (try dsimp only at hSW); (try go_split_ands); go_simp <;> with_reducible rfl)⟩) hS0 ?_
          try simp only [Act.put, List.getElem_toArray, List.getElem_cons_succ, List.getElem_cons_zero, List.setIfInBounds_toArray, List.set_cons_zero, List.set_cons_succ]
          refine wpAnyU_one (i := 4) (by kernel_rfl) rfl (fun K hK => ?_)
          go_simp
          go_at_call 61
          (with_reducible refine HV3.out.mono ?_)
          rintro e w4 ⟨g4, m4, cp4, rfl, hm4, ho4, hc4, hgg4⟩
          have HX4 := Lib.hid (HX2.out.step ho4 hc4)
          have HCB4 := Lib.hid (cells_chg HCB.out.1 hc4 HCB.out.2)
          have hS4 : w4.cell? ⟨wr.heap.size, 0, none⟩ = some (.int .i64 pg) ∧ w4.cell? ⟨wr.heap.size, 1, none⟩ = some (.int .i64 ag) := ⟨cell_of_row _ _ 0 _ _ _ HCB4.out.1, cell_of_row _ _ 1 _ _ _ HCB4.out.1⟩
          have hv4 := varint_any w4 (w.heap.size + 1) _ _ ag (by omega) HX4.out.own HX4.out.size (by have := vi_length64 pg (by omega); have := HL0.out; simp only [List.length_append]; omega)
          have HV4 := Lib.hid hv4
          clear hm4 ho4 hc4 hgg4 hv4 HV3
          refine hK.out _ _ (fun _ => hS4) (fun _ => ?_)
          clear hK K
          try simp only [Act.put, List.getElem_toArray, List.getElem_cons_succ, List.getElem_cons_zero, List.setIfInBounds_toArray, List.set_cons_zero, List.set_cons_succ]
          refine wpAnyU_one (i := 8) (by kernel_rfl) rfl (fun K hK => ?_)
          go_simp
          go_at_call 61
          (with_reducible refine HV4.out.mono ?_)
          rintro e w7 ⟨g7, m7, cp7, rfl, HM7, ho7, hc7, hgg7⟩
          have HX7d := Lib.hid (HX4.out.step ho7 hc7).drew
          have hk7 := cells_chg HCB4.out.1 hc7 (by rw [← B1_bf]; exact HCB4.out.2)
          have HCB7d : Hid (w7.drew.heap[wr.heap.size]? = some (.cells #[.int .i64 pg, .int .i64 ag, .bool pc.whole, .slice ba bn bc] 81 (0, 0)) ∧ ¬ bf (.slice (some ⟨g7, 0, none⟩) m7 cp7) wr.heap.size) := ⟨hk7.1, by rw [← B1_bf]; exact hk7.2⟩
          have hS7 : w7.cell? ⟨wr.heap.size, 0, none⟩ = some (.int .i64 pg) ∧ w7.cell? ⟨wr.heap.size, 1, none⟩ = some (.int .i64 ag) := ⟨cell_of_row _ _ 0 _ _ _ hk7.1, cell_of_row _ _ 1 _ _ _ hk7.1⟩
          have HL7 : Hid (m7 ≤ 4194500) := by
            unfold Hid
            have h1 := HM7.out
            have := vi_length64 pg (by omega)
            have := vi_length64 ag (by omega)
            have := HL0.out
            simp only [List.length_append] at h1
            omega
          clear ho7 hc7 hgg7 hk7 HV4
          refine hK.out _ _ (fun _ => hS7) (fun _ => ?_)
          clear hK K
          try simp only [Act.put, List.getElem_toArray, List.getElem_cons_succ, List.getElem_cons_zero, List.setIfInBounds_toArray, List.set_cons_zero, List.set_cons_succ]
          refine wpAnyU_take (i := 9) [] rfl (by as_aux_lemma => kernel_rfl) (by as_aux_lemma => kernel_rfl) (by as_aux_lemma => kernel_rfl) (by as_aux_lemma => kernel_rfl) (by as_aux_lemma => kernel_rfl) (by as_aux_lemma => kernel_rfl) (fun _ _ _ h => h) (Or.inl ⟨by rfl, (by intro W hSW; (try dsimp only at hSW); (try go_split_ands); go_simp <;> with_reducible rfl)⟩) hS7 ?_
          try simp only [Act.put, List.getElem_toArray, List.getElem_cons_succ, List.getElem_cons_zero, List.setIfInBounds_toArray, List.set_cons_zero, List.set_cons_succ]
          refine wpAnyU_done (by kernel_rfl) ?_ _
          clear hS0 hS4 hS7 HX4 HCB4 HX2 HCB hw64 hw65
          cases hw : pc.whole with
          | true =>
            have HEQ : Hid (bdK r (k + 1) = bdK r k ++ vi pg ++ vi ag ++ [1] ++ txt pc.b) := by
              unfold Hid
              have hwb : wb pc = 1 := by unfold wb; rw [hw]; rfl
              have e2 : r.cs[k]'HKR.out = pc := HPC2.out
              rw [bdK_succ r k HKR.out, e2, hwb, HPA.out.1, HPA.out.2, Int.toNat_natCast, Int.toNat_natCast]
              simp only [List.append_assoc]
            rw [hw] at HCB7d
            have q8 : w7.cell? ⟨wr.heap.size, 2, none⟩ = some (.bool true) := cell_of_row w7 _ 2 _ _ _ HCB7d.out.1
            obtain ⟨g8, cp8, w8, hr8, h81, h82, h83, h84, h85⟩ := append_byte (ty := 23) 1 (1 : Int) (by rfl) HX7d.out.own (by rw [← HM7.out]; have := HL7.out; omega) HX7d.out.size
            rw [← HM7.out] at hr8 h81
            have HX8 := Lib.hid (HX7d.out.step h81 (chg_byte h82 h85 h81.ownlt.2))
            have hk8 := cells_chg HCB7d.out.1 (chg_byte h82 h85 h81.ownlt.2) HCB7d.out.2
            have HK8 := Lib.hid hk8
            have hS8 : w8.cell? ⟨wr.heap.size, 3, none⟩ = some (.slice ba bn bc) := cell_of_row _ _ 3 _ _ _ hk8.1
            have hS8a : (w7.drew.alloc (.cells #[.int .u8 1] 5)).cell? ⟨wr.heap.size, 3, none⟩ = some (.slice ba bn bc) := cell_of_row _ _ 3 _ _ _ ((heap_alloc_old _ _ (Array.getElem?_eq_some_iff.1 HCB7d.out.1).1).trans HCB7d.out.1)
            have hS7 : w7.drew.cell? ⟨wr.heap.size, 3, none⟩ = some (.slice ba bn bc) := cell_of_row _ _ 3 _ _ _ HCB7d.out.1
            have hrd8 := ((HH.out.newer HB1.out.1 HX8.out.bl (Nat.le_succ _)).cs.rd _ (List.getElem_mem hkl))
            rw [HPC.out.1, HPC.out.2] at hrd8
            have ht8 := text_any w8 (w.heap.size + 1) _ _ _ _ (by rw [← HBN.out]; omega) HX8.out.own HX8.out.size (by rw [← HBN.out]; have := HL7.out; have := HM7.out; rw [List.length_append]; simp only [List.length_cons, List.length_nil]; omega) hrd8 (fun _ h => h)
            have HR8 := Lib.hid hr8
            have HT8 := Lib.hid ht8
            clear h81 h82 h83 h84 h85 hr8 ht8 hk8 hrd8 hw
            go_upto_region 15 with (fail)
            refine wp_region_U (fun W => W.cell? ⟨wr.heap.size, 3, none⟩ = some (.slice ba bn bc)) [] (by kernel_rfl) ?_
            refine wpAnyU_take (i := 0) [3, 6, 7] rfl (by as_aux_lemma => kernel_rfl) (by as_aux_lemma => kernel_rfl) (by as_aux_lemma => kernel_rfl) (by as_aux_lemma => kernel_rfl) (by as_aux_lemma => kernel_rfl) (by as_aux_lemma => kernel_rfl) (fun _ _ _ h => h) (Or.inl ⟨by rfl, (by intro W hSW; (try dsimp only at hSW); (try go_split_ands); go_simp <;> with_reducible rfl)⟩) hS7 ?_
            try simp only [Act.put, List.getElem_toArray, List.getElem_cons_succ, List.getElem_cons_zero, List.setIfInBounds_toArray, List.set_cons_zero, List.set_cons_succ]
            refine wpAnyU_take (i := 1) [2, 3, 6, 7] rfl (by as_aux_lemma => kernel_rfl) (by as_aux_lemma => kernel_rfl) (by as_aux_lemma => kernel_rfl) (by as_aux_lemma => kernel_rfl) (by as_aux_lemma => kernel_rfl) (by as_aux_lemma => kernel_rfl) (fun _ _ _ h => h) (Or.inl ⟨by rfl, (by intro W hSW; (try dsimp only at hSW); (try go_split_ands); go_simp <;> with_reducible rfl)⟩) hS7 ?_
            try simp only [Act.put, List.getElem_toArray, List.getElem_cons_succ, List.getElem_cons_zero, List.setIfInBounds_toArray, List.set_cons_zero, List.set_cons_succ]
            refine wpAnyU_take (i := 4) [5, 6, 7] rfl (by as_aux_lemma => kernel_rfl) (by as_aux_lemma => kernel_rfl) (by as_aux_lemma => kernel_rfl) (by as_aux_lemma => kernel_rfl) (by as_aux_lemma => kernel_rfl) (by as_aux_lemma => kernel_rfl) (fun _ _ _ h => h) (Or.inl ⟨by rfl, (by intro W hSW; (try dsimp only at hSW); (try go_split_ands); go_simp <;> with_reducible rfl)⟩) hS7 ?_
            try simp only [Act.put, List.getElem_toArray, List.getElem_cons_succ, List.getElem_cons_zero, List.setIfInBounds_toArray, List.set_cons_zero, List.set_cons_succ]
            refine wpAnyU_take (i := 5) [6, 7] rfl (by as_aux_lemma => kernel_rfl) (by as_aux_lemma => kernel_rfl) (by as_aux_lemma => kernel_rfl) (by as_aux_lemma => kernel_rfl) (by as_aux_lemma => kernel_rfl) (by as_aux_lemma => kernel_rfl) (fun _ _ _ h => h) (Or.inl ⟨by rfl, (by intro W hSW; (try dsimp only at hSW); (try go_split_ands); go_simp <;> with_reducible rfl)⟩) hS7 ?_
            try simp only [Act.put, List.getElem_toArray, List.getElem_cons_succ, List.getElem_cons_zero, List.setIfInBounds_toArray, List.set_cons_zero, List.set_cons_succ]
            refine wpAnyU_one (i := 2) (by kernel_rfl) rfl (fun K hK => ?_)
            go_simp
            refine hK.out _ _ (fun _ => hS8a) (fun _ => ?_)
            clear hK K
            try simp only [Act.put, List.getElem_toArray, List.getElem_cons_succ, List.getElem_cons_zero, List.setIfInBounds_toArray, List.set_cons_zero, List.set_cons_succ]
            refine wpAnyU_one (i := 3) (by kernel_rfl) rfl (fun K hK => ?_)
            refine step_append_is rfl rfl HR8.out rfl rfl ?_
            refine hK.out _ _ (fun _ => hS8) (fun _ => ?_)
            clear hK K
            try simp only [Act.put, List.getElem_toArray, List.getElem_cons_succ, List.getElem_cons_zero, List.setIfInBounds_toArray, List.set_cons_zero, List.set_cons_succ]
            refine wpAnyU_one (i := 6) (by kernel_rfl) rfl (fun K hK => ?_)
            go_simp
            go_at_call 62
            (with_reducible refine HT8.out.mono ?_)
            rintro e w9 ⟨g9, m9, cp9, rfl, hm9, ho9, hc9, hgg9⟩
            have HX9 := Lib.hid (HX8.out.step ho9 hc9)
            have hk9 := cells_chg HK8.out.1 hc9 (by rw [← B1_bf]; exact HK8.out.2)
            have hS9 : w9.cell? ⟨wr.heap.size, 3, none⟩ = some (.slice ba bn bc) := cell_of_row _ _ 3 _ _ _ hk9.1
            clear hm9 ho9 hc9 hgg9 hk9
            refine hK.out _ _ (fun _ => hS9) (fun _ => ?_)
            clear hK K
            try simp only [Act.put, List.getElem_toArray, List.getElem_cons_succ, List.getElem_cons_zero, List.setIfInBounds_toArray, List.set_cons_zero, List.set_cons_succ]
            refine wpAnyU_take (i := 7) [] rfl (by as_aux_lemma => kernel_rfl) (by as_aux_lemma => kernel_rfl) (by as_aux_lemma => kernel_rfl) (by as_aux_lemma => kernel_rfl) (by as_aux_lemma => kernel_rfl) (by as_aux_lemma => kernel_rfl) (fun _ _ _ h => h) (Or.inl ⟨by rfl, (by intro W hSW; (try dsimp only at hSW); (try go_split_ands); go_simp <;> with_reducible rfl)⟩) hS9 ?_
            try simp only [Act.put, List.getElem_toArray, List.getElem_cons_succ, List.getElem_cons_zero, List.setIfInBounds_toArray, List.set_cons_zero, List.set_cons_succ]
            refine wpAnyU_done (by kernel_rfl) ?_ _
            clear hS7 hS8 hS8a hS9 q8
            go_wp2
            go_roundw
            case rel => exact ⟨k + 1, by have := HLT.out; omega, by go_num, by rw [HEQ.out]; exact HX9.out⟩
            case measure => have := HLT.out; simp [intOf]; omega
          | false =>
            have HEQ : Hid (bdK r (k + 1) = bdK r k ++ vi pg ++ vi ag ++ [0] ++ txt pc.b) := by
              unfold Hid
              have hwb : wb pc = 0 := by unfold wb; rw [hw]; rfl
              have e2 : r.cs[k]'HKR.out = pc := HPC2.out
              rw [bdK_succ r k HKR.out, e2, hwb, HPA.out.1, HPA.out.2, Int.toNat_natCast, Int.toNat_natCast]
              simp only [List.append_assoc]
            rw [hw] at HCB7d
            have q8 : w7.cell? ⟨wr.heap.size, 2, none⟩ = some (.bool false) := cell_of_row w7 _ 2 _ _ _ HCB7d.out.1
            obtain ⟨g8, cp8, w8, hr8, h81, h82, h83, h84, h85⟩ := append_byte (ty := 23) 0 (0 : Int) (by rfl) HX7d.out.own (by rw [← HM7.out]; have := HL7.out; omega) HX7d.out.size
            rw [← HM7.out] at hr8 h81
            have HX8 := Lib.hid (HX7d.out.step h81 (chg_byte h82 h85 h81.ownlt.2))
            have hk8 := cells_chg HCB7d.out.1 (chg_byte h82 h85 h81.ownlt.2) HCB7d.out.2
            have HK8 := Lib.hid hk8
            have hS8 : w8.cell? ⟨wr.heap.size, 3, none⟩ = some (.slice ba bn bc) := cell_of_row _ _ 3 _ _ _ hk8.1
            have hS8a : (w7.drew.alloc (.cells #[.int .u8 0] 5)).cell? ⟨wr.heap.size, 3, none⟩ = some (.slice ba bn bc) := cell_of_row _ _ 3 _ _ _ ((heap_alloc_old _ _ (Array.getElem?_eq_some_iff.1 HCB7d.out.1).1).trans HCB7d.out.1)
            have hS7 : w7.drew.cell? ⟨wr.heap.size, 3, none⟩ = some (.slice ba bn bc) := cell_of_row _ _ 3 _ _ _ HCB7d.out.1
            have hrd8 := ((HH.out.newer HB1.out.1 HX8.out.bl (Nat.le_succ _)).cs.rd _ (List.getElem_mem hkl))
            rw [HPC.out.1, HPC.out.2] at hrd8
            have ht8 := text_any w8 (w.heap.size + 1) _ _ _ _ (by rw [← HBN.out]; omega) HX8.out.own HX8.out.size (by rw [← HBN.out]; have := HL7.out; have := HM7.out; rw [List.length_append]; simp only [List.length_cons, List.length_nil]; omega) hrd8 (fun _ h => h)
            have HR8 := Lib.hid hr8
            have HT8 := Lib.hid ht8
            clear h81 h82 h83 h84 h85 hr8 ht8 hk8 hrd8 hw
            go_upto_region 15 with (fail)
            refine wp_region_U (fun W => W.cell? ⟨wr.heap.size, 3, none⟩ = some (.slice ba bn bc)) [] (by kernel_rfl) ?_
            refine wpAnyU_take (i := 0) [3, 6, 7] rfl (by as_aux_lemma => kernel_rfl) (by as_aux_lemma => kernel_rfl) (by as_aux_lemma => kernel_rfl) (by as_aux_lemma => kernel_rfl) (by as_aux_lemma => kernel_rfl) (by as_aux_lemma => kernel_rfl) (fun _ _ _ h => h) (Or.inl ⟨by rfl, (by intro W hSW; (try dsimp only at hSW); (try go_split_ands); go_simp <;> with_reducible rfl)⟩) hS7 ?_
            try simp only [Act.put, List.getElem_toArray, List.getElem_cons_succ, List.getElem_cons_zero, List.setIfInBounds_toArray, List.set_cons_zero, List.set_cons_succ]
            refine wpAnyU_take (i := 1) [2, 3, 6, 7] rfl (by as_aux_lemma => kernel_rfl) (by as_aux_lemma => kernel_rfl) (by as_aux_lemma => kernel_rfl) (by as_aux_lemma => kernel_rfl) (by as_aux_lemma => kernel_rfl) (by as_aux_lemma => kernel_rfl) (fun _ _ _ h => h) (Or.inl ⟨by rfl, (by intro W hSW; (try dsimp only at hSW); (try go_split_ands); go_simp <;> with_reducible rfl)⟩) hS7 ?_
            try simp only [Act.put, List.getElem_toArray, List.getElem_cons_succ, List.getElem_cons_zero, List.setIfInBounds_toArray, List.set_cons_zero, List.set_cons_succ]
            refine wpAnyU_take (i := 4) [5, 6, 7] rfl (by as_aux_lemma => kernel_rfl) (by as_aux_lemma => kernel_rfl) (by as_aux_lemma => kernel_rfl) (by as_aux_lemma => kernel_rfl) (by as_aux_lemma => kernel_rfl) (by as_aux_lemma => kernel_rfl) (fun _ _ _ h => h) (Or.inl ⟨by rfl, (by intro W hSW; (try dsimp only at hSW); (try go_split_ands); go_simp <;> with_reducible rfl)⟩) hS7 ?_
            try simp only [Act.put, List.getElem_toArray, List.getElem_cons_succ, List.getElem_cons_zero, List.setIfInBounds_toArray, List.set_cons_zero, List.set_cons_succ]
            refine wpAnyU_take (i := 5) [6, 7] rfl (by as_aux_lemma => kernel_rfl) (by as_aux_lemma => kernel_rfl) (by as_aux_lemma => kernel_rfl) (by as_aux_lemma => kernel_rfl) (by as_aux_lemma => kernel_rfl) (by as_aux_lemma => kernel_rfl) (fun _ _ _ h => h) (Or.inl ⟨by rfl, (by intro W hSW; (try dsimp only at hSW); (try go_split_ands); go_simp <;> with_reducible rfl)⟩) hS7 ?_
            try simp only [Act.put, List.getElem_toArray, List.getElem_cons_succ, List.getElem_cons_zero, List.setIfInBounds_toArray, List.set_cons_zero, List.set_cons_succ]
            refine wpAnyU_one (i := 2) (by kernel_rfl) rfl (fun K hK => ?_)
            go_simp
            refine hK.out _ _ (fun _ => hS8a) (fun _ => ?_)
            clear hK K
            try simp only [Act.put, List.getElem_toArray, List.getElem_cons_succ, List.getElem_cons_zero, List.setIfInBounds_toArray, List.set_cons_zero, List.set_cons_succ]
            refine wpAnyU_one (i := 3) (by kernel_rfl) rfl (fun K hK => ?_)
            refine step_append_is rfl rfl HR8.out rfl rfl ?_
            refine hK.out _ _ (fun _ => hS8) (fun _ => ?_)
            clear hK K
            try simp only [Act.put, List.getElem_toArray, List.getElem_cons_succ, List.getElem_cons_zero, List.setIfInBounds_toArray, List.set_cons_zero, List.set_cons_succ]
            refine wpAnyU_one (i := 6) (by kernel_rfl) rfl (fun K hK => ?_)
            go_simp
            go_at_call 62
            (with_reducible refine HT8.out.mono ?_)
            rintro e w9 ⟨g9, m9, cp9, rfl, hm9, ho9, hc9, hgg9⟩
            have HX9 := Lib.hid (HX8.out.step ho9 hc9)
            have hk9 := cells_chg HK8.out.1 hc9 (by rw [← B1_bf]; exact HK8.out.2)
            have hS9 : w9.cell? ⟨wr.heap.size, 3, none⟩ = some (.slice ba bn bc) := cell_of_row _ _ 3 _ _ _ hk9.1
            clear hm9 ho9 hc9 hgg9 hk9
            refine hK.out _ _ (fun _ => hS9) (fun _ => ?_)
            clear hK K
            try simp only [Act.put, List.getElem_toArray, List.getElem_cons_succ, List.getElem_cons_zero, List.setIfInBounds_toArray, List.set_cons_zero, List.set_cons_succ]
            refine wpAnyU_take (i := 7) [] rfl (by as_aux_lemma => kernel_rfl) (by as_aux_lemma => kernel_rfl) (by as_aux_lemma => kernel_rfl) (by as_aux_lemma => kernel_rfl) (by as_aux_lemma => kernel_rfl) (by as_aux_lemma => kernel_rfl) (fun _ _ _ h => h) (Or.inl ⟨by rfl, (by intro W hSW; (try dsimp only at hSW); (try go_split_ands); go_simp <;> with_reducible rfl)⟩) hS9 ?_
            try simp only [Act.put, List.getElem_toArray, List.getElem_cons_succ, List.getElem_cons_zero, List.setIfInBounds_toArray, List.set_cons_zero, List.set_cons_succ]
            refine wpAnyU_done (by kernel_rfl) ?_ _
            clear hS7 hS8 hS8a hS9 q8
            go_wp2
            go_roundw
            case rel => exact ⟨k + 1, by have := HLT.out; omega, by go_num, by rw [HEQ.out]; exact HX9.out⟩
            case measure => have := HLT.out; simp [intOf]; omega
        · obtain rfl : k = n := by omega
          have HXE : Hid (OwnB wr (w.heap.size + 1) 5 (.slice ua un uc) (bodyR r)) := by
            have h9 := HSS.out.own
            rw [← HN.out, HH.out.len, bdK_all] at h9
            exact h9
          have hp : 0 < (bodyR r).length := by have := bodyR_pos r; omega
          obtain ⟨g9, c9, hv9, h91, -⟩ := HXE.out.at_ hp
          injection hv9 with e1 e2 e3
          subst e1 e2 e3
          have HBL := Lib.hid (HB1.out.1.trans (HSS.out.bl.mono (Nat.le_succ _)))
          clear hp HXE
          have HXE2 := Lib.hid (HSS.out.own)
          go_wp2
          go_ret
          refine ⟨_, _, _, rfl, rfl, ?_, HBL.out⟩
          have h9 := HXE2.out
          rw [← HN.out, HH.out.len, bdK_all] at h9
          exact ownsRow_base h9 (fun k hk => Nat.le_of_succ_le (h9.lt k hk).1)
end Mun
end

section
/- Contracts of what sums and writes a record whole. -/
set_option maxRecDepth 100000
set_option linter.unusedVariables false
set_option linter.unusedSimpArgs false
namespace Mun
open Go Go.RowKit
open Go.Proofs

theorem summed_any {F : Foot} (w : World) (lsn : Nat) (v : Value) (b : List UInt8) (hv : RdB F w v b) (hn : lsn < 18446744073709551616) :
    Calls Try.prog 36 #[.int .u64 lsn, v] w fun e w' => e = .returned (.int .u32 ((sumR lsn b).toNat : Int)) ∧ Below w.heap.size w w' := by
  obtain ⟨a, c, rfl, _, _⟩ := hv.form
  have hl := lay_any w w.heap.size (.slice none 0 0) [] lsn 8 8 rfl (by omega) (OwnB.nil _ _ _) (Nat.le_refl _) (by simp)
  have HV := Lib.hid hv
  have HL := Lib.hid hl
  clear hv hl
  go_enter Try.func36, Try.ntmps36
  go_wp2_with fail
  refine HL.out.mono ?_
  rintro e w1 ⟨u, rfl, ho, hb⟩
  rw [List.nil_append] at ho
  obtain ⟨g, cp, rfl, -⟩ := ho.at_ (by rw [leBytes_length]; omega)
  have hof := of_any (F := NoF) w1 _ (leBytes 8 lsn) _ rfl (ho.rd (fun _ _ => noF _))
  have hmo := more_any w1 _ (crcOf (leBytes 8 lsn)) _ b rfl (HV.out.below hb)
  have hq : crcMore (crcOf (leBytes 8 lsn)) b = sumR lsn b := by
    unfold sumR crcOf
    rw [crcMore_append]
  rw [hq] at hmo
  have HB := Lib.hid hb
  have HO := Lib.hid hof
  have HM := Lib.hid hmo
  clear hof hmo hq hb ho HL HV
  go_wp2_with fail
  refine HO.out.mono ?_
  rintro e w2 ⟨rfl, rfl⟩
  go_wp2_with fail
  refine HM.out.mono ?_
  rintro e w2 ⟨rfl, rfl⟩
  go_wp2
  go_ret
  exact ⟨rfl, HB.out⟩

theorem RecAt.open {F : Foot} {w : World} {r : PR} {x : RV} (h : RecAt F w r x) : ∃ da dn dc ca cn cc, x.dv = .slice da dn dc ∧ x.cv = .slice ca cn cc ∧ Hid (dn = r.data.length ∧ cn = r.cs.length ∧ dn ≤ maxLen ∧ cn ≤ maxLen) := by
  obtain ⟨da, dc, hdv, h1, h2⟩ := h.data.form
  obtain ⟨ca, cc, hcv, h3, h4⟩ := h.cs.row.form
  exact ⟨da, _, dc, ca, _, cc, hdv, hcv, rfl, h.len, Nat.le_trans h1 h2, Nat.le_trans h3 h4⟩

/-- the cells of a record -/
def rcs (r : PR) (dv cv : Value) : Array Value := #[.int .i64 r.kind, .int .u64 r.tx, .int .u64 r.prev, .int .u64 r.next, dv, cv]

theorem bytes_no {F : Foot} (w : World) (r : PR) (x : RV) (lsn : Nat) (h : RecAt F w r x) (hg : goodR r = false) :
    Calls Try.prog 10 #[rval r x, .int .u64 lsn] w fun e w' => e = .returned (.tuple #[.slice none 0 0, .int .i64 1]) ∧ Below w.heap.size w w' := by
  obtain ⟨da, dn, dc, ca, cn, cc, e1, e2, -⟩ := h.open
  have hgd := fun w1 (hb : Below w.heap.size w w1) => rgood_any w1 r x (h.below hb)
  unfold rval at hgd ⊢
  rw [e1, e2, hg] at hgd
  rw [e1, e2]
  have HG := Lib.hid hgd
  clear hgd h e1 e2 hg
  go_enter Try.func10, Try.ntmps10
  go_wp2_with fail
  refine (HG.out _ ((Below.refl _ _).alloc (Nat.le_refl _) _)).mono ?_
  rintro e w2 ⟨rfl, hb2⟩
  have HB : Hid (Below w.heap.size w w2) := ((Below.refl _ _).alloc (Nat.le_refl _) _).trans (hb2.mono (by simp))
  clear hb2
  go_wp2
  go_ret2
  exact ⟨rfl, HB.out⟩

theorem not_true_run : ∀ (b : Bool) (w : World), (Op.unary .not (.bool b)).run Try.prog w = .ok (.bool (!b)) w := fun _ _ => rfl

/-- the six cells of a record in a block that stays -/
theorem box6 {w w2 : World} {b : Nat} {r : PR} {dv cv : Value} {ty : TypeId} (h : w2.heap[b]? = some (.cells (rcs r dv cv) ty (0, 0))) :
    w2.cell? ⟨b, 0, none⟩ = some (.int .i64 r.kind) ∧ w2.cell? ⟨b, 1, none⟩ = some (.int .u64 r.tx) ∧ w2.cell? ⟨b, 2, none⟩ = some (.int .u64 r.prev) ∧ w2.cell? ⟨b, 3, none⟩ = some (.int .u64 r.next) ∧ w2.cell? ⟨b, 4, none⟩ = some dv ∧ w2.cell? ⟨b, 5, none⟩ = some cv :=
  ⟨cell_of_row _ _ 0 _ _ _ h, cell_of_row _ _ 1 _ _ _ h, cell_of_row _ _ 2 _ _ _ h, cell_of_row _ _ 3 _ _ _ h, cell_of_row _ _ 4 _ _ _ h, cell_of_row _ _ 5 _ _ _ h⟩

theorem box_at {w w2 : World} {cs : Array Value} {ty : TypeId} (hb : Below (w.alloc (.cells cs ty)).heap.size (w.alloc (.cells cs ty)) w2) : w2.heap[w.heap.size]? = some (.cells cs ty (0, 0)) := by
  rw [hb.block _ (by simp)]; exact heap_alloc_new w _

theorem bytes_big {F : Foot} (w : World) (r : PR) (x : RV) (lsn : Nat) (h : RecAt F w r x) (hg : goodR r = true) (hsz : szR r ≤ 4194304) (hbig : 1048576 < (bodyR r).length) :
    Calls Try.prog 10 #[rval r x, .int .u64 lsn] w fun e w' => e = .returned (.tuple #[.slice none 0 0, .int .i64 2]) ∧ Below w.heap.size w w' := by
  obtain ⟨da, dn, dc, ca, cn, cc, e1, e2, -⟩ := h.open
  have hgd := fun w1 (hb : Below w.heap.size w w1) => rgood_any w1 r x (h.below hb)
  have hbd := fun w1 (hb : Below w.heap.size w w1) => body_any w1 r x (h.below hb) hg hsz
  unfold rval at hgd hbd ⊢
  simp only [e1, e2, hg] at hgd hbd
  rw [e1, e2]
  have HG := Lib.hid hgd
  have HD := Lib.hid hbd
  have HBG := Lib.hid hbig
  have hb0 : Below w.heap.size w (w.alloc (.cells (rcs r (.slice da dn dc) (.slice ca cn cc)) 26)) := (Below.refl _ _).alloc (Nat.le_refl _) _
  have HB0 := Lib.hid hb0
  clear hgd hbd h e1 e2 hg hsz hbig hb0
  go_enter Try.func10, Try.ntmps10
  go_wp2_with fail
  refine (HG.out _ ((Below.refl _ _).alloc (Nat.le_refl _) _)).mono ?_
  rintro e w2 ⟨rfl, hb2⟩
  obtain ⟨c0, c1, c2, c3, c4, c5⟩ := box6 (w := w) (r := r) (box_at hb2)
  have HB : Hid (Below w.heap.size w w2) := ((Below.refl _ _).alloc (Nat.le_refl _) _).trans (hb2.mono (by simp))
  clear hb2
  go_wp2_with fail
  refine (HD.out _ HB.out).mono ?_
  rintro e w3 ⟨g, n, cp, rfl, HN, -, hb3⟩
  have HB3 : Hid (Below w.heap.size w w3) := HB.out.trans (hb3.mono HB.out.size)
  have hn : (1048576 : Int) < (n : Int) := by have := HN.out; have := HBG.out; omega
  clear hb3 c0 c1 c2 c3 c4 c5
  go_wp2
  go_ret2
  exact ⟨rfl, HB3.out⟩

/-- what Bytes hands back -/
def RBytesOut (w : World) (l : List UInt8) (e : Ending) (w' : World) : Prop :=
  ∃ g n c, e = .returned (.tuple #[.slice (some ⟨g, 0, none⟩) n c, .int .i64 0]) ∧ Hid (n = l.length) ∧ OwnB w' w.heap.size 5 (.slice (some ⟨g, 0, none⟩) n c) l ∧ Below w.heap.size w w'

theorem OwnB.formN {w : World} {base : Nat} {v : Value} {l : List UInt8} (h : OwnB w base 5 v l) (hp : 0 < l.length) : ∃ g n c, v = .slice (some ⟨g, 0, none⟩) n c ∧ Hid (n = l.length) ∧ base ≤ g ∧ g < w.heap.size := by
  obtain ⟨g, c, rfl, h1, h2, -⟩ := h.at_ hp
  exact ⟨g, _, c, rfl, rfl, h1, h2⟩

set_option maxHeartbeats 1000000 in
theorem bytes_ok {F : Foot} (w : World) (r : PR) (x : RV) (lsn : Nat) (hl : lsn < 18446744073709551616) (h : RecAt F w r x) (hg : goodR r = true) (hsz : szR r ≤ 4194304) (hbig : (bodyR r).length ≤ 1048576) :
    Calls Try.prog 10 #[rval r x, .int .u64 lsn] w (RBytesOut w (recB r lsn)) := by
  obtain ⟨da, dn, dc, ca, cn, cc, e1, e2, -⟩ := h.open
  have hgd := fun w1 (hb : Below w.heap.size w w1) => rgood_any w1 r x (h.below hb)
  have hbd := fun w1 (hb : Below w.heap.size w w1) => body_any w1 r x (h.below hb) hg hsz
  unfold rval at hgd hbd ⊢
  simp only [e1, e2, hg] at hgd hbd
  rw [e1, e2]
  have HG := Lib.hid hgd
  have HD := Lib.hid hbd
  have HBG := Lib.hid hbig
  have HLS := Lib.hid hl
  clear hgd hbd h e1 e2 hg hsz hbig hl
  go_enter Try.func10, Try.ntmps10
  go_wp2_with fail
  refine (HG.out _ ((Below.refl _ _).alloc (Nat.le_refl _) _)).mono ?_
  rintro e w2 ⟨rfl, hb2⟩
  obtain ⟨c0, c1, c2, c3, c4, c5⟩ := box6 (w := w) (r := r) (box_at hb2)
  have HB : Hid (Below w.heap.size w w2) := ((Below.refl _ _).alloc (Nat.le_refl _) _).trans (hb2.mono (by simp))
  clear hb2
  go_wp2_with fail
  refine (HD.out _ HB.out).mono ?_
  rintro e w3 ⟨g, n, cp, rfl, HN, ho3, hb3⟩
  have HB3 : Hid (Below w.heap.size w w3) := HB.out.trans (hb3.mono HB.out.size)
  have hn : (n : Int) ≤ 1048576 := by have := HN.out; have := HBG.out; omega
  have hmk := make_bytes0 (8 + n) (by omega) w3
  rw [show ((8 + n : Nat) : Int) = 8 + (n : Int) by omega] at hmk
  have hown0 : OwnB (w3.alloc (bobj (List.replicate (8 + n) 0))) w3.heap.size 5 (.slice (some ⟨w3.heap.size, 0, none⟩) 0 (8 + n)) [] := by
    refine ⟨by simp [bv], .inr ⟨_, _, _, rfl, Nat.le_refl _, heap_alloc_new w3 _, Nat.zero_le _, by unfold maxLen; omega, by simp [bv], by simp [bv]⟩⟩
  have hl1 := lay_any (w3.alloc (bobj (List.replicate (8 + n) 0))) w3.heap.size _ [] n 4 4 rfl (by omega) hown0 (by simp) (by simp)
  rw [List.nil_append] at hl1
  obtain ⟨w4, hw4⟩ : ∃ w4, w3.alloc (bobj (List.replicate (8 + n) 0)) = w4 := ⟨_, rfl⟩
  have hb4 : Below w3.heap.size w3 w4 := by rw [← hw4]; exact (Below.refl _ _).alloc (Nat.le_refl _) _
  rw [hw4] at hmk hl1
  have HL1 := Lib.hid hl1
  have HB4 := Lib.hid hb4
  have HO3 := Lib.hid ho3
  have HMK := Lib.hid hmk
  clear ho3 hb3 c0 c1 c2 c3 c4 c5 hown0 hl1 hb4 hw4 hmk
  have hmk := HMK.out
  go_wp2_with fail
  refine HL1.out.mono ?_
  rintro e w5 ⟨v5, rfl, ho5, hb5⟩
  obtain ⟨g5, n5, c5, rfl, HN5, hg5, -⟩ := ho5.formN (by rw [leBytes_length]; omega)
  have hb35 : Below w3.heap.size w3 w5 := HB4.out.trans hb5
  have hrd5 : RdB NoF w5 (.slice (some ⟨g, 0, none⟩) n cp) (bodyR r) := RdB.below (HO3.out.rd (fun _ _ => noF _)) hb35
  have hsm := summed_any w5 lsn _ _ hrd5 HLS.out
  have HB35 := Lib.hid hb35
  have HO5 := Lib.hid ho5
  have HSM := Lib.hid hsm
  have HR5 := Lib.hid hrd5
  have hs0 : (0 : Int) ≤ ((sumR lsn (bodyR r)).toNat : Int) := by omega
  have hs1 : ((sumR lsn (bodyR r)).toNat : Int) ≤ 4294967295 := by have := (sumR lsn (bodyR r)).isLt; omega
  clear hmk hb5 ho5 hb35 hsm hrd5
  go_wp2_with fail
  refine HSM.out.mono ?_
  rintro e w6 ⟨rfl, hb6⟩
  have ho6 := HO5.out.below hb6
  have hl6 := lay_any w6 w3.heap.size _ (leBytes 4 n) (sumR lsn (bodyR r)).toNat 4 4 rfl (by omega) ho6 (by have := HB35.out.size; have := hb6.size; omega) (by rw [leBytes_length]; omega)
  have HL6 := Lib.hid hl6
  have HB36 : Hid (Below w3.heap.size w3 w6) := HB35.out.trans (hb6.mono HB35.out.size)
  have HR6 := Lib.hid (HR5.out.below hb6)
  clear ho6 hl6 hb6
  go_wp2_with fail
  refine HL6.out.mono ?_
  rintro e w7 ⟨v7, rfl, ho7, hb7⟩
  obtain ⟨g7, n7, c7, rfl, HN7, hg7, -⟩ := ho7.formN (by simp only [List.length_append, leBytes_length]; omega)
  have hb37 : Below w3.heap.size w3 w7 := HB36.out.trans hb7
  have hrd7 : RdB NoF w7 (.slice (some ⟨g, 0, none⟩) n cp) (bodyR r) := RdB.below (HO3.out.rd (fun _ _ => noF _)) hb37
  obtain ⟨v8, w8, hr8, h81, h82, h83, h84⟩ := append_bytes (ty := 23) ho7 hrd7 (by simp only [List.length_append, leBytes_length]; have := HN.out; omega) hb37.size
  obtain ⟨g8, n8, c8, rfl, HN8, hg8, hlt8⟩ := OwnB.formN h81 (by simp only [List.length_append, leBytes_length]; omega)
  have hb38 : Below w3.heap.size w3 w8 := hb37.grown h82 hb37.size (fun k hk => (ho7.lt k hk).1)
  have HE : Hid (leBytes 4 n ++ leBytes 4 (sumR lsn (bodyR r)).toNat ++ bodyR r = recB r lsn) := by unfold recB; rw [HN.out]; rfl
  have HR8 := Lib.hid hr8
  have HB38 := Lib.hid hb38
  have HO8 := Lib.hid h81
  clear h81 h82 h83 h84 hr8 hb38 hrd7 hb37 ho7 hb7
  go_wp2_with (at_builtin; refine wpList_append_eq rfl rfl HR8.out rfl rfl ?_)
  go_ret2
  refine ⟨g8, n8, c8, rfl, ?_, ?_, HB3.out.trans (HB38.out.mono HB3.out.size)⟩
  · rw [← HE.out]; exact HN8
  · rw [← HE.out]; exact ownsRow_base HO8.out (fun k hk => by have := (HO8.out.lt k hk).1; have := HB3.out.size; omega)
end Mun
end
